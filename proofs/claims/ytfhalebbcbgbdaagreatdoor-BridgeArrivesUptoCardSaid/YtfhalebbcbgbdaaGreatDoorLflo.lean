/-
  Lflo: the flow to one receiver, and that from one, as plain functions.
-/
import Derived.Test.YtfhalebbcbgbdaaGreatDoorCout
import Derived.Test.YtfhalebbcbgbdaaGreatDoorCpk
namespace Go.Proofs.YtfhalebbcbgbdaaGreatDoor
open Go.H Go.Proofs
set_option linter.unusedSimpArgs false
set_option linter.unusedVariables false

abbrev PropT := Int × Int × ByteArray × ByteArray
abbrev e0S : ByteArray := ByteArray.mk #[]
abbrev tagS : ByteArray := ByteArray.mk #[116, 97, 103]

/-- a packet that is sent -/
structure PkO where
  kind : Int
  dup : Bool
  retain : Bool
  qos : Int
  id : Int
  topic : ByteArray
  payload : ByteArray
  code : Int
  props : List PropT
  codes : List Int
  session : Bool

def tagP (t : ByteArray) : List PropT := if t = e0S then [] else [(38, 0, tagS, t)]
def pubO (m : MsT) (id : Int) (dup : Bool) : PkO := ⟨3, dup, m.2.2.2.1, m.2.2.1, id, m.1, m.2.1, 0, tagP m.2.2.2.2, [], false⟩
def ackO (k id c : Int) : PkO := ⟨k, false, false, 0, id, e0S, e0S, c, [], [], false⟩

/-! ### what is sent to one receiver -/

open Classical in
noncomputable def nextI (used : List Int) (t : Int) : Int := if h : ∃ (u : Int) (n : Nat), Reach used n t u then Classical.choose h else 0
theorem nextI_eq {used : List Int} {n : Nat} {t u : Int} (h : Reach used n t u) : nextI used t = u := by
  unfold nextI
  have hex : ∃ (u : Int) (n : Nat), Reach used n t u := ⟨u, n, h⟩
  rw [dif_pos hex]
  obtain ⟨n', h'⟩ := Classical.choose_spec hex
  exact h'.det h

noncomputable def goF (o : OutS) : List MsT → OutS × List PkO
  | [] => ({ o with waiting := [] }, [])
  | m :: w =>
    if 0 < m.2.2.1 ∧ o.most ≤ (o.flights.length : Int) then ({ o with waiting := m :: w }, [])
    else if 0 < m.2.2.1 then
      let id := nextI o.pool.used o.pool.taken
      let r := goF { o with pool := ⟨o.pool.most, id, o.pool.used ++ [id]⟩, flights := o.flights ++ [(id, m, false)] } w
      (r.1, pubO m id false :: r.2)
    else
      let r := goF o w
      (r.1, pubO m 0 false :: r.2)
noncomputable def goOnF (o : OutS) : OutS × List PkO := if o.on = true then goF o o.waiting else (o, [])

noncomputable def sendF (o : OutS) (m : MsT) : (OutS × List PkO) × Int :=
  if m.2.2.1 < 0 ∨ 2 < m.2.2.1 then ((o, []), 155)
  else if m.2.2.1 = 0 ∧ o.on = false then ((o, []), 0)
  else if 256 ≤ o.waiting.length then ((o, []), 151)
  else (goOnF { o with waiting := o.waiting ++ [m] }, 0)

def overF (o : OutS) (id : Int) : OutS := { o with pool := ⟨o.pool.most, o.pool.taken, o.pool.used.erase id⟩, flights := o.flights.filter fun f => decide (f.1 ≠ id) }
def relF (o : OutS) (id : Int) : OutS := { o with flights := o.flights.map fun f => if f.1 = id then (f.1, f.2.1, true) else f }

noncomputable def ansF (o : OutS) (k id c : Int) : (OutS × List PkO) × Int :=
  if o.on = false ∨ (k ≠ 4 ∧ k ≠ 5 ∧ k ≠ 7) then ((o, []), 130)
  else match o.flights.find? (fun f => decide (f.1 = id)) with
    | none => ((o, []), 146)
    | some f =>
      if k = 4 then (if f.2.1.2.2.1 ≠ 1 then ((o, []), 130) else (goOnF (overF o id), 0))
      else if k = 5 then
        (if f.2.1.2.2.1 ≠ 2 ∨ (128 ≤ c ∧ f.2.2 = true) then ((o, []), 130)
        else if 128 ≤ c then (goOnF (overF o id), 0)
        else (((goOnF (relF o id)).1, ackO 6 id 0 :: (goOnF (relF o id)).2), 0))
      else (if f.2.2 = false then ((o, []), 130) else (goOnF (overF o id), 0))

def againF (f : FlT) : PkO := if f.2.2 = true then ackO 6 f.1 0 else pubO f.2.1 f.1 true
noncomputable def beginF (o : OutS) (most : Int) : OutS × List PkO :=
  let r := goOnF { o with on := true, most := max 1 (min most 64) }
  (r.1, o.flights.map againF ++ r.2)

/-- what holds of every flow -/
structure FlowOK (o : OutS) : Prop where
  pm : o.pool.most = 64
  pk : o.pool.ok
  m1 : 1 ≤ o.most
  m64 : o.most ≤ 64
  ids : o.flights.map (·.1) = o.pool.used
  wl : o.waiting.length ≤ 256
  fq : ∀ f ∈ o.flights, 1 ≤ f.2.1.2.2.1 ∧ f.2.1.2.2.1 ≤ 2 ∧ (f.2.2 = true → f.2.1.2.2.1 = 2)
  wq : ∀ m ∈ o.waiting, 0 ≤ m.2.2.1 ∧ m.2.2.1 ≤ 2

theorem FlowOK.flen {o : OutS} (h : FlowOK o) : o.flights.length = o.pool.used.length := by rw [← h.ids, List.length_map]
theorem FlowOK.f64 {o : OutS} (h : FlowOK o) : o.flights.length ≤ 64 := by
  have := h.pk.len
  rw [h.pm] at this
  rw [h.flen]; omega

theorem FlowOK.new : FlowOK ⟨⟨64, 0, []⟩, 64, false, [], []⟩ where
  pm := rfl
  pk := ⟨by decide, by decide, by decide, by decide, by simp, by simp, by simp⟩
  m1 := by decide
  m64 := by decide
  ids := rfl
  wl := by simp
  fq := by simp
  wq := by simp

/-- room for one more: an identifier is found -/
theorem FlowOK.next {o : OutS} (h : FlowOK o) (hl : (o.flights.length : Int) < o.most) : ∃ n, Reach o.pool.used n o.pool.taken (nextI o.pool.used o.pool.taken) := by
  have h1 := h.pk.len
  have h2 := h.pm
  obtain ⟨n, u, hu⟩ := reach_ex o.pool.used o.pool.taken h.pk.taken0 h.pk.nodup (by omega)
  exact ⟨n, by rw [nextI_eq hu]; exact hu⟩

theorem FlowOK.take {o : OutS} (h : FlowOK o) {m : MsT} {w : List MsT} (hw : w.length ≤ 256) (hwq : ∀ x ∈ w, 0 ≤ x.2.2.1 ∧ x.2.2.1 ≤ 2) (hm : 0 < m.2.2.1 ∧ m.2.2.1 ≤ 2) (hl : (o.flights.length : Int) < o.most) :
    FlowOK { o with pool := ⟨o.pool.most, nextI o.pool.used o.pool.taken, o.pool.used ++ [nextI o.pool.used o.pool.taken]⟩, flights := o.flights ++ [(nextI o.pool.used o.pool.taken, m, false)], waiting := w } := by
  obtain ⟨n, hr⟩ := h.next hl
  have hrg := hr.range h.pk.taken0
  have h2 := h.pm
  have h3 := h.flen
  have h4 := h.m64
  refine ⟨h.pm, ok_add h.pk hrg.1 hrg.2.1 hrg.2.2 (by omega) (by omega) (by omega), h.m1, h.m64, ?_, hw, ?_, hwq⟩
  · simp only [List.map_append, List.map_cons, List.map_nil, h.ids]
  · intro f hf
    rcases List.mem_append.1 hf with hf | hf
    · exact h.fq f hf
    · have := List.mem_singleton.1 hf
      subst this
      exact ⟨by simp only; omega, by simp only; omega, fun e => by cases e⟩

theorem goF_ok : ∀ (w : List MsT) {o : OutS}, FlowOK o → w.length ≤ 256 → (∀ x ∈ w, 0 ≤ x.2.2.1 ∧ x.2.2.1 ≤ 2) → FlowOK (goF o w).1 ∧ (goF o w).2.length ≤ w.length ∧ (goF o w).1.on = o.on ∧ (goF o w).1.most = o.most
  | [], o, h, _, _ => ⟨⟨h.pm, h.pk, h.m1, h.m64, h.ids, by simp [goF], h.fq, by simp [goF]⟩, by simp [goF], rfl, rfl⟩
  | m :: w, o, h, hl, hq => by
    have hl' : w.length ≤ 256 := by simp only [List.length_cons] at hl; omega
    have hq' : ∀ x ∈ w, 0 ≤ x.2.2.1 ∧ x.2.2.1 ≤ 2 := fun x hx => hq x (List.mem_cons_of_mem _ hx)
    have hm := hq m (List.mem_cons_self ..)
    unfold goF
    by_cases h1 : 0 < m.2.2.1 ∧ o.most ≤ (o.flights.length : Int)
    · rw [if_pos h1]
      exact ⟨⟨h.pm, h.pk, h.m1, h.m64, h.ids, hl, h.fq, hq⟩, by simp, rfl, rfl⟩
    · rw [if_neg h1]
      by_cases h2 : 0 < m.2.2.1
      · rw [if_pos h2]
        have h3 : (o.flights.length : Int) < o.most := by omega
        have h4 := goF_ok w (h.take (m := m) (w := o.waiting) h.wl h.wq ⟨h2, hm.2⟩ h3) hl' hq'
        refine ⟨h4.1, ?_, h4.2.2.1, h4.2.2.2⟩
        have := h4.2.1
        simp only [List.length_cons]
        exact Nat.succ_le_succ this
      · rw [if_neg h2]
        have h4 := goF_ok w h hl' hq'
        refine ⟨h4.1, ?_, h4.2.2.1, h4.2.2.2⟩
        have := h4.2.1
        simp only [List.length_cons]
        omega

theorem goOnF_ok {o : OutS} (h : FlowOK o) : FlowOK (goOnF o).1 ∧ (goOnF o).2.length ≤ 256 := by
  unfold goOnF
  split
  · have := goF_ok o.waiting h h.wl h.wq
    exact ⟨this.1, Nat.le_trans this.2.1 h.wl⟩
  · exact ⟨h, by simp⟩

theorem FlowOK.wait {o : OutS} (h : FlowOK o) {m : MsT} (hm : 0 ≤ m.2.2.1 ∧ m.2.2.1 ≤ 2) (hl : ¬ 256 ≤ o.waiting.length) : FlowOK { o with waiting := o.waiting ++ [m] } :=
  ⟨h.pm, h.pk, h.m1, h.m64, h.ids, by simp; omega, h.fq, fun x hx => by
    rcases List.mem_append.1 hx with hx | hx
    · exact h.wq x hx
    · rw [List.mem_singleton.1 hx]; exact hm⟩

theorem sendF_ok {o : OutS} (h : FlowOK o) (m : MsT) : FlowOK (sendF o m).1.1 ∧ (sendF o m).1.2.length ≤ 256 := by
  unfold sendF
  split
  · exact ⟨h, by simp⟩
  · split
    · exact ⟨h, by simp⟩
    · split
      · exact ⟨h, by simp⟩
      · rename_i h1 h2 h3
        exact goOnF_ok (h.wait ⟨by omega, by omega⟩ h3)

theorem erase_ids {l : List FlT} {u : List Int} (h : l.map (·.1) = u) (hn : u.Nodup) (id : Int) : (l.filter fun f => decide (f.1 ≠ id)).map (·.1) = u.erase id := by
  subst h
  rw [List.Nodup.erase_eq_filter hn, List.filter_map]
  congr 1
  refine List.filter_congr fun x _ => ?_
  by_cases e : x.1 = id <;> simp [e]

theorem FlowOK.over {o : OutS} (h : FlowOK o) (id : Int) : FlowOK (overF o id) :=
  ⟨h.pm, ok_del h.pk id, h.m1, h.m64, erase_ids h.ids h.pk.nodup id, h.wl, fun f hf => h.fq f (List.mem_filter.1 hf).1, h.wq⟩

theorem FlowOK.rel {o : OutS} (h : FlowOK o) {id : Int} (hq : ∀ f ∈ o.flights, f.1 = id → f.2.1.2.2.1 = 2) : FlowOK (relF o id) := by
  refine ⟨h.pm, h.pk, h.m1, h.m64, ?_, h.wl, fun f hf => ?_, h.wq⟩
  · show (o.flights.map _).map _ = o.pool.used
    rw [← h.ids, List.map_map]
    refine List.map_congr_left fun f _ => ?_
    simp only [Function.comp_apply]
    split <;> rfl
  · obtain ⟨g, hg, rfl⟩ := List.mem_map.1 hf
    by_cases e : g.1 = id
    · rw [if_pos e]
      have := h.fq g hg
      exact ⟨this.1, this.2.1, fun _ => hq g hg e⟩
    · rw [if_neg e]
      exact h.fq g hg

/-- an identifier stands once -/
theorem FlowOK.one {o : OutS} (h : FlowOK o) {f g : FlT} (hf : f ∈ o.flights) (hg : g ∈ o.flights) (e : f.1 = g.1) : f = g := by
  have hn := h.pk.nodup
  rw [← h.ids] at hn
  obtain ⟨i, hi⟩ := List.getElem?_of_mem hf
  obtain ⟨j, hj⟩ := List.getElem?_of_mem hg
  obtain ⟨h1, rfl⟩ := List.getElem?_eq_some_iff.1 hi
  obtain ⟨h2, rfl⟩ := List.getElem?_eq_some_iff.1 hj
  have hp := List.pairwise_iff_getElem.1 (List.pairwise_map.1 hn)
  rcases Nat.lt_trichotomy i j with h3 | h3 | h3
  · exact absurd e (hp i j h1 h2 h3)
  · subst h3; rfl
  · exact absurd e.symm (hp j i h2 h1 h3)

theorem ansF_ok {o : OutS} (h : FlowOK o) (k id c : Int) : FlowOK (ansF o k id c).1.1 ∧ (ansF o k id c).1.2.length ≤ 257 := by
  have keep : FlowOK o ∧ ([] : List PkO).length ≤ 257 := ⟨h, by simp⟩
  have over : FlowOK (goOnF (overF o id)).1 ∧ (goOnF (overF o id)).2.length ≤ 257 := ⟨(goOnF_ok (h.over id)).1, Nat.le_trans (goOnF_ok (h.over id)).2 (by decide)⟩
  unfold ansF
  split
  · exact keep
  · split
    · exact keep
    · rename_i f hf
      split
      · split
        · exact keep
        · exact over
      · split
        · split
          · exact keep
          · split
            · exact over
            · rename_i h5 h6 h7
              have hfm := List.mem_of_find?_eq_some hf
              have hfi : f.1 = id := by simpa using List.find?_some hf
              have hq : ∀ g ∈ o.flights, g.1 = id → g.2.1.2.2.1 = 2 := fun g hg e => by
                rw [h.one hg hfm (e.trans hfi.symm)]
                simp only [not_or, Classical.not_not] at h6
                exact h6.1
              have := goOnF_ok (h.rel hq)
              exact ⟨this.1, by simp only [List.length_cons]; omega⟩
        · split
          · exact keep
          · exact over

theorem beginF_ok {o : OutS} (h : FlowOK o) (most : Int) : FlowOK (beginF o most).1 ∧ (beginF o most).2.length ≤ 320 := by
  have h1 : FlowOK { o with on := true, most := max 1 (min most 64) } := ⟨h.pm, h.pk, by simp only; omega, by simp only; omega, h.ids, h.wl, h.fq, h.wq⟩
  have h2 := goOnF_ok h1
  have h3 := h.f64
  unfold beginF
  refine ⟨h2.1, ?_⟩
  simp only [List.length_append, List.length_map]
  omega

theorem FlowOK.off {o : OutS} (h : FlowOK o) (b : Bool) : FlowOK { o with on := b } := ⟨h.pm, h.pk, h.m1, h.m64, h.ids, h.wl, h.fq, h.wq⟩

end Go.Proofs.YtfhalebbcbgbdaaGreatDoor
