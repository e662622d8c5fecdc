/-
  QBrokerNil3: what the proof BrokerNilProof reaches of our texts: Lflo, Cpks, Cofl, Cenc, Hwm, Cflo, Cses, Ctab, Hx, Ltri, Ctri, Ctrb, Ctrc, Kjoin, Ctrm, Ctrn, Ctro, Lrel, Lr09, Kord, Hsrt, Csrt, Ctre, Ctpm, Ksrt, Kstr, Cret, Csr, Lsto, Kint, Cidu.
-/
import Derived.Test.YtidlldnlphdhcaaGreatDoorQBrokerNil2
import Derived.Test.YtidlldnlphdhcaaGreatDoorProg
import Derived.KernelRfl
import Derived.Shelf.Strings.OnBuilder
import Derived.Sort.Walk0
import Derived.WalkKit
import Derived.StillTailTactics
import Derived.Deep.QuietTactic
import Derived.Shelf.SlicesG.Cmp
import Derived.Shelf.Small.Strs
import Derived.Sort.Row
import Derived.Sort.Grow
import Derived.Shelf.SlSortCmp.NoneTotal
namespace Go.Proofs.YtidlldnlphdhcaaGreatDoor
open Go.H Go.Proofs
set_option linter.unusedSimpArgs false
set_option linter.unusedVariables false
abbrev PropT := Int × Int × ByteArray × ByteArray
abbrev e0S : ByteArray := ByteArray.mk #[]
abbrev tagS : ByteArray := ByteArray.mk #[116, 97, 103]
structure PkO where
  kind : Int
  dup : Bool
  retain : Bool
  qos : Int
  id : Int
  topic : ByteArray
  payload : ByteArray
  code : Int
  props : List PropT
  codes : List Int
  session : Bool
def tagP (t : ByteArray) : List PropT := if t = e0S then [] else [(38, 0, tagS, t)]
def pubO (m : MsT) (id : Int) (dup : Bool) : PkO := ⟨3, dup, m.2.2.2.1, m.2.2.1, id, m.1, m.2.1, 0, tagP m.2.2.2.2, [], false⟩
def ackO (k id c : Int) : PkO := ⟨k, false, false, 0, id, e0S, e0S, c, [], [], false⟩
open Classical in
noncomputable def nextI (used : List Int) (t : Int) : Int := if h : ∃ (u : Int) (n : Nat), Reach used n t u then Classical.choose h else 0
theorem nextI_eq {used : List Int} {n : Nat} {t u : Int} (h : Reach used n t u) : nextI used t = u := by
  unfold nextI
  have hex : ∃ (u : Int) (n : Nat), Reach used n t u := ⟨u, n, h⟩
  rw [dif_pos hex]
  obtain ⟨n', h'⟩ := Classical.choose_spec hex
  exact h'.det h
noncomputable def goF (o : OutS) : List MsT → OutS × List PkO
  | [] => ({ o with waiting := [] }, [])
  | m :: w =>
    if 0 < m.2.2.1 ∧ o.most ≤ (o.flights.length : Int) then ({ o with waiting := m :: w }, [])
    else if 0 < m.2.2.1 then
      let id := nextI o.pool.used o.pool.taken
      let r := goF { o with pool := ⟨o.pool.most, id, o.pool.used ++ [id]⟩, flights := o.flights ++ [(id, m, false)] } w
      (r.1, pubO m id false :: r.2)
    else
      let r := goF o w
      (r.1, pubO m 0 false :: r.2)
noncomputable def goOnF (o : OutS) : OutS × List PkO := if o.on = true then goF o o.waiting else (o, [])
noncomputable def sendF (o : OutS) (m : MsT) : (OutS × List PkO) × Int :=
  if m.2.2.1 < 0 ∨ 2 < m.2.2.1 then ((o, []), 155)
  else if m.2.2.1 = 0 ∧ o.on = false then ((o, []), 0)
  else if 256 ≤ o.waiting.length then ((o, []), 151)
  else (goOnF { o with waiting := o.waiting ++ [m] }, 0)
def overF (o : OutS) (id : Int) : OutS := { o with pool := ⟨o.pool.most, o.pool.taken, o.pool.used.erase id⟩, flights := o.flights.filter fun f => decide (f.1 ≠ id) }
def relF (o : OutS) (id : Int) : OutS := { o with flights := o.flights.map fun f => if f.1 = id then (f.1, f.2.1, true) else f }
noncomputable def ansF (o : OutS) (k id c : Int) : (OutS × List PkO) × Int :=
  if o.on = false ∨ (k ≠ 4 ∧ k ≠ 5 ∧ k ≠ 7) then ((o, []), 130)
  else match o.flights.find? (fun f => decide (f.1 = id)) with
    | none => ((o, []), 146)
    | some f =>
      if k = 4 then (if f.2.1.2.2.1 ≠ 1 then ((o, []), 130) else (goOnF (overF o id), 0))
      else if k = 5 then
        (if f.2.1.2.2.1 ≠ 2 ∨ (128 ≤ c ∧ f.2.2 = true) then ((o, []), 130)
        else if 128 ≤ c then (goOnF (overF o id), 0)
        else (((goOnF (relF o id)).1, ackO 6 id 0 :: (goOnF (relF o id)).2), 0))
      else (if f.2.2 = false then ((o, []), 130) else (goOnF (overF o id), 0))
def againF (f : FlT) : PkO := if f.2.2 = true then ackO 6 f.1 0 else pubO f.2.1 f.1 true
noncomputable def beginF (o : OutS) (most : Int) : OutS × List PkO :=
  let r := goOnF { o with on := true, most := max 1 (min most 64) }
  (r.1, o.flights.map againF ++ r.2)
structure FlowOK (o : OutS) : Prop where
  pm : o.pool.most = 64
  pk : o.pool.ok
  m1 : 1 ≤ o.most
  m64 : o.most ≤ 64
  ids : o.flights.map (·.1) = o.pool.used
  wl : o.waiting.length ≤ 256
  fq : ∀ f ∈ o.flights, 1 ≤ f.2.1.2.2.1 ∧ f.2.1.2.2.1 ≤ 2 ∧ (f.2.2 = true → f.2.1.2.2.1 = 2)
  wq : ∀ m ∈ o.waiting, 0 ≤ m.2.2.1 ∧ m.2.2.1 ≤ 2
theorem FlowOK.flen {o : OutS} (h : FlowOK o) : o.flights.length = o.pool.used.length := by rw [← h.ids, List.length_map]
theorem FlowOK.f64 {o : OutS} (h : FlowOK o) : o.flights.length ≤ 64 := by
  have := h.pk.len
  rw [h.pm] at this
  rw [h.flen]; omega
theorem FlowOK.new : FlowOK ⟨⟨64, 0, []⟩, 64, false, [], []⟩ where
  pm := rfl
  pk := ⟨by decide, by decide, by decide, by decide, by simp, by simp, by simp⟩
  m1 := by decide
  m64 := by decide
  ids := rfl
  wl := by simp
  fq := by simp
  wq := by simp
theorem FlowOK.next {o : OutS} (h : FlowOK o) (hl : (o.flights.length : Int) < o.most) : ∃ n, Reach o.pool.used n o.pool.taken (nextI o.pool.used o.pool.taken) := by
  have h1 := h.pk.len
  have h2 := h.pm
  obtain ⟨n, u, hu⟩ := reach_ex o.pool.used o.pool.taken h.pk.taken0 h.pk.nodup (by omega)
  exact ⟨n, by rw [nextI_eq hu]; exact hu⟩
theorem FlowOK.take {o : OutS} (h : FlowOK o) {m : MsT} {w : List MsT} (hw : w.length ≤ 256) (hwq : ∀ x ∈ w, 0 ≤ x.2.2.1 ∧ x.2.2.1 ≤ 2) (hm : 0 < m.2.2.1 ∧ m.2.2.1 ≤ 2) (hl : (o.flights.length : Int) < o.most) :
    FlowOK { o with pool := ⟨o.pool.most, nextI o.pool.used o.pool.taken, o.pool.used ++ [nextI o.pool.used o.pool.taken]⟩, flights := o.flights ++ [(nextI o.pool.used o.pool.taken, m, false)], waiting := w } := by
  obtain ⟨n, hr⟩ := h.next hl
  have hrg := hr.range h.pk.taken0
  have h2 := h.pm
  have h3 := h.flen
  have h4 := h.m64
  refine ⟨h.pm, ok_add h.pk hrg.1 hrg.2.1 hrg.2.2 (by omega) (by omega) (by omega), h.m1, h.m64, ?_, hw, ?_, hwq⟩
  · simp only [List.map_append, List.map_cons, List.map_nil, h.ids]
  · intro f hf
    rcases List.mem_append.1 hf with hf | hf
    · exact h.fq f hf
    · have := List.mem_singleton.1 hf
      subst this
      exact ⟨by simp only; omega, by simp only; omega, fun e => by cases e⟩
theorem goF_ok : ∀ (w : List MsT) {o : OutS}, FlowOK o → w.length ≤ 256 → (∀ x ∈ w, 0 ≤ x.2.2.1 ∧ x.2.2.1 ≤ 2) → FlowOK (goF o w).1 ∧ (goF o w).2.length ≤ w.length ∧ (goF o w).1.on = o.on ∧ (goF o w).1.most = o.most
  | [], o, h, _, _ => ⟨⟨h.pm, h.pk, h.m1, h.m64, h.ids, by simp [goF], h.fq, by simp [goF]⟩, by simp [goF], rfl, rfl⟩
  | m :: w, o, h, hl, hq => by
    have hl' : w.length ≤ 256 := by simp only [List.length_cons] at hl; omega
    have hq' : ∀ x ∈ w, 0 ≤ x.2.2.1 ∧ x.2.2.1 ≤ 2 := fun x hx => hq x (List.mem_cons_of_mem _ hx)
    have hm := hq m (List.mem_cons_self ..)
    unfold goF
    by_cases h1 : 0 < m.2.2.1 ∧ o.most ≤ (o.flights.length : Int)
    · rw [if_pos h1]
      exact ⟨⟨h.pm, h.pk, h.m1, h.m64, h.ids, hl, h.fq, hq⟩, by simp, rfl, rfl⟩
    · rw [if_neg h1]
      by_cases h2 : 0 < m.2.2.1
      · rw [if_pos h2]
        have h3 : (o.flights.length : Int) < o.most := by omega
        have h4 := goF_ok w (h.take (m := m) (w := o.waiting) h.wl h.wq ⟨h2, hm.2⟩ h3) hl' hq'
        refine ⟨h4.1, ?_, h4.2.2.1, h4.2.2.2⟩
        have := h4.2.1
        simp only [List.length_cons]
        exact Nat.succ_le_succ this
      · rw [if_neg h2]
        have h4 := goF_ok w h hl' hq'
        refine ⟨h4.1, ?_, h4.2.2.1, h4.2.2.2⟩
        have := h4.2.1
        simp only [List.length_cons]
        omega
theorem goOnF_ok {o : OutS} (h : FlowOK o) : FlowOK (goOnF o).1 ∧ (goOnF o).2.length ≤ 256 := by
  unfold goOnF
  split
  · have := goF_ok o.waiting h h.wl h.wq
    exact ⟨this.1, Nat.le_trans this.2.1 h.wl⟩
  · exact ⟨h, by simp⟩
theorem FlowOK.wait {o : OutS} (h : FlowOK o) {m : MsT} (hm : 0 ≤ m.2.2.1 ∧ m.2.2.1 ≤ 2) (hl : ¬ 256 ≤ o.waiting.length) : FlowOK { o with waiting := o.waiting ++ [m] } :=
  ⟨h.pm, h.pk, h.m1, h.m64, h.ids, by simp; omega, h.fq, fun x hx => by
    rcases List.mem_append.1 hx with hx | hx
    · exact h.wq x hx
    · rw [List.mem_singleton.1 hx]; exact hm⟩
theorem q_ic {o : OutS} (h : FlowOK o) (m : MsT) : FlowOK (sendF o m).1.1 ∧ (sendF o m).1.2.length ≤ 256 := by
  unfold sendF
  split
  · exact ⟨h, by simp⟩
  · split
    · exact ⟨h, by simp⟩
    · split
      · exact ⟨h, by simp⟩
      · rename_i h1 h2 h3
        exact goOnF_ok (h.wait ⟨by omega, by omega⟩ h3)
theorem erase_ids {l : List FlT} {u : List Int} (h : l.map (·.1) = u) (hn : u.Nodup) (id : Int) : (l.filter fun f => decide (f.1 ≠ id)).map (·.1) = u.erase id := by
  subst h
  rw [List.Nodup.erase_eq_filter hn, List.filter_map]
  congr 1
  refine List.filter_congr fun x _ => ?_
  by_cases e : x.1 = id <;> simp [e]
theorem FlowOK.over {o : OutS} (h : FlowOK o) (id : Int) : FlowOK (overF o id) :=
  ⟨h.pm, ok_del h.pk id, h.m1, h.m64, erase_ids h.ids h.pk.nodup id, h.wl, fun f hf => h.fq f (List.mem_filter.1 hf).1, h.wq⟩
theorem FlowOK.rel {o : OutS} (h : FlowOK o) {id : Int} (hq : ∀ f ∈ o.flights, f.1 = id → f.2.1.2.2.1 = 2) : FlowOK (relF o id) := by
  refine ⟨h.pm, h.pk, h.m1, h.m64, ?_, h.wl, fun f hf => ?_, h.wq⟩
  · show (o.flights.map _).map _ = o.pool.used
    rw [← h.ids, List.map_map]
    refine List.map_congr_left fun f _ => ?_
    simp only [Function.comp_apply]
    split <;> rfl
  · obtain ⟨g, hg, rfl⟩ := List.mem_map.1 hf
    by_cases e : g.1 = id
    · rw [if_pos e]
      have := h.fq g hg
      exact ⟨this.1, this.2.1, fun _ => hq g hg e⟩
    · rw [if_neg e]
      exact h.fq g hg
theorem FlowOK.one {o : OutS} (h : FlowOK o) {f g : FlT} (hf : f ∈ o.flights) (hg : g ∈ o.flights) (e : f.1 = g.1) : f = g := by
  have hn := h.pk.nodup
  rw [← h.ids] at hn
  obtain ⟨i, hi⟩ := List.getElem?_of_mem hf
  obtain ⟨j, hj⟩ := List.getElem?_of_mem hg
  obtain ⟨h1, rfl⟩ := List.getElem?_eq_some_iff.1 hi
  obtain ⟨h2, rfl⟩ := List.getElem?_eq_some_iff.1 hj
  have hp := List.pairwise_iff_getElem.1 (List.pairwise_map.1 hn)
  rcases Nat.lt_trichotomy i j with h3 | h3 | h3
  · exact absurd e (hp i j h1 h2 h3)
  · subst h3; rfl
  · exact absurd e.symm (hp j i h2 h1 h3)
theorem ansF_ok {o : OutS} (h : FlowOK o) (k id c : Int) : FlowOK (ansF o k id c).1.1 ∧ (ansF o k id c).1.2.length ≤ 257 := by
  have keep : FlowOK o ∧ ([] : List PkO).length ≤ 257 := ⟨h, by simp⟩
  have over : FlowOK (goOnF (overF o id)).1 ∧ (goOnF (overF o id)).2.length ≤ 257 := ⟨(goOnF_ok (h.over id)).1, Nat.le_trans (goOnF_ok (h.over id)).2 (by decide)⟩
  unfold ansF
  split
  · exact keep
  · split
    · exact keep
    · rename_i f hf
      split
      · split
        · exact keep
        · exact over
      · split
        · split
          · exact keep
          · split
            · exact over
            · rename_i h5 h6 h7
              have hfm := List.mem_of_find?_eq_some hf
              have hfi : f.1 = id := by simpa using List.find?_some hf
              have hq : ∀ g ∈ o.flights, g.1 = id → g.2.1.2.2.1 = 2 := fun g hg e => by
                rw [h.one hg hfm (e.trans hfi.symm)]
                simp only [not_or, Classical.not_not] at h6
                exact h6.1
              have := goOnF_ok (h.rel hq)
              exact ⟨this.1, by simp only [List.length_cons]; omega⟩
        · split
          · exact keep
          · exact over
theorem beginF_ok {o : OutS} (h : FlowOK o) (most : Int) : FlowOK (beginF o most).1 ∧ (beginF o most).2.length ≤ 320 := by
  have h1 : FlowOK { o with on := true, most := max 1 (min most 64) } := ⟨h.pm, h.pk, by simp only; omega, by simp only; omega, h.ids, h.wl, h.fq, h.wq⟩
  have h2 := goOnF_ok h1
  have h3 := h.f64
  unfold beginF
  refine ⟨h2.1, ?_⟩
  simp only [List.length_append, List.length_map]
  omega
theorem FlowOK.off {o : OutS} (h : FlowOK o) (b : Bool) : FlowOK { o with on := b } := ⟨h.pm, h.pk, h.m1, h.m64, h.ids, h.wl, h.fq, h.wq⟩
end Go.Proofs.YtidlldnlphdhcaaGreatDoor
namespace Go.Proofs.YtidlldnlphdhcaaGreatDoor
open Go.H Go.Proofs
set_option linter.unusedSimpArgs false
set_option linter.unusedVariables false
set_option maxRecDepth 100000
variable {h : Heap} {R : List Asn}
abbrev encPr (x : PropT) : List Value := [.int .i64 x.1, .int .i64 x.2.1, .string x.2.2.1, .string x.2.2.2]
theorem ePr_len (x : PropT) : (encPr x).length = 4 := rfl
theorem ePr_cell (x : PropT) : ∀ v ∈ encPr x, v.oneCell' = true := by
  intro v hv; simp at hv; rcases hv with rfl | rfl | rfl | rfl <;> rfl
abbrev eKd (k : IntKind) (n : Int) : List Value := [.int k n]
theorem eKd_len (k : IntKind) (n : Int) : (eKd k n).length = 1 := rfl
theorem eKd_cell (k : IntKind) (n : Int) : ∀ v ∈ eKd k n, v.oneCell' = true := by intro v hv; rw [List.mem_singleton.1 hv]; rfl
abbrev pkT (o : PkO) (c p : Slc) : Pk := (o.kind, o.dup, o.retain, o.qos, o.id, o.topic, o.payload, o.code, c, p, ByteArray.mk #[], false, 0, false, ByteArray.mk #[], ByteArray.mk #[], 0, false, ⟨none, 0, 0⟩, false, false, ByteArray.mk #[], ByteArray.mk #[], o.session, ⟨none, 0, 0⟩, ⟨none, 0, 0⟩, ())
abbrev encPkK (k : IntKind) (p : Pk) : List Value := [.int .i64 p.1, .bool p.2.1, .bool p.2.2.1, .int .i64 p.2.2.2.1, .int .i64 p.2.2.2.2.1, .string p.2.2.2.2.2.1, .string p.2.2.2.2.2.2.1, .int k p.2.2.2.2.2.2.2.1, .slice p.2.2.2.2.2.2.2.2.1.a p.2.2.2.2.2.2.2.2.1.len p.2.2.2.2.2.2.2.2.1.cap, .slice p.2.2.2.2.2.2.2.2.2.1.a p.2.2.2.2.2.2.2.2.2.1.len p.2.2.2.2.2.2.2.2.2.1.cap, .string p.2.2.2.2.2.2.2.2.2.2.1, .bool p.2.2.2.2.2.2.2.2.2.2.2.1, .int .i64 p.2.2.2.2.2.2.2.2.2.2.2.2.1, .bool p.2.2.2.2.2.2.2.2.2.2.2.2.2.1, .string p.2.2.2.2.2.2.2.2.2.2.2.2.2.2.1, .string p.2.2.2.2.2.2.2.2.2.2.2.2.2.2.2.1, .int .i64 p.2.2.2.2.2.2.2.2.2.2.2.2.2.2.2.2.1, .bool p.2.2.2.2.2.2.2.2.2.2.2.2.2.2.2.2.2.1, .slice p.2.2.2.2.2.2.2.2.2.2.2.2.2.2.2.2.2.2.1.a p.2.2.2.2.2.2.2.2.2.2.2.2.2.2.2.2.2.2.1.len p.2.2.2.2.2.2.2.2.2.2.2.2.2.2.2.2.2.2.1.cap, .bool p.2.2.2.2.2.2.2.2.2.2.2.2.2.2.2.2.2.2.2.1, .bool p.2.2.2.2.2.2.2.2.2.2.2.2.2.2.2.2.2.2.2.2.1, .string p.2.2.2.2.2.2.2.2.2.2.2.2.2.2.2.2.2.2.2.2.2.1, .string p.2.2.2.2.2.2.2.2.2.2.2.2.2.2.2.2.2.2.2.2.2.2.1, .bool p.2.2.2.2.2.2.2.2.2.2.2.2.2.2.2.2.2.2.2.2.2.2.2.1, .slice p.2.2.2.2.2.2.2.2.2.2.2.2.2.2.2.2.2.2.2.2.2.2.2.2.1.a p.2.2.2.2.2.2.2.2.2.2.2.2.2.2.2.2.2.2.2.2.2.2.2.2.1.len p.2.2.2.2.2.2.2.2.2.2.2.2.2.2.2.2.2.2.2.2.2.2.2.2.1.cap, .slice p.2.2.2.2.2.2.2.2.2.2.2.2.2.2.2.2.2.2.2.2.2.2.2.2.2.1.a p.2.2.2.2.2.2.2.2.2.2.2.2.2.2.2.2.2.2.2.2.2.2.2.2.2.1.len p.2.2.2.2.2.2.2.2.2.2.2.2.2.2.2.2.2.2.2.2.2.2.2.2.2.1.cap]
abbrev Pk_tK (k : IntKind) : List Tag := [.int .i64, .bool, .bool, .int .i64, .int .i64, .str, .str, .int k, .slc, .slc, .str, .bool, .int .i64, .bool, .str, .str, .int .i64, .bool, .slc, .bool, .bool, .str, .str, .bool, .slc, .slc]
abbrev vPkK (k : IntKind) (p : Pk) : Value := .agg (encPkK k p).toArray
theorem ePkK_len (k : IntKind) (p : Pk) : (encPkK k p).length = 26 := rfl
theorem ePkK_cell (k : IntKind) (p : Pk) : ∀ v ∈ encPkK k p, v.oneCell' = true := by
  intro v hv
  have : (encPkK k p).all (fun v => v.oneCell') = true := rfl
  exact List.all_eq_true.1 this v hv
def pkB (k : IntKind) (t : Slc × Slc × PkO) : Asn := star (ownS (eKd k) 1 t.1 t.2.2.codes) (ownS encPr 4 t.2.1 t.2.2.props)
theorem pkB_iff {k : IntKind} {t : Slc × Slc × PkO} : sat h (pkB k t :: R) ↔ sat h (ownS (eKd k) 1 t.1 t.2.2.codes :: ownS encPr 4 t.2.1 t.2.2.props :: R) := sat.star_iff
theorem pkB_none {k : IntKind} {o : PkO} (hc : o.codes = []) (hp : o.props = []) (hs : sat h R) : sat h (pkB k (⟨none, 0, 0⟩, ⟨none, 0, 0⟩, o) :: R) := by
  refine pkB_iff.2 ?_
  show sat h (ownS (eKd k) 1 ⟨none, 0, 0⟩ o.codes :: ownS encPr 4 ⟨none, 0, 0⟩ o.props :: R)
  rw [hc, hp]
  exact q_a3 (q_a3 hs)
abbrev pkF (t : Slc × Slc × PkO) : Pk := pkT t.2.2 t.1 t.2.1
def pksA (k : IntKind) (s : Slc) (os : List PkO) : Asn := exA fun T : List (Slc × Slc × PkO) => star (pr (T.map (·.2.2) = os)) (star (ownS (encPkK k) 26 s (T.map pkF)) (bigA (pkB k) T))
theorem pks_iff {k : IntKind} {s : Slc} {os : List PkO} : sat h (pksA k s os :: R) ↔ ∃ T : List (Slc × Slc × PkO), T.map (·.2.2) = os ∧ sat h (ownS (encPkK k) 26 s (T.map pkF) :: bigA (pkB k) T :: R) := by
  unfold pksA
  rw [sat.ex_iff]
  simp only [sat.star_iff, sat.pr_iff]
theorem pks_nil {k : IntKind} (hs : sat h R) : sat h (pksA k ⟨none, 0, 0⟩ [] :: R) := pks_iff.2 ⟨[], rfl, q_a3 (q_dq.2 hs)⟩
theorem bigA_cat {α : Type} {f : α → Asn} : ∀ {a b : List α} {R : List Asn}, sat h (bigA f (a ++ b) :: R) ↔ sat h (bigA f a :: bigA f b :: R)
  | [], b, R => by
    rw [List.nil_append]
    exact ⟨fun hs => q_dq.2 hs, fun hs => q_dq.1 hs⟩
  | x :: a, b, R => by
    rw [List.cons_append, q_ao]
    constructor
    · intro hs
      exact q_ao.2 ((bigA_cat.1 hs.p1).re [2, 0, 1])
    · intro hs
      exact (bigA_cat.2 ((q_ao.1 hs).re [1, 2, 0])).p1
theorem bigA_sing {α : Type} {f : α → Asn} {x : α} : sat h (bigA f [x] :: R) ↔ sat h (f x :: R) := by
  rw [q_ao]
  exact ⟨fun hs => q_dq.1 hs.p1, fun hs => (q_dq.2 hs).p1⟩
theorem pks_push {k : IntKind} {s : Slc} {os : List PkO} {t : Slc × Slc × PkO} (hs : sat h (pksA k s os :: pkB k t :: R)) {elem T : TypeId} {bytes : Nat} {zero : Array Value} (hz : zero.size = 26) (hb0 : 0 < bytes) (hb : (os.length + 1) * bytes ≤ 140737488355328) {Q : Slc → Heap → Prop}
    (hq : ∀ s' h', sat h' (pksA k s' (os ++ [t.2.2]) :: R) → Q s' h') : HM.new (.cells (encPkK k (pkF t)).toArray T) h fun b h' => HM.append elem 26 bytes zero s 1 (srcSlc 26 ⟨some ⟨b, 0, none⟩, 1, 1⟩) h' Q := by
  obtain ⟨L, rfl, hs1⟩ := pks_iff.1 hs
  refine app_new (x := pkF t) (ePkK_len k) (ePkK_cell k) hz hs1 (by decide) hb0 (by simpa using hb) fun s' h' hs2 => ?_
  refine hq s' h' (pks_iff.2 ⟨L ++ [t], by simp, ?_⟩)
  rw [List.map_append]
  exact (bigA_cat.2 ((bigA_sing.2 (hs2.re [2, 1, 0])).p1)).p1
end Go.Proofs.YtidlldnlphdhcaaGreatDoor
namespace Go.Proofs.YtidlldnlphdhcaaGreatDoor
open Go.H Go.Proofs
set_option linter.unusedSimpArgs false
set_option linter.unusedVariables false
set_option maxRecDepth 100000
variable {h : Heap} {R : List Asn}
theorem eMs_len (x : MsT) : (encM x).length = 5 := rfl
theorem eMs_cell (x : MsT) : ∀ v ∈ encM x, v.oneCell' = true := by
  intro v hv; simp at hv; rcases hv with rfl | rfl | rfl | rfl | rfl <;> rfl
theorem eF_len (x : FlT) : (encF x).length = 7 := rfl
theorem eF_cell (x : FlT) : ∀ v ∈ encF x, v.oneCell' = true := by
  intro v hv; simp at hv; rcases hv with rfl | rfl | rfl | rfl | rfl | rfl | rfl <;> rfl
abbrev MsU := ByteArray × ByteArray × Int × Bool × ByteArray × Unit
abbrev toU (m : MsT) : MsU := (m.1, m.2.1, m.2.2.1, m.2.2.2.1, m.2.2.2.2, ())
abbrev vMs (m : MsT) : Value := .agg #[.string m.1, .string m.2.1, .int .i64 m.2.2.1, .bool m.2.2.2.1, .string m.2.2.2.2]
theorem load_Ms {a : Addr} {m : MsT} (ha : ∀ j v, (encM m)[j]? = some v → cellH h (a.add j) = some v) {Q : MsU → Heap → Prop} (hq : Q (toU m) h) : HM.loadN [.str, .str, .int .i64, .bool, .str] a h Q :=
  q_er (ts := [.str, .str, .int .i64, .bool, .str]) (toU m) (fun i v hv => ha i v hv) hq
theorem packet_of {m : MsT} {id : Int} {dup : Bool} (hs : sat h R) {Q : Value → Heap → Prop} (hq : ∀ c p h', sat h' (pkB .u8 (c, p, pubO m id dup) :: R) → Q (vPkK .u8 (pkT (pubO m id dup) c p)) h') :
    HCalls Tryz.prog 118 #[vMs m, .int .i64 id, .bool dup] h Q := by
  refine q_dm (toU m) id dup h Q ?_
  unfold q_bd
  refine q_ae hs fun x1 h1 hs1 => ?_
  refine q_ae hs1 fun x2 h2 hs2 => ?_
  refine ⟨m.2.2.1, by rw [q_aa]; exact hs2.p1.cell 2, m.2.2.2.1, by rw [q_aa]; exact hs2.p1.cell 3, m.1, by rw [q_aa]; exact hs2.p1.cell 0, m.2.1, by rw [q_aa]; exact hs2.p1.cell 1, ?_⟩
  refine q_ae hs2 fun x7 h3 hs3' => ?_
  (try dsimp only); rw [HM.bind_apply]
  refine storeN_all' hs3' rfl rfl fun h4 hs4 => ?_
  refine ⟨m.2.2.2.2, by rw [q_aa]; exact hs4.p2.cell 4, ?_⟩
  refine cut (fun z h' => ∃ p : Slc, sat h' (cells x7 (encPkK .u8 (pkT (pubO m id dup) ⟨none, 0, 0⟩ p)).toArray :: cells x2 (encPkK .u8 Pk_z).toArray :: pkB .u8 (⟨none, 0, 0⟩, p, pubO m id dup) :: R)) ?_ ?_
  · intro K hK
    (try dsimp only); rw [HM.ite_apply]
    by_cases ht : m.2.2.2.2 = ByteArray.mk #[]
    · rw [if_neg (by simp [ht])]
      refine hK _ _ ⟨⟨none, 0, 0⟩, ?_⟩
      have := pkB_none (k := .u8) (o := pubO m id dup) rfl (by simp [pubO, tagP, ht]) hs4
      exact (this.re [1, 2, 0, 3]).p3.drop
    · rw [if_pos (by simp [ht])]
      refine ⟨m.2.2.2.2, by rw [q_aa]; exact hs4.p2.cell 4, ?_⟩
      refine q_ae hs4 fun x11 h5 hs5 => ?_
      (try dsimp only); rw [HM.bind_apply, q_aa]
      refine q_ag hs5.p1 (by simp) rfl fun h6 hs6 => ?_
      refine hK _ _ ⟨⟨some ⟨x11, 0, none⟩, 1, 1⟩, ?_⟩
      have hp : (pubO m id dup).props = [(38, 0, tagS, m.2.2.2.2)] := by simp [pubO, tagP, ht]
      have h7 : sat h6 (ownS encPr 4 ⟨some ⟨x11, 0, none⟩, 1, 1⟩ (pubO m id dup).props :: cells x7 (encPkK .u8 (pkT (pubO m id dup) ⟨none, 0, 0⟩ ⟨some ⟨x11, 0, none⟩, 1, 1⟩)).toArray :: cells x2 (encPkK .u8 Pk_z).toArray :: R) := by
        rw [hp]
        exact q_cq (o := 0) (cs := (encPr (38, 0, tagS, m.2.2.2.2)).toArray) ⟨rfl, Nat.le_refl _, rfl, by simp, by simp⟩ (hs6.re [1, 0, 2, 3]).p3.drop
      have h8 : sat h6 (ownS (eKd .u8) 1 ⟨none, 0, 0⟩ (pubO m id dup).codes :: ownS encPr 4 ⟨some ⟨x11, 0, none⟩, 1, 1⟩ (pubO m id dup).props :: cells x7 (encPkK .u8 (pkT (pubO m id dup) ⟨none, 0, 0⟩ ⟨some ⟨x11, 0, none⟩, 1, 1⟩)).toArray :: cells x2 (encPkK .u8 Pk_z).toArray :: R) := q_a3 h7
      exact ((pkB_iff (t := (⟨none, 0, 0⟩, ⟨some ⟨x11, 0, none⟩, 1, 1⟩, pubO m id dup))).2 h8).re [1, 2, 0]
  rintro ⟨⟩ h5 ⟨p, hs5⟩
  refine q_au (ts := Pk_tK .u8) (pkT (pubO m id dup) ⟨none, 0, 0⟩ p) hs5 rfl ?_
  (try dsimp only); rw [HM.bind_apply]
  refine storeN_all' hs5.p1 rfl rfl fun h6 hs6 => ?_
  refine q_au (ts := Pk_tK .u8) (pkT (pubO m id dup) ⟨none, 0, 0⟩ p) hs6 rfl ?_
  exact hq _ _ h6 hs6.drop.drop
theorem goF_cons (o : OutS) (m : MsT) (w : List MsT) : goF o (m :: w) = if 0 < m.2.2.1 ∧ o.most ≤ (o.flights.length : Int) then ({ o with waiting := m :: w }, [])
    else if 0 < m.2.2.1 then ((goF { o with pool := ⟨o.pool.most, nextI o.pool.used o.pool.taken, o.pool.used ++ [nextI o.pool.used o.pool.taken]⟩, flights := o.flights ++ [(nextI o.pool.used o.pool.taken, m, false)] } w).1, pubO m (nextI o.pool.used o.pool.taken) false :: (goF { o with pool := ⟨o.pool.most, nextI o.pool.used o.pool.taken, o.pool.used ++ [nextI o.pool.used o.pool.taken]⟩, flights := o.flights ++ [(nextI o.pool.used o.pool.taken, m, false)] } w).2)
    else ((goF o w).1, pubO m 0 false :: (goF o w).2) := rfl
theorem goF_wait (o : OutS) (l : List MsT) : ∀ (w : List MsT), goF { o with waiting := l } w = goF o w := by
  intro w
  induction w generalizing o with
  | nil => rfl
  | cons m w ih =>
    rw [goF_cons, goF_cons]
    split
    · rfl
    · split
      · have := ih { o with pool := ⟨o.pool.most, nextI o.pool.used o.pool.taken, o.pool.used ++ [nextI o.pool.used o.pool.taken]⟩, flights := o.flights ++ [(nextI o.pool.used o.pool.taken, m, false)] }
        simp only [this]
      · rw [ih o]
set_option maxHeartbeats 4000000 in
theorem goOn_spec {b : Nat} {o : OutS} {ps : List PkO} {s : Slc} (hs : sat h (outA b o :: pksA .u8 s ps :: R)) (hok : FlowOK o) (hps : ps.length ≤ 10000) {Q : Value → Heap → Prop}
    (hq : ∀ h' S, sat h' (outA b (goOnF o).1 :: pksA .u8 S (ps ++ (goOnF o).2) :: R) → Q (.slice S.a S.len S.cap) h') :
    HCalls Tryz.prog 119 #[at0 b, .slice s.a s.len s.cap] h Q := by
  refine q_f1 (some ⟨b, 0, none⟩) s h Q ?_
  unfold q_cs
  (try dsimp only); rw [HM.bind_apply]
  refine loop_k (γ := OutS × List PkO) (fun g c h' => FlowOK g.1 ∧ g.2.length + g.1.waiting.length ≤ 10300 ∧ (goOnF g.1).1 = (goOnF o).1 ∧ g.2 ++ (goOnF g.1).2 = ps ++ (goOnF o).2 ∧ sat h' (outA b g.1 :: pksA .u8 c.1 g.2 :: R)) (fun g => g.1.waiting.length) (o, ps)
    ⟨hok, by have := hok.wl; simp only; omega, rfl, rfl, hs⟩ ?_
  clear hs hps hok
  rintro ⟨o1, os⟩ ⟨out, ⟨⟩⟩ h1 ⟨hok, hps, he1, he2, hs0⟩ K hnx hd
  simp only at hok hps he1 he2 hs0
  obtain ⟨pb, fl, wt, hs1⟩ := q_ay.1 hs0
  have hwl : wt.len = o1.waiting.length := (hs1.p3).own_len
  have hfl : fl.len = o1.flights.length := (hs1.p2).own_len
  refine cut (fun z h' => h' = h1 ∧ z.1 = (o1.on && decide (0 < o1.waiting.length))) ?_ ?_
  · intro K2 hK2
    refine ⟨_, rfl, o1.on, by rw [q_aa]; exact hs1.cell 2, ?_⟩
    (try dsimp only); rw [HM.ite_apply]
    cases hon : o1.on with
    | false => rw [if_neg (by simp)]; exact hK2 _ _ ⟨rfl, by simp [hon]⟩
    | true =>
      rw [if_pos rfl]
      refine ⟨_, rfl, wt, by rw [q_aa]; exact hs1.cell 4, ?_⟩
      refine hK2 _ _ ⟨rfl, ?_⟩
      simp only [hwl, hon, Bool.true_and]
      exact decide_eq_decide.2 (by omega)
  rintro ⟨z, ⟨⟩⟩ h2 ⟨rfl, hz⟩
  simp only at hz
  subst hz
  (try dsimp only); rw [HM.ite_apply]
  by_cases hgo : o1.on = true ∧ 0 < o1.waiting.length
  case neg =>
    rw [if_neg (by rw [Bool.and_eq_true, decide_eq_true_eq]; exact hgo)]
    have e : goOnF o1 = (o1, []) := by
      unfold goOnF
      by_cases hon : o1.on = true
      · rw [if_pos hon]
        have hw : o1.waiting = [] := by
          cases hw : o1.waiting with
          | nil => rfl
          | cons m w => exact absurd ⟨hon, by rw [hw]; simp⟩ hgo
        rw [hw]
        show ({ o1 with waiting := [] }, []) = _
        rw [← hw]
      · rw [if_neg hon]
    rw [e] at he1 he2
    rw [List.append_nil] at he2
    refine hd _ _ (hq h2 out ?_)
    rw [← he1, ← he2]
    exact hs0
  obtain ⟨hon, hw0⟩ := hgo
  rw [if_pos (by simp [hon, hw0])]
  cases hwait : o1.waiting with
  | nil => rw [hwait] at hw0; simp at hw0
  | cons m w =>
  have hwl1 := hok.wl
  have hmq := hok.wq m (by rw [hwait]; exact List.mem_cons_self ..)
  have hwq : ∀ x ∈ w, 0 ≤ x.2.2.1 ∧ x.2.2.1 ≤ 2 := fun x hx => hok.wq x (by rw [hwait]; exact List.mem_cons_of_mem _ hx)
  have hgo : goOnF o1 = goF o1 (m :: w) := by unfold goOnF; rw [if_pos hon, hwait]
  rw [hgo, goF_cons] at he1 he2
  rw [hwait] at hps hs1 hwl hwl1
  have hf64 := hok.f64
  have hm64 := hok.m64
  refine ⟨_, rfl, wt, by rw [q_aa]; exact hs1.cell 4, ?_⟩
  (try dsimp only); rw [HM.bind_apply]
  refine q_bi (i := 0) (hs1.p3.own_row eMs_len) (x := m) rfl fun p hp => ?_
  (try dsimp only); rw [HM.bind_apply]
  refine load_Ms hp ?_
  refine q_ae hs1 fun x12 h3 hs2' => ?_
  (try dsimp only); rw [HM.bind_apply]
  refine storeN_all' hs2' rfl rfl fun h4 hs2'' => ?_
  have hs2 : sat h4 (cells x12 (encM m).toArray :: cells b #[at0 pb, .int .i64 o1.most, .bool o1.on, .slice fl.a fl.len fl.cap, .slice wt.a wt.len wt.cap] :: poolA pb o1.pool :: ownS encF 7 fl o1.flights :: ownS encM 5 wt (m :: w) :: pksA .u8 out os :: R) := hs2''
  clear hs2'' hs2' hs1
  refine cut (fun z h' => h' = h4 ∧ z.1 = decide (0 < m.2.2.1 ∧ o1.most ≤ (o1.flights.length : Int))) ?_ ?_
  · intro K2 hK2
    refine ⟨m.2.2.1, by rw [q_aa]; exact hs2.cell 2, ?_⟩
    (try dsimp only); rw [HM.ite_apply]
    by_cases hm0 : 0 < m.2.2.1
    · rw [if_pos (by simpa using hm0)]
      refine ⟨_, rfl, fl, by rw [q_aa]; exact hs2.p1.cell 3, _, rfl, o1.most, by rw [q_aa]; exact hs2.p1.cell 1, ?_⟩
      refine hK2 _ _ ⟨rfl, ?_⟩
      simp only [hfl]
      rw [decide_eq_decide]
      simp [hm0]
    · rw [if_neg (by simpa using hm0)]
      exact hK2 _ _ ⟨rfl, by simp [hm0]⟩
  rintro ⟨z, ⟨⟩⟩ h5 ⟨rfl, hz⟩
  simp only at hz
  subst hz
  (try dsimp only); rw [HM.ite_apply]
  by_cases hfull : 0 < m.2.2.1 ∧ o1.most ≤ (o1.flights.length : Int)
  · rw [if_pos (by simpa using hfull)]
    rw [if_pos hfull] at he1 he2
    rw [List.append_nil] at he2
    refine hd _ _ (hq h5 out ?_)
    rw [← he1, ← he2]
    have : sat h5 (outA b { o1 with waiting := m :: w } :: pksA .u8 out os :: R) := q_ay.2 ⟨pb, fl, wt, hs2.drop⟩
    exact this
  rw [if_neg (by simpa using hfull)]
  rw [if_neg hfull] at he1 he2
  refine ⟨_, rfl, wt, by rw [q_aa]; exact hs2.p1.cell 4, ?_⟩
  (try dsimp only); rw [HM.bind_apply]
  refine slice_own (mx := none) (lo := 1) (hi := (m :: w).length) hs2.p4 eMs_len (by simp) (Nat.le_refl _) ⟨rfl, by simp⟩ (by rw [hwl]; rfl) fun wt' hs3 => ?_
  rw [List.take_length] at hs3
  have hs3' : sat h5 (ownS encM 5 wt' w :: cells x12 (encM m).toArray :: cells b #[at0 pb, .int .i64 o1.most, .bool o1.on, .slice fl.a fl.len fl.cap, .slice wt.a wt.len wt.cap] :: poolA pb o1.pool :: ownS encF 7 fl o1.flights :: pksA .u8 out os :: R) := hs3
  clear hs3 hs2
  refine ⟨_, rfl, ?_⟩
  (try dsimp only); rw [HM.bind_apply, q_aa]
  refine q_ag hs3'.p2 (by simp) rfl fun h6 hs4' => ?_
  have hs4 : sat h6 (cells b #[at0 pb, .int .i64 o1.most, .bool o1.on, .slice fl.a fl.len fl.cap, .slice wt'.a wt'.len wt'.cap] :: ownS encM 5 wt' w :: cells x12 (encM m).toArray :: poolA pb o1.pool :: ownS encF 7 fl o1.flights :: pksA .u8 out os :: R) := hs4'
  clear hs4' hs3'
  refine ⟨m.2.2.1, by rw [q_aa]; exact hs4.p2.cell 2, ?_⟩
  refine cut (fun z h' => ∃ (fl' : Slc) (o2 : OutS), o2.on = true ∧ o2.waiting = w ∧ FlowOK o2 ∧ (goF o2 w).1 = (goOnF o).1 ∧ os ++ pubO m z.1 false :: (goF o2 w).2 = ps ++ (goOnF o).2 ∧
      sat h' (cells x12 (encM m).toArray :: cells b #[at0 pb, .int .i64 o2.most, .bool o2.on, .slice fl'.a fl'.len fl'.cap, .slice wt'.a wt'.len wt'.cap] :: poolA pb o2.pool :: ownS encF 7 fl' o2.flights :: ownS encM 5 wt' w :: pksA .u8 out os :: R)) ?_ ?_
  · intro K2 hK2
    (try dsimp only); rw [HM.ite_apply]
    by_cases hm0 : 0 < m.2.2.1
    · rw [if_pos (by simpa using hm0)]
      rw [if_pos hm0] at he1 he2
      dsimp only at he1 he2
      have hroom : (o1.flights.length : Int) < o1.most := by omega
      refine ⟨_, rfl, some ⟨pb, 0, none⟩, by rw [q_aa]; exact hs4.cell 0, ?_⟩
      have hfln := hok.flen
      have hpm := hok.pm
      refine q_az (Take_spec hs4.p3 (fun hf => absurd hf (by omega)) (fun _ n u hr h7 hs7' => ⟨(u, 0, ()), rfl, ?_⟩))
      have hu := nextI_eq hr
      have hs7 : sat h7 (poolA pb ⟨o1.pool.most, u, o1.pool.used ++ [u]⟩ :: cells b #[at0 pb, .int .i64 o1.most, .bool o1.on, .slice fl.a fl.len fl.cap, .slice wt'.a wt'.len wt'.cap] :: ownS encM 5 wt' w :: cells x12 (encM m).toArray :: ownS encF 7 fl o1.flights :: pksA .u8 out os :: R) := hs7'
      clear hs7'
      refine ⟨_, rfl, fl, by rw [q_aa]; exact hs7.p1.cell 3, ?_⟩
      refine q_au (ts := [.str, .str, .int .i64, .bool, .str]) (toU m) hs7.p3 rfl ?_
      refine q_ae hs7 fun x31 h8 hs8 => ?_
      refine ⟨fl, by rw [q_aa]; exact hs8.p2.cell 3, rfl, ?_⟩
      (try dsimp only); rw [HM.bind_apply]
      refine q_ds (enc := encF) (ys := [(u, m, false)]) eF_len eF_cell rfl hs8.p5 rfl ?_ (by decide) (by decide) (by omega) fun fl' h9 hs9 => ?_
      · simp only [srcSlc, Nat.one_mul, List.flatMap_cons, List.flatMap_nil, List.append_nil]
        exact hs8.reads rfl
      refine ⟨_, rfl, ?_⟩
      (try dsimp only); rw [HM.bind_apply, q_aa]
      refine q_ag hs9.p3 (by simp) rfl fun h10 hs10 => ?_
      have htk := hok.take (m := m) (w := w) (by simp only [List.length_cons] at hwl1; omega) hwq ⟨hm0, hmq.2⟩ hroom
      rw [hu] at he1 he2 htk
      refine hK2 _ _ ⟨fl', { o1 with pool := ⟨o1.pool.most, u, o1.pool.used ++ [u]⟩, flights := o1.flights ++ [(u, m, false)], waiting := w }, hon, rfl, htk, ?_, ?_, (hs10.re [2, 5, 0, 3, 1, 4, 6]).drop⟩
      · rw [← he1]
        exact congrArg Prod.fst (goF_wait { o1 with pool := ⟨o1.pool.most, u, o1.pool.used ++ [u]⟩, flights := o1.flights ++ [(u, m, false)] } w w)
      · rw [← he2]
        have := congrArg Prod.snd (goF_wait { o1 with pool := ⟨o1.pool.most, u, o1.pool.used ++ [u]⟩, flights := o1.flights ++ [(u, m, false)] } w w)
        simp only at this ⊢
        rw [this]
    · rw [if_neg (by simpa using hm0)]
      rw [if_neg hm0] at he1 he2
      dsimp only at he1 he2
      refine hK2 _ _ ⟨fl, { o1 with waiting := w }, hon, rfl, ⟨hok.pm, hok.pk, hok.m1, hok.m64, hok.ids, by simp only [List.length_cons] at hwl1 ⊢; omega, hok.fq, hwq⟩, ?_, ?_, hs4.re [2, 0, 3, 4, 1]⟩
      · rw [← he1, goF_wait]
      · rw [← he2, goF_wait]
  rintro ⟨id, ⟨⟩⟩ h7 ⟨fl', o2, hon2, hw2, hok2, he3, he4, hs5⟩
  simp only at he4
  refine q_au (ts := [.str, .str, .int .i64, .bool, .str]) (toU m) hs5 rfl ?_
  refine q_ab (packet_of (m := m) (id := id) (dup := false) hs5 fun c p h8 hs6 => ⟨pkT (pubO m id false) c p, rfl, ?_⟩)
  refine pks_push (t := (c, p, pubO m id false)) (hs6.re [6, 0, 1, 2, 3, 4, 5]) rfl (by decide) (by simp only [List.length_cons] at hps; omega) fun out' h9 hs7 => ?_
  have e2 : goOnF o2 = goF o2 w := by unfold goOnF; rw [if_pos hon2, hw2]
  refine hnx (o2, os ++ [pubO m id false]) _ _ (by simp only [hwait, hw2, List.length_cons]; omega) ⟨hok2, ?_, by rw [e2]; exact he3, by rw [e2, List.append_assoc]; exact he4, ?_⟩
  · simp only [hw2, List.length_append, List.length_cons, List.length_nil] at hps ⊢
    omega
  · refine q_ay.2 ⟨pb, fl', wt', ?_⟩
    rw [hw2]
    exact (hs7.re [2, 3, 4, 5, 0, 1]).re [0, 1, 2, 3, 4, 5] |> fun hh => (hh.re [5, 0, 1, 2, 3, 4]).drop
end Go.Proofs.YtidlldnlphdhcaaGreatDoor
namespace Go.Proofs.YtidlldnlphdhcaaGreatDoor
open Go.H Go.Proofs
instance : Enc encM 5 := ⟨eMs_len, eMs_cell, by decide⟩
instance : Enc encF 7 := ⟨eF_len, eF_cell, by decide⟩
instance (k : IntKind) : Enc (encPkK k) 26 := ⟨ePkK_len k, ePkK_cell k, by decide⟩
instance (k : IntKind) : Enc (eKd k) 1 := ⟨eKd_len k, eKd_cell k, by decide⟩
instance : Enc encPr 4 := ⟨ePr_len, ePr_cell, by decide⟩
abbrev encS1 (x : ByteArray) : List Value := [.string x]
instance : Enc encS1 1 := ⟨fun _ => rfl, fun x v hv => by rw [List.mem_singleton.1 hv]; rfl, by decide⟩
end Go.Proofs.YtidlldnlphdhcaaGreatDoor
namespace Go.H
set_option linter.unusedSimpArgs false
set_option linter.unusedVariables false
section
variable {A B C D E F : Asn} {L L1 L2 L3 L4 L5 L' R : List Asn} {h : Heap}
theorem Has.then5 (hb : Has L B L1) (hc : Has L1 C L2) (hd : Has L2 D L3) (he : Has L3 E L4) (hf : Has L4 F L5) : Sub L (B :: C :: D :: E :: F :: L5) := fun m hs => q_a0 (fun _ h => h) (hc.then4 hd he hf) (hb m hs)
theorem W.cls5 {α : Type} {m : HM α} {Q : α → Heap → Prop} (mk : ∀ h, sat h (B :: C :: D :: E :: F :: L5) → sat h (A :: L5)) (hw : W (A :: L5) m Q) (hb : Has L B L1 := by repeat (first | with_reducible exact Go.H.has0 | apply Go.H.hasS)) (hc : Has L1 C L2 := by repeat (first | with_reducible exact Go.H.has0 | apply Go.H.hasS)) (hd : Has L2 D L3 := by repeat (first | with_reducible exact Go.H.has0 | apply Go.H.hasS)) (he : Has L3 E L4 := by repeat (first | with_reducible exact Go.H.has0 | apply Go.H.hasS)) (hf : Has L4 F L5 := by repeat (first | with_reducible exact Go.H.has0 | apply Go.H.hasS)) : W L m Q := fun h hs => hw h (mk h ((hb.then5 hc hd he hf).s hs))
theorem At.cls2 {q : Heap → Prop} (mk : ∀ h, sat h (B :: C :: L2) → sat h (A :: L2)) (hw : At (A :: L2) q) (hb : Has L B L1 := by repeat (first | with_reducible exact Go.H.has0 | apply Go.H.hasS)) (hc : Has L1 C L2 := by repeat (first | with_reducible exact Go.H.has0 | apply Go.H.hasS)) : At L q := fun h hs => hw h (mk h ((hb.then hc).s hs))
theorem At.cls5 {q : Heap → Prop} (mk : ∀ h, sat h (B :: C :: D :: E :: F :: L5) → sat h (A :: L5)) (hw : At (A :: L5) q) (hb : Has L B L1 := by repeat (first | with_reducible exact Go.H.has0 | apply Go.H.hasS)) (hc : Has L1 C L2 := by repeat (first | with_reducible exact Go.H.has0 | apply Go.H.hasS)) (hd : Has L2 D L3 := by repeat (first | with_reducible exact Go.H.has0 | apply Go.H.hasS)) (he : Has L3 E L4 := by repeat (first | with_reducible exact Go.H.has0 | apply Go.H.hasS)) (hf : Has L4 F L5 := by repeat (first | with_reducible exact Go.H.has0 | apply Go.H.hasS)) : At L q := fun h hs => hw h (mk h ((hb.then5 hc hd he hf).s hs))
theorem At.cls3 {q : Heap → Prop} (mk : ∀ h, sat h (B :: C :: D :: L3) → sat h (A :: L3)) (hw : At (A :: L3) q) (hb : Has L B L1 := by repeat (first | with_reducible exact Go.H.has0 | apply Go.H.hasS)) (hc : Has L1 C L2 := by repeat (first | with_reducible exact Go.H.has0 | apply Go.H.hasS)) (hd : Has L2 D L3 := by repeat (first | with_reducible exact Go.H.has0 | apply Go.H.hasS)) : At L q := fun h hs => hw h (mk h ((hb.then3 hc hd).s hs))
variable {K V σ τ β : Type} {ek : K → Value} {ev : V → Value} {r it : Nat} {l done todo : List (K × V)} {Q' : β → Heap → Prop}
theorem W.range {f : Nat → HM β} (hw : ∀ it, W (itA ek ev r l it [] l :: L') (f it) Q') (hx : Has L (mapA ek ev r l) L' := by repeat (first | with_reducible exact Go.H.has0 | apply Go.H.hasS)) : W L (HM.bind (HM.rangeM (some r)) f) Q' := fun h hs =>
  range_map (hx.s hs) fun it h' hs' => hw it h' hs'
theorem W.entry {kk kv : Kind} {p : K × V} {x : kk.ty} {y : kv.ty} {f : kk.ty × kv.ty → HM β} (hw : W L (f (x, y)) Q') (hx : Has L (itA ek ev r l it (done ++ [p]) todo) L' := by repeat (first | with_reducible exact Go.H.has0 | apply Go.H.hasS)) (hk : ek p.1 = kk.val x := by rfl) (hv : ev p.2 = kv.val y := by rfl) : W L (HM.bind (HM.entryM kk kv it) f) Q' := fun h hs =>
  entry_map hk hv (hx.s hs) (hw h hs)
theorem W.loop0 {γ : Type} {s : σ} {body : σ → HM (σ ⊕ τ)} {Q : τ → Heap → Prop} (I : γ → σ → Prop) (J : γ → σ → List Asn) (μ : γ → Nat) (g : γ) (h0 : I g s) (hL : Sub L (J g s))
    (hr : ∀ g s, I g s → ∀ K : σ ⊕ τ → Heap → Prop, (∀ g' s', μ g' < μ g → I g' s' → At (J g' s') (K (.inl s'))) → (∀ t L, At L (Q t) → At L (K (.inr t))) → W (J g s) (body s) K) :
    W L (HM.loop body s) Q := fun h hs => by
  refine loop_k (γ := γ) (fun g s h => I g s ∧ sat h (J g s)) μ g ⟨h0, hL.s hs⟩ ?_
  rintro g s h ⟨hI, hJ⟩ K h1 h2
  exact hr g s hI K (fun g' s' hm hI' h' hs' => h1 g' s' h' hm ⟨hI', hs'⟩) (fun t L hw h' hs' => h2 t h' (hw h' hs')) h hJ
theorem W.mapw {s : σ} {N : σ → HM (σ ⊕ τ)} {S : σ → Value × Value → HM (σ ⊕ τ)} {f : τ → HM β} (J : List (K × V) → σ → List Asn) (hL : Sub L (itA ek ev r l it [] l :: J [] s))
    (hN : ∀ done s, done.Perm l → ∀ K' : σ ⊕ τ → Heap → Prop, (∀ t L, W L (f t) Q' → At L (K' (.inr t))) → W (mapA ek ev r l :: J done s) (N s) K')
    (hS : ∀ done p rest s, (done ++ p :: rest).Perm l → ∀ K' : σ ⊕ τ → Heap → Prop, (∀ s', At (itA ek ev r l it (done ++ [p]) rest :: J (done ++ [p]) s') (K' (.inl s'))) →
      (∀ t L, W L (f t) Q' → At L (K' (.inr t))) → W (itA ek ev r l it (done ++ [p]) rest :: J done s) (S s (ek p.1, ev p.2)) K') :
    W L (HM.bind (HM.loop (fun s => HM.bind (HM.nextM it) fun o => HM.opt o (N s) (S s)) s) f) Q' := fun h hs => by
  rw [HM.bind_apply]
  refine loop_map J (hL.s hs) (fun done s h hp hs K' hd => ?_) (fun done p rest s h hp hs K' hnx hd => ?_)
  · exact hN done s hp K' (fun t L hw h' hs' => hd t h' (hw h' hs')) h hs
  · exact hS done p rest s hp K' (fun s' h' hs' => hnx s' h' hs') (fun t L hw h' hs' => hd t h' (hw h' hs')) h hs
theorem W.mapwp {s : σ} {N : σ → HM (σ ⊕ τ)} {S : σ → Value × Value → HM (σ ⊕ τ)} {f : τ → HM β} (p : List (K × V) → σ → Prop) (J : List (K × V) → σ → List Asn) (hp : p [] s) (hL : Sub L (itA ek ev r l it [] l :: J [] s))
    (hN : ∀ done s, done.Perm l → p done s → ∀ K' : σ ⊕ τ → Heap → Prop, (∀ t L, W L (f t) Q' → At L (K' (.inr t))) → W (mapA ek ev r l :: J done s) (N s) K')
    (hS : ∀ done q rest s, (done ++ q :: rest).Perm l → p done s → ∀ K' : σ ⊕ τ → Heap → Prop, (∀ s', p (done ++ [q]) s' → At (itA ek ev r l it (done ++ [q]) rest :: J (done ++ [q]) s') (K' (.inl s'))) →
      (∀ t L, W L (f t) Q' → At L (K' (.inr t))) → W (itA ek ev r l it (done ++ [q]) rest :: J done s) (S s (ek q.1, ev q.2)) K') :
    W L (HM.bind (HM.loop (fun s => HM.bind (HM.nextM it) fun o => HM.opt o (N s) (S s)) s) f) Q' := by
  refine W.mapw (ek := ek) (ev := ev) (r := r) (l := l) (fun done s => pr (p done s) :: J done s) ?_ ?_ ?_
  · exact fun m hs => q_a0 (fun _ h => h) (fun _ h => star_pr_intro hp h) (hL m hs)
  · intro done s hd K' hk h hs
    obtain ⟨h1, h2⟩ := sat.pr_iff.1 (hs.re [1, 0])
    exact hN done s hd h1 K' hk h h2
  · intro done q rest s hd K' hnx hk h hs
    obtain ⟨h1, h2⟩ := sat.pr_iff.1 (hs.re [1, 0])
    refine hS done q rest s hd h1 K' (fun s' hp' h' hs' => ?_) hk h h2
    have h3 : sat h' (pr (p (done ++ [q]) s') :: itA ek ev r l it (done ++ [q]) rest :: J (done ++ [q]) s') := sat.pr_iff.2 ⟨hp', hs'⟩
    exact hnx s' h' (h3.re [1, 0])
end
end Go.H
namespace Go.Proofs.YtidlldnlphdhcaaGreatDoor
open Go.H Go.Proofs
set_option linter.unusedSimpArgs false
set_option linter.unusedVariables false
set_option synthInstance.maxSize 100000
set_option synthInstance.maxHeartbeats 400000
def flowA (f : Nat) (s : PoolS) : Asn := exA fun b : Nat => star (cells f #[at0 b]) (poolA b s)
theorem q_d9 {h : Heap} {f : Nat} {s : PoolS} {R : List Asn} : sat h (flowA f s :: R) ↔ ∃ b : Nat, sat h (cells f #[at0 b] :: poolA b s :: R) := by
  unfold flowA
  rw [sat.ex_iff]
  constructor
  · rintro ⟨b, hs⟩; exact ⟨b, sat.star_iff.1 hs⟩
  · rintro ⟨b, hs⟩; exact ⟨b, sat.star_iff.2 hs⟩
theorem infNew_spec {h : Heap} {R : List Asn} (hs : sat h R) (most : Int) {Q : Value → Heap → Prop}
    (hq : ∀ b h', sat h' (flowA b ⟨max 1 (min most 64), 0, []⟩ :: R) → Q (at0 b) h') : HCalls Tryz.prog 113 #[.int .i64 most] h Q := by
  refine inflow_New_calls most h Q ?_
  unfold inflow_New
  simp only [HM.bind_apply, HM.call1_apply]
  refine New_spec hs most fun b h1 hs1 => ?_
  simp only [un_ptr, HM.bind_apply]
  refine q_ae hs1 fun f h2 hs2 => ?_
  exact hq f h2 (q_d9.2 ⟨b, hs2⟩)
end Go.Proofs.YtidlldnlphdhcaaGreatDoor
namespace Go.Proofs.YtidlldnlphdhcaaGreatDoor
open Go.H Go.Proofs
set_option linter.unusedSimpArgs false
set_option linter.unusedVariables false
set_option synthInstance.maxSize 100000
set_option synthInstance.maxHeartbeats 400000
structure SesS where
  id : Int
  client : ByteArray
  keep : Bool
  on : Bool
  out : OutS
  inn : PoolS
def sesA (b : Nat) (s : SesS) : Asn := exA fun x : Nat × Nat =>
  star (cells b #[.int .i64 s.id, .string s.client, .bool s.keep, .bool s.on, at0 x.1, at0 x.2]) (star (outA x.1 s.out) (flowA x.2 s.inn))
theorem q_b8 {h : Heap} {b : Nat} {s : SesS} {R : List Asn} : sat h (sesA b s :: R) ↔ ∃ ob ib : Nat,
    sat h (cells b #[.int .i64 s.id, .string s.client, .bool s.keep, .bool s.on, at0 ob, at0 ib] :: outA ob s.out :: flowA ib s.inn :: R) := by
  unfold sesA
  rw [sat.ex_iff]
  constructor
  · rintro ⟨⟨ob, ib⟩, hs⟩
    rw [sat.star_iff] at hs
    exact ⟨ob, ib, (sat.star_iff.1 hs.p1).p2⟩
  · rintro ⟨ob, ib, hs⟩
    refine ⟨(ob, ib), ?_⟩
    rw [sat.star_iff]
    exact (sat.star_iff.2 (hs.re [1, 2, 0])).p1
def sesE (p : Nat × SesS) : Int × Option Addr := (p.2.id, some ⟨p.1, 0, none⟩)
abbrev eKI : Int → Value := fun n => .int .i64 n
abbrev eVP : Option Addr → Value := Kind.val (.one .ptr)
def tabA (b : Nat) (last : Int) (L : List (Nat × SesS)) : Asn := exA fun m : Nat =>
  star (cells b #[.int .i64 last, .map (some m)]) (star (mapA eKI eVP m (L.map sesE)) (bigA (fun p => sesA p.1 p.2) L))
theorem q_aq {h : Heap} {b : Nat} {last : Int} {L : List (Nat × SesS)} {R : List Asn} : sat h (tabA b last L :: R) ↔ ∃ m : Nat,
    sat h (cells b #[.int .i64 last, .map (some m)] :: mapA eKI eVP m (L.map sesE) :: bigA (fun p => sesA p.1 p.2) L :: R) := by
  unfold tabA
  rw [sat.ex_iff]
  constructor
  · rintro ⟨m, hs⟩
    rw [sat.star_iff] at hs
    exact ⟨m, (sat.star_iff.1 hs.p1).p2⟩
  · rintro ⟨m, hs⟩
    refine ⟨m, ?_⟩
    rw [sat.star_iff]
    exact (sat.star_iff.2 (hs.re [1, 2, 0])).p1
theorem sesNew_spec {h : Heap} {R : List Asn} (hs : sat h R) {Q : Value → Heap → Prop} (hq : ∀ b h', sat h' (tabA b 0 [] :: R) → Q (at0 b) h') : HCalls Tryz.prog 27 #[] h Q := by
  refine session_New_calls h Q ?_
  unfold session_New
  refine new_map (ek := eKI) (ev := eVP) hs fun m h1 hs1 => ?_
  refine q_ae hs1 fun b h2 hs2 => ?_
  exact hq b h2 (q_aq.2 ⟨m, (q_dq.2 hs2).b2⟩)
theorem ses_client {h : Heap} {L : List (Nat × SesS)} {R : List Asn} {p : Nat × SesS} (hp : p ∈ L) (hs : sat h (bigA (fun p => sesA p.1 p.2) L :: R)) : cellH h ⟨p.1, 1, none⟩ = some (.string p.2.client) := by
  obtain ⟨R', hs⟩ := bigA_mem hp hs
  obtain ⟨ob, ib, hs⟩ := q_b8.1 hs
  exact hs.cell 1
theorem of_spec {h : Heap} {R : List Asn} {b : Nat} {last : Int} {L : List (Nat × SesS)} {c : ByteArray} (hs : sat h (tabA b last L :: R)) {Q : Value → Heap → Prop}
    (hno : (∀ p ∈ L, p.2.client ≠ c) → ∀ h', sat h' (tabA b last L :: R) → Q (.pointer none) h')
    (hyes : ∀ p ∈ L, p.2.client = c → ∀ h', sat h' (tabA b last L :: R) → Q (at0 p.1) h') : HCalls Tryz.prog 98 #[at0 b, .string c] h Q := by
  refine q_gu _ c h Q ?_
  obtain ⟨m, hs⟩ := q_aq.1 hs
  have c1 : cellH h ⟨b, 1, none⟩ = some (.map (some m)) := hs.cell 1
  unfold q_db
  simp [c1]
  refine range_map hs.p1 fun it h1 hs1 => ?_
  refine q_cv (γ := List (Int × Option Addr) × List (Int × Option Addr))
    (fun g _ h' => (g.1 ++ g.2).Perm (L.map sesE) ∧ (∀ p ∈ L, sesE p ∈ g.1 → p.2.client ≠ c) ∧
      sat h' (itA eKI eVP m (L.map sesE) it g.1 g.2 :: cells b #[.int .i64 last, .map (some m)] :: bigA (fun p => sesA p.1 p.2) L :: R)) (fun g => g.2.length) ([], L.map sesE) ⟨List.Perm.refl _, by simp, hs1⟩ ?_
  rintro ⟨done, todo⟩ ⟨⟩ h2 ⟨hp, hd, hs2⟩
  simp only at hp hd hs2
  simp
  refine next_map hs2 (fun h0 => ?_) (fun q t1 t2 ht h3 hs3 => ?_)
  · subst h0
    simp
    refine hno (fun p hpL => hd p hpL ?_) h2 (q_aq.2 ⟨m, (itA_map hs2).p1⟩)
    rw [List.append_nil] at hp
    exact hp.mem_iff.2 (List.mem_map_of_mem hpL)
  · subst ht
    simp
    have hqm : q ∈ L.map sesE := hp.mem_iff.1 (by simp)
    obtain ⟨p, hpL, rfl⟩ := List.mem_map.1 hqm
    refine entry_map (kk := .one .any) (kv := .one .ptr) (ek := eKI) (ev := eVP) (p := sesE p) (x := Value.int .i64 p.2.id) (y := some ⟨p.1, 0, none⟩) rfl rfl hs3 ?_
    have cc : cellH h3 ⟨p.1, 1, none⟩ = some (.string p.2.client) := ses_client hpL hs3.p2
    simp [sesE, cc]
    by_cases hc : p.2.client = c
    · simp [hc]
      exact hyes p hpL hc h3 (q_aq.2 ⟨m, (itA_map hs3).p1⟩)
    · simp [hc]
      refine .mk (done ++ [sesE p], t1 ++ t2) (by simp) ⟨?_, fun a b hp' hm => ?_, hs3⟩
      · refine List.Perm.trans ?_ hp
        simp only [List.append_assoc]
        refine List.Perm.append_left done ?_
        show (sesE p :: (t1 ++ t2)).Perm _
        exact List.perm_middle.symm
      · rcases List.mem_append.1 hm with hm | hm
        · exact hd (a, b) hp' hm
        · have he := List.mem_singleton.1 hm
          have : a = p.1 := by
            have := congrArg Prod.snd he
            simpa [sesE] using this
          have c2 := ses_client hp' hs3.p2
          simp only at c2
          rw [this, cc] at c2
          have e2 : p.2.client = b.client := by simpa using c2
          exact fun e3 => hc (e2.trans e3)
def goodName (c : ByteArray) : Prop := faultOf c = none ∧ c ≠ ByteArray.mk #[] ∧ c.size ≤ 64
theorem at_spec {h : Heap} {R : List Asn} {b : Nat} {last : Int} {L : List (Nat × SesS)} {k : Int} (hs : sat h (tabA b last L :: R)) {Q : Value → Heap → Prop}
    (hno : (∀ p ∈ L, p.2.id ≠ k) → Q (.pointer none) h) (hyes : ∀ p ∈ L, p.2.id = k → Q (at0 p.1) h) : HCalls Tryz.prog 99 #[at0 b, .int .i64 k] h Q := by
  refine q_gv _ k h Q ?_
  obtain ⟨m, hs⟩ := q_aq.1 hs
  have c1 : cellH h ⟨b, 1, none⟩ = some (.map (some m)) := hs.cell 1
  unfold q_dc
  simp [c1]
  refine q_ap kI (kind := .one .ptr) (z := none) rfl hs.p1 ?_
  cases hg : mget (L.map sesE) k with
  | none =>
    simp
    refine hno fun p hp e => ?_
    have := (q_a7 _ _).1 hg
    exact this (by rw [List.map_map]; exact List.mem_map.2 ⟨p, hp, e⟩)
  | some v =>
    obtain ⟨p, hp, e⟩ := List.mem_map.1 (q_f4 hg)
    have e1 : p.2.id = k := congrArg Prod.fst e
    have e2 : some ⟨p.1, 0, none⟩ = v := congrArg Prod.snd e
    subst e2
    simpa using hyes p hp e1
theorem tab_key {h : Heap} {R : List Asn} {m : Nat} {l1 l2 : List (Nat × SesS)} {p : Nat × SesS} (hs : sat h (mapA eKI eVP m ((l1 ++ p :: l2).map sesE) :: R)) : p.2.id ∉ (l1.map sesE).map (·.1) := by
  have hn := hs.map_nodup
  rw [List.map_append, List.map_cons, List.map_append, List.map_cons, List.nodup_append] at hn
  intro hm
  exact hn.2.2 p.2.id hm p.2.id (List.mem_cons_self ..) rfl
theorem End_spec {h : Heap} {R : List Asn} {b : Nat} {last : Int} {L : List (Nat × SesS)} {k : Int} (hs : sat h (tabA b last L :: R)) {Q : Value → Heap → Prop}
    (hno : (∀ p ∈ L, p.2.id ≠ k) → Q (.bool false) h) (hoff : ∀ p ∈ L, p.2.id = k → p.2.on = false → Q (.bool false) h)
    (hkeep : ∀ l1 p l2, L = l1 ++ p :: l2 → p.2.id = k → p.2.on = true → p.2.keep = true → ∀ h', sat h' (tabA b last (l1 ++ (p.1, { p.2 with on := false, out := { p.2.out with on := false } }) :: l2) :: R) → Q (.bool false) h')
    (hdel : ∀ l1 p l2, L = l1 ++ p :: l2 → p.2.id = k → p.2.on = true → p.2.keep = false → ∀ h', sat h' (tabA b last (l1 ++ l2) :: R) → Q (.bool true) h') :
    HCalls Tryz.prog 95 #[at0 b, .int .i64 k] h Q := by
  refine q_fw _ k h Q ?_
  unfold q_cn
  simp only [HM.bind_apply, HM.call1_apply]
  refine at_spec hs (fun hn => ?_) (fun p hp he => ?_)
  · simp
    exact hno hn
  · obtain ⟨l1, l2, rfl⟩ := List.append_of_mem hp
    obtain ⟨m, hs⟩ := q_aq.1 hs
    have hs1 := q_an.1 (hs.re [2, 0, 1])
    obtain ⟨ob, ib, hs2⟩ := q_b8.1 hs1
    have c2 : cellH h ⟨p.1, 2, none⟩ = some (.bool p.2.keep) := hs2.cell 2
    have c3 : cellH h ⟨p.1, 3, none⟩ = some (.bool p.2.on) := hs2.cell 3
    by_cases hon : p.2.on = true
    · rw [hon] at c3
      simp [q_aa, c3]
      refine q_ag hs2 (by simp) rfl fun h1 hs3 => ?_
      have d4 : cellH h1 ⟨p.1, 4, none⟩ = some (at0 ob) := by rw [hs3.cell]; rfl
      simp [d4]
      refine outEnd_spec hs3.p1 fun h2 hs4 => ?_
      have e2 : cellH h2 ⟨p.1, 2, none⟩ = some (.bool p.2.keep) := by rw [hs4.p1.cell]; rfl
      simp [e2]
      have fin : ∀ {h' : Heap} {R' : List Asn}, sat h' (outA ob { p.2.out with on := false } :: cells p.1 (#[.int .i64 p.2.id, .string p.2.client, .bool p.2.keep, .bool p.2.on, at0 ob, at0 ib].setIfInBounds 3 (.bool false)) :: flowA ib p.2.inn :: bigA (fun p => sesA p.1 p.2) (l1 ++ l2) :: R') →
          sat h' (bigA (fun p => sesA p.1 p.2) (l1 ++ (p.1, { p.2 with on := false, out := { p.2.out with on := false } }) :: l2) :: R') := fun hs' => by
        refine q_an.2 (q_b8.2 ⟨ob, ib, ?_⟩)
        exact hs'.re [1, 0, 2]
      by_cases hk : p.2.keep = true
      · simp [hk, e2]
        refine hkeep l1 p l2 rfl he hon hk h2 (q_aq.2 ⟨m, ?_⟩)
        have e : (l1 ++ (p.1, { p.2 with on := false, out := { p.2.out with on := false } }) :: l2).map sesE = (l1 ++ p :: l2).map sesE := by simp [sesE]
        rw [e]
        exact (fin hs4).re [1, 2, 0]
      · have hk' : p.2.keep = false := by simpa using hk
        have hs5 := hs4.re [4, 5, 0, 1, 2, 3]
        have f1 : cellH h2 ⟨b, 1, none⟩ = some (.map (some m)) := by rw [hs5.cell]; rfl
        simp [hk', f1]
        refine q_h8 kI (ev := eVP) hs5.p1 fun h3 hs6 => ?_
        have g2 : cellH h3 ⟨p.1, 2, none⟩ = some (.bool p.2.keep) := by rw [(hs6.re [3, 0, 1, 2]).cell]; rfl
        rw [hk'] at g2
        simp [g2]
        refine hdel l1 p l2 rfl he hon hk' h3 (q_aq.2 ⟨m, ?_⟩)
        have hkey := tab_key hs.p1
        have hdl : mdel ((l1 ++ p :: l2).map sesE) k = (l1 ++ l2).map sesE := by
          rw [List.map_append, List.map_cons, show sesE p = (k, (sesE p).2) from by rw [← he]; rfl, mdel_mid (by rw [← he]; exact hkey), List.map_append]
        rw [hdl] at hs6
        have hs7 := hs6.re [1, 0, 5, 2, 3, 4]
        exact (hs7.re [3, 4, 5, 0, 1, 2]).drop.drop.drop
    · have hon' : p.2.on = false := by simpa using hon
      rw [hon'] at c3
      simp [q_aa, c3]
      exact hoff p hp he hon'
def newS (id : Int) (c : ByteArray) (keep : Bool) : SesS := ⟨id, c, keep, true, ⟨⟨64, 0, []⟩, 64, false, [], []⟩, ⟨64, 0, []⟩⟩
theorem Begin_spec {h h0 : Heap} {R : List Asn} {b : Nat} {last : Int} {L : List (Nat × SesS)} (hs : sat h (tabA b last L :: old h0 :: R)) (ht : U8 h0) {c : ByteArray} (hsz : c.size ≤ 9223372036854775807) {clean keep : Bool}
    (hl0 : 0 ≤ last) (hl1 : last < 4611686018427387904) (hid : ∀ p ∈ L, p.2.id ≤ last) {Q : Value → Heap → Prop}
    (hbad : ¬ goodName c → ∀ h', sat h' (tabA b last L :: old h0 :: R) → Q (.tuple #[.int .i64 0, .bool false, .int .u8 133]) h')
    (hfull : goodName c → (∀ p ∈ L, p.2.client ≠ c) → 32 ≤ L.length → ∀ h', sat h' (tabA b last L :: old h0 :: R) → Q (.tuple #[.int .i64 0, .bool false, .int .u8 151]) h')
    (hon : goodName c → clean = false → ∀ l1 p l2, L = l1 ++ p :: l2 → p.2.client = c → ∀ h', sat h' (tabA b last (l1 ++ (p.1, { p.2 with on := true, keep := keep }) :: l2) :: old h0 :: R) → Q (.tuple #[.int .i64 p.2.id, .bool true, .int .u8 0]) h')
    (hnew : goodName c → ∀ L0, ((∀ p ∈ L, p.2.client ≠ c) ∧ L.length < 32 ∧ L0 = L) ∨ (clean = true ∧ ∃ l1 p l2, L = l1 ++ p :: l2 ∧ p.2.client = c ∧ L0 = l1 ++ l2) →
      ∀ nb h', sat h' (tabA b (last + 1) (L0 ++ [(nb, newS (last + 1) c keep)]) :: old h0 :: R) → Q (.tuple #[.int .i64 (last + 1), .bool false, .int .u8 0]) h') :
    HCalls Tryz.prog 69 #[at0 b, .string c, .bool clean, .bool keep] h Q := by
  refine q_e0 _ c clean keep h Q ?_
  unfold q_bu
  refine q_az (Fault_spec hs.p1 ht c hsz fun h1 hs1' => ⟨(match faultOf c with | some n => ((n : Int), true, ()) | none => (0, false, ())), by cases faultOf c <;> rfl, ?_⟩)
  have hs1 := hs1'.p1
  clear hs1' hs
  have hx : (match faultOf c with | some n => ((n : Int), true, ()) | none => (0, false, ()) : Int × Bool × Unit).2.1 = (faultOf c).isSome := by cases faultOf c <;> rfl
  simp only [hx, HM.ite_apply, Option.isNone_some, Bool.false_eq_true, if_false]
  clear hx
  refine q_ad (fun x h' => h' = h1 ∧ (x.1 = true ↔ ¬ goodName c)) ?_ ?_
  · unfold goodName
    cases hf : faultOf c with
    | some n => simp
    | none =>
      by_cases g1 : c = ByteArray.mk #[]
      · simp [g1]
      · by_cases g2 : 64 < ((c.size : Nat) : Int)
        · simp [g1, g2]; omega
        · simp [g1, g2]; omega
  rintro ⟨x, ⟨⟩⟩ h2 ⟨rfl, hb⟩
  simp only at hb ⊢
  by_cases hg : goodName c
  case neg =>
    rw [HM.ite_apply, if_pos (hb.2 hg)]
    exact hbad hg h2 hs1
  rw [HM.ite_apply, if_neg (fun hh => (hb.1 hh) hg)]
  clear hb hbad
  refine q_ad (fun x h' => (x = none ∧ (∀ p ∈ L, p.2.client ≠ c) ∧ sat h' (tabA b last L :: old h0 :: R)) ∨ (∃ p, p ∈ L ∧ x = some ⟨p.1, 0, none⟩ ∧ p.2.client = c ∧ sat h' (tabA b last L :: old h0 :: R))) ?_ ?_
  · exact of_spec hs1 (fun hn h' hs' => ⟨none, rfl, .inl ⟨rfl, hn, hs'⟩⟩) (fun p hp hc h' hs' => ⟨some ⟨p.1, 0, none⟩, rfl, .inr ⟨p, hp, rfl, hc, hs'⟩⟩)
  intro x h3 hx
  refine q_ad (fun y h' => h' = h3 ∧ y.1 = (x.isSome && !clean)) ?_ ?_
  · cases x <;> simp
  rintro ⟨y, ⟨⟩⟩ h4 ⟨rfl, hy⟩
  simp only at hy ⊢
  by_cases hon' : y = true
  ·
    rw [HM.ite_apply, if_pos hon']
    rw [hon'] at hy
    obtain ⟨hxs, hcl⟩ : x.isSome = true ∧ clean = false := by
      cases x <;> cases clean <;> simp at hy ⊢
    rcases hx with ⟨rfl, -, -⟩ | ⟨p, hp, rfl, hc, hs4⟩
    · cases hxs
    obtain ⟨l1, l2, rfl⟩ := List.append_of_mem hp
    obtain ⟨m, hs5⟩ := q_aq.1 hs4
    have hs6 := q_an.1 (hs5.re [2, 0, 1])
    obtain ⟨ob, ib, hs7⟩ := q_b8.1 hs6
    simp [q_aa]
    refine q_ag hs7 (by simp) rfl fun h5 hs8 => ?_
    refine q_ag hs8 (by simp) rfl fun h6 hs9 => ?_
    have c0 : cellH h6 ⟨p.1, 0, none⟩ = some (.int .i64 p.2.id) := by rw [hs9.cell]; rfl
    simp [c0]
    refine hon hg hcl l1 p l2 rfl hc h6 (q_aq.2 ⟨m, ?_⟩)
    have e : (l1 ++ (p.1, { p.2 with on := true, keep := keep }) :: l2).map sesE = (l1 ++ p :: l2).map sesE := by simp [sesE]
    rw [e]
    have hb1 : sat h6 (bigA (fun p => sesA p.1 p.2) (l1 ++ (p.1, { p.2 with on := true, keep := keep }) :: l2) :: cells b #[.int .i64 last, .map (some m)] :: mapA eKI eVP m ((l1 ++ p :: l2).map sesE) :: old h0 :: R) :=
      q_an.2 (q_b8.2 ⟨ob, ib, hs9⟩)
    exact hb1.re [1, 2, 0]
  rw [HM.ite_apply, if_neg hon']
  obtain ⟨P, hP1, hP2, hP3⟩ : ∃ P : Unit ⊕ (Int × Bool × Int × Unit) → Heap → Prop,
      (∀ h', (∀ p ∈ L, p.2.client ≠ c) → 32 ≤ L.length → sat h' (tabA b last L :: old h0 :: R) → P (Sum.inr (0, false, 151, ())) h') ∧
      (∀ L0 h', (((∀ p ∈ L, p.2.client ≠ c) ∧ L.length < 32 ∧ L0 = L) ∨ (clean = true ∧ ∃ l1 p l2, L = l1 ++ p :: l2 ∧ p.2.client = c ∧ L0 = l1 ++ l2)) → (∀ p ∈ L0, p.2.id ≤ last) → sat h' (tabA b last L0 :: old h0 :: R) → P (Sum.inl ()) h') ∧
      (∀ z h', P z h' → (z = Sum.inr (0, false, 151, ()) ∧ (∀ p ∈ L, p.2.client ≠ c) ∧ 32 ≤ L.length ∧ sat h' (tabA b last L :: old h0 :: R)) ∨
        (z = Sum.inl () ∧ ∃ L0, (((∀ p ∈ L, p.2.client ≠ c) ∧ L.length < 32 ∧ L0 = L) ∨ (clean = true ∧ ∃ l1 p l2, L = l1 ++ p :: l2 ∧ p.2.client = c ∧ L0 = l1 ++ l2)) ∧ (∀ p ∈ L0, p.2.id ≤ last) ∧ sat h' (tabA b last L0 :: old h0 :: R))) :=
    ⟨fun z h' => (z = Sum.inr (0, false, 151, ()) ∧ (∀ p ∈ L, p.2.client ≠ c) ∧ 32 ≤ L.length ∧ sat h' (tabA b last L :: old h0 :: R)) ∨
        (z = Sum.inl () ∧ ∃ L0, (((∀ p ∈ L, p.2.client ≠ c) ∧ L.length < 32 ∧ L0 = L) ∨ (clean = true ∧ ∃ l1 p l2, L = l1 ++ p :: l2 ∧ p.2.client = c ∧ L0 = l1 ++ l2)) ∧ (∀ p ∈ L0, p.2.id ≤ last) ∧ sat h' (tabA b last L0 :: old h0 :: R)),
      fun h' a1 a2 a3 => .inl ⟨rfl, a1, a2, a3⟩, fun L0 h' a1 a2 a3 => .inr ⟨rfl, L0, a1, a2, a3⟩, fun z h' hz => hz⟩
  refine q_ad P ?_ ?_
  · rcases hx with ⟨rfl, hnc, hs4⟩ | ⟨p, hp, rfl, hc, hs4⟩
    · obtain ⟨m, hs5⟩ := q_aq.1 hs4
      have c1 : cellH h4 ⟨b, 1, none⟩ = some (.map (some m)) := hs5.cell 1
      simp [c1]
      refine len_map hs5.p1 ?_
      by_cases hlen : 32 ≤ L.length
      · have : (32 : Int) ≤ (((L.map sesE).length : Nat) : Int) := by simp; omega
        rw [if_pos this]
        exact hP1 h4 hnc hlen hs4
      · have : ¬ (32 : Int) ≤ (((L.map sesE).length : Nat) : Int) := by simp; omega
        rw [if_neg this]
        exact hP2 L h4 (.inl ⟨hnc, by omega, rfl⟩) hid hs4
    · have hcl : clean = true := by
        cases clean with
        | true => rfl
        | false => simp at hy; exact absurd hy hon'
      obtain ⟨l1, l2, rfl⟩ := List.append_of_mem hp
      obtain ⟨m, hs5⟩ := q_aq.1 hs4
      have c1 : cellH h4 ⟨b, 1, none⟩ = some (.map (some m)) := hs5.cell 1
      have hs6 := q_an.1 (hs5.re [2, 0, 1])
      obtain ⟨ob, ib, hs7⟩ := q_b8.1 hs6
      have c0 : cellH h4 ⟨p.1, 0, none⟩ = some (.int .i64 p.2.id) := hs7.cell 0
      have hkey := tab_key hs5.p1
      have hdl : mdel ((l1 ++ p :: l2).map sesE) p.2.id = (l1 ++ l2).map sesE := by
        rw [List.map_append, List.map_cons, show sesE p = (p.2.id, (sesE p).2) from rfl, mdel_mid hkey, List.map_append]
      simp [c1, q_aa, c0]
      refine q_h8 kI (ev := eVP) (hs6.re [3, 0, 1, 2]) fun h5 hs8 => ?_
      rw [hdl] at hs8
      refine hP2 (l1 ++ l2) h5 (.inr ⟨hcl, l1, p, l2, rfl, hc, rfl⟩) (fun p' hp' => hid p' ?_) (q_aq.2 ⟨m, ?_⟩)
      · rcases List.mem_append.1 hp' with h | h
        · exact List.mem_append_left _ h
        · exact List.mem_append_right _ (List.mem_cons_of_mem _ h)
      · exact (hs8.re [1, 3, 0, 2]).drop
  intro z h5 hz
  rcases hP3 z h5 hz with ⟨rfl, hnc, hlen, hs5⟩ | ⟨rfl, L0, hL0, hid0, hs5⟩
  · exact hfull hg hnc hlen h5 hs5
  simp only [Sum.elim_inl]
  obtain ⟨m, hs6⟩ := q_aq.1 hs5
  have w1 : IntKind.wrap .i64 (last + 1) = last + 1 := q_al (by omega) (by omega)
  have c0 : cellH h5 ⟨b, 0, none⟩ = some (.int .i64 last) := hs6.cell 0
  simp [c0, w1]
  refine q_ag hs6 (by simp) rfl fun h6 hs7 => ?_
  have hs7' : sat h6 (cells b #[.int .i64 (last + 1), .map (some m)] :: mapA eKI eVP m (L0.map sesE) :: bigA (fun p => sesA p.1 p.2) L0 :: old h0 :: R) := hs7
  clear hs7
  have d0 : cellH h6 ⟨b, 0, none⟩ = some (.int .i64 (last + 1)) := hs7'.cell 0
  have d1 : cellH h6 ⟨b, 1, none⟩ = some (.map (some m)) := hs7'.cell 1
  simp [d0, d1]
  refine outNew_spec hs7' 64 fun ob h7 hs8 => ?_
  have e0 : cellH h7 ⟨b, 0, none⟩ = some (.int .i64 (last + 1)) := hs8.p1.cell 0
  have e1 : cellH h7 ⟨b, 1, none⟩ = some (.map (some m)) := hs8.p1.cell 1
  simp [e0, e1]
  refine infNew_spec hs8 64 fun ib h8 hs9 => ?_
  have f0 : cellH h8 ⟨b, 0, none⟩ = some (.int .i64 (last + 1)) := hs9.p2.cell 0
  have f1 : cellH h8 ⟨b, 1, none⟩ = some (.map (some m)) := hs9.p2.cell 1
  simp [f0, f1]
  refine q_ae hs9 fun nb h9 hs10 => ?_
  have g0 : cellH h9 ⟨b, 0, none⟩ = some (.int .i64 (last + 1)) := hs10.p3.cell 0
  have g1 : cellH h9 ⟨b, 1, none⟩ = some (.map (some m)) := hs10.p3.cell 1
  simp [g0, g1]
  refine q_fu kI (inj_int .i64) (ev := eVP) (x := some ⟨nb, 0, none⟩) (hs10.re [4, 0, 1, 2, 3]) fun h10 hs11 => ?_
  have hnk : mget (L0.map sesE) (last + 1) = none := by
    rw [q_a7]
    intro hm
    rw [List.map_map] at hm
    obtain ⟨p, hp, he⟩ := List.mem_map.1 hm
    have := hid0 p hp
    have he' : p.2.id = last + 1 := he
    omega
  rw [q_d0 _ _ _ hnk] at hs11
  have k0 : cellH h10 ⟨b, 0, none⟩ = some (.int .i64 (last + 1)) := by rw [(hs11.re [4, 0, 1, 2, 3]).cell]; rfl
  simp [k0]
  refine hnew hg L0 hL0 nb h10 (q_aq.2 ⟨m, ?_⟩)
  have hses : sat h10 (sesA nb (newS (last + 1) c keep) :: bigA (fun p => sesA p.1 p.2) L0 :: cells b #[.int .i64 (last + 1), .map (some m)] :: mapA eKI eVP m (L0.map sesE ++ [(last + 1, some ⟨nb, 0, none⟩)]) :: old h0 :: R) :=
    q_b8.2 ⟨ob, ib, hs11.re [1, 3, 2, 5, 4, 0]⟩
  have hbig : sat h10 (bigA (fun p => sesA p.1 p.2) (L0 ++ [(nb, newS (last + 1) c keep)]) :: cells b #[.int .i64 (last + 1), .map (some m)] :: mapA eKI eVP m (L0.map sesE ++ [(last + 1, some ⟨nb, 0, none⟩)]) :: old h0 :: R) := by
    refine q_an.2 ?_
    rw [List.append_nil]
    exact hses
  have e : (L0 ++ [(nb, newS (last + 1) c keep)]).map sesE = L0.map sesE ++ [(last + 1, some ⟨nb, 0, none⟩)] := by simp [sesE, newS]
  rw [e]
  exact hbig.re [1, 2, 0]
end Go.Proofs.YtidlldnlphdhcaaGreatDoor
namespace Go.Proofs.YtidlldnlphdhcaaGreatDoor
open Go.H Go.Proofs
set_option linter.unusedSimpArgs false
set_option linter.unusedVariables false
set_option synthInstance.maxSize 100000
set_option synthInstance.maxHeartbeats 400000
variable {h : Heap} {R : List Asn}
abbrev sesC (s : SesS) (ob ib : Nat) : Array Value := #[.int .i64 s.id, .string s.client, .bool s.keep, .bool s.on, at0 ob, at0 ib]
theorem tab_open {b : Nat} {last : Int} {l1 l2 : List (Nat × SesS)} {p : Nat × SesS} (hs : sat h (tabA b last (l1 ++ p :: l2) :: R)) : ∃ m ob ib,
    sat h (outA ob p.2.out :: flowA ib p.2.inn :: cells p.1 (sesC p.2 ob ib) :: cells b #[.int .i64 last, .map (some m)] :: mapA eKI eVP m ((l1 ++ p :: l2).map sesE) :: bigA (fun p => sesA p.1 p.2) (l1 ++ l2) :: R) := by
  obtain ⟨m, hs⟩ := q_aq.1 hs
  have hs1 := q_an.1 (hs.re [2, 0, 1])
  obtain ⟨ob, ib, hs2⟩ := q_b8.1 hs1
  exact ⟨m, ob, ib, (hs2.re [1, 2, 0, 4, 5, 3])⟩
theorem tab_shut {b : Nat} {last : Int} {l1 l2 : List (Nat × SesS)} {p : Nat × SesS} {o : OutS} {m ob ib : Nat}
    (hs : sat h (outA ob o :: flowA ib p.2.inn :: cells p.1 (sesC p.2 ob ib) :: cells b #[.int .i64 last, .map (some m)] :: mapA eKI eVP m ((l1 ++ p :: l2).map sesE) :: bigA (fun p => sesA p.1 p.2) (l1 ++ l2) :: R)) :
    sat h (tabA b last (l1 ++ (p.1, { p.2 with out := o }) :: l2) :: R) := by
  refine q_aq.2 ⟨m, ?_⟩
  have e : (l1 ++ (p.1, { p.2 with out := o }) :: l2).map sesE = (l1 ++ p :: l2).map sesE := by simp [sesE]
  rw [e]
  have h1 : sat h (sesA p.1 { p.2 with out := o } :: bigA (fun p => sesA p.1 p.2) (l1 ++ l2) :: cells b #[.int .i64 last, .map (some m)] :: mapA eKI eVP m ((l1 ++ p :: l2).map sesE) :: R) :=
    q_b8.2 ⟨ob, ib, hs.re [2, 0, 1, 5, 3, 4]⟩
  have h2 : sat h (bigA (fun p => sesA p.1 p.2) (l1 ++ (p.1, { p.2 with out := o }) :: l2) :: cells b #[.int .i64 last, .map (some m)] :: mapA eKI eVP m ((l1 ++ p :: l2).map sesE) :: R) := q_an.2 h1
  exact h2.re [1, 2, 0]
theorem at_open {b : Nat} {last : Int} {l1 l2 : List (Nat × SesS)} {p : Nat × SesS} {k : Int} {m ob ib : Nat} {o : OutS} (hk : p.2.id = k)
    (hs : sat h (outA ob o :: flowA ib p.2.inn :: cells p.1 (sesC p.2 ob ib) :: cells b #[.int .i64 last, .map (some m)] :: mapA eKI eVP m ((l1 ++ p :: l2).map sesE) :: bigA (fun p => sesA p.1 p.2) (l1 ++ l2) :: R))
    {Q : Value → Heap → Prop} (hq : Q (at0 p.1) h) : HCalls Tryz.prog 99 #[at0 b, .int .i64 k] h Q := by
  have hnd := (hs.re [4, 0, 1, 2, 3]).map_nodup
  rw [List.map_map] at hnd
  refine at_spec (tab_shut hs) (fun hno => ?_) (fun q hq' hqk => ?_)
  · exact absurd hk (hno (p.1, { p.2 with out := o }) (List.mem_append_right _ (List.mem_cons_self ..)))
  · have : q.1 = p.1 := by
      rw [List.map_append, List.map_cons, List.nodup_append] at hnd
      rcases List.mem_append.1 hq' with hm | hm
      · exact absurd (hqk.trans hk.symm) (hnd.2.2 _ (List.mem_map_of_mem hm) _ (List.mem_cons_self ..))
      · rcases List.mem_cons.1 hm with rfl | hm
        · rfl
        · have h3 := (List.nodup_cons.1 hnd.2.1).1
          have h4 : (((·.1) ∘ sesE) q : Int) = ((·.1) ∘ sesE) p := hqk.trans hk.symm
          rw [← h4] at h3
          exact absurd (List.mem_map_of_mem hm) h3
    rw [this]
    exact hq
theorem Out_open {b : Nat} {last : Int} {l1 l2 : List (Nat × SesS)} {p : Nat × SesS} {k : Int} {m ob ib : Nat} {o : OutS} (hk : p.2.id = k)
    (hs : sat h (outA ob o :: flowA ib p.2.inn :: cells p.1 (sesC p.2 ob ib) :: cells b #[.int .i64 last, .map (some m)] :: mapA eKI eVP m ((l1 ++ p :: l2).map sesE) :: bigA (fun p => sesA p.1 p.2) (l1 ++ l2) :: R))
    {Q : Value → Heap → Prop} (hq : Q (at0 ob) h) : HCalls Tryz.prog 56 #[at0 b, .int .i64 k] h Q := by
  refine q_fv _ k h Q ?_
  unfold q_cm
  refine q_ab (at_open hk hs ⟨some ⟨p.1, 0, none⟩, rfl, ?_⟩)
  have c4 : cellH h ⟨p.1, 4, none⟩ = some (at0 ob) := (hs.re [2, 0, 1]).cell 4
  (try dsimp only); rw [HM.ite_apply, if_pos (by rfl)]
  exact ⟨_, rfl, some ⟨ob, 0, none⟩, by rw [q_aa]; exact c4, hq⟩
theorem In_open {b : Nat} {last : Int} {l1 l2 : List (Nat × SesS)} {p : Nat × SesS} {k : Int} {m ob ib : Nat} {o : OutS} (hk : p.2.id = k)
    (hs : sat h (outA ob o :: flowA ib p.2.inn :: cells p.1 (sesC p.2 ob ib) :: cells b #[.int .i64 last, .map (some m)] :: mapA eKI eVP m ((l1 ++ p :: l2).map sesE) :: bigA (fun p => sesA p.1 p.2) (l1 ++ l2) :: R))
    {Q : Value → Heap → Prop} (hq : Q (at0 ib) h) : HCalls Tryz.prog 106 #[at0 b, .int .i64 k] h Q := by
  refine q_gx _ k h Q ?_
  unfold q_dd
  refine q_ab (at_open hk hs ⟨some ⟨p.1, 0, none⟩, rfl, ?_⟩)
  have c5 : cellH h ⟨p.1, 5, none⟩ = some (at0 ib) := (hs.re [2, 0, 1]).cell 5
  (try dsimp only); rw [HM.ite_apply, if_pos (by rfl)]
  exact ⟨_, rfl, some ⟨ib, 0, none⟩, by rw [q_aa]; exact c5, hq⟩
end Go.Proofs.YtidlldnlphdhcaaGreatDoor
namespace Go.H
set_option linter.unusedSimpArgs false
set_option linter.unusedVariables false
open Go.MapKept (Stamped)
section
variable {K : Type} [DecidableEq K]
theorem mset_same {V : Type} : ∀ {l : List (K × V)} {k : K} {v : V}, mget l k = some v → mset l k v = l
  | [], k, v, h => by simp at h
  | (a, b) :: l, k, v, h => by
    rw [q_af] at h
    by_cases e : a = k
    · rw [if_pos e] at h
      cases h
      simp [mset, e]
    · rw [if_neg e] at h
      simp only [mset, if_neg e, mset_same h]
end
section
variable {K V : Type} {h : Heap} {R : List Asn} {ek : K → Value}
variable [DecidableEq K]
end
abbrev e2 (k : Int × Int) : Value := .agg #[.int .i64 k.1, .int .i64 k.2]
end Go.H
namespace Go.Proofs.YtidlldnlphdhcaaGreatDoor
open Go.H Go.Proofs
set_option linter.unusedSimpArgs false
set_option linter.unusedVariables false
abbrev Path := List ByteArray
structure Nd where
  b : Nat
  qm : Nat
  nm : Nat
  q : List (Int × Int)
  nx : List (ByteArray × Option Addr)
abbrev Nds := List (Path × Nd)
abbrev ptrOf (n : Nd) : Option Addr := some ⟨n.b, 0, none⟩
structure TreeOK (rb : Nat) (N : Nds) : Prop where
  keys : (N.map (·.1)).Nodup
  root : ∃ nd, mget N [] = some nd ∧ nd.b = rb
  down : ∀ p nd x v, mget N p = some nd → mget nd.nx x = some v → ∃ nd', mget N (p ++ [x]) = some nd' ∧ v = ptrOf nd'
  up : ∀ p x nd', mget N (p ++ [x]) = some nd' → ∃ nd, mget N p = some nd ∧ mget nd.nx x = some (ptrOf nd')
  short : ∀ p nd, mget N p = some nd → p.length ≤ 32
section
variable {K V : Type} [DecidableEq K]
theorem q_cu : ∀ {l : List (K × V)} {k : K} {v : V}, (l.map (·.1)).Nodup → (k, v) ∈ l → mget l k = some v
  | [], k, v, _, h => by simp at h
  | (a, b) :: l, k, v, hn, h => by
    rw [q_af]
    rw [List.map_cons, List.nodup_cons] at hn
    rcases List.mem_cons.1 h with e | h
    · cases e
      rw [if_pos rfl]
    · have : a ≠ k := fun e => hn.1 (by rw [e]; exact List.mem_map.2 ⟨_, h, rfl⟩)
      rw [if_neg this]
      exact q_cu hn.2 h
theorem mset_mid : ∀ {l1 l2 : List (K × V)} {k : K} {v v' : V}, k ∉ l1.map (·.1) → mset (l1 ++ (k, v) :: l2) k v' = l1 ++ (k, v') :: l2
  | [], l2, k, v, v', _ => by simp [mset]
  | (a, b) :: l1, l2, k, v, v', h => by
    simp only [List.map_cons, List.mem_cons, not_or] at h
    simp only [List.cons_append, mset, if_neg (fun e : a = k => h.1 e.symm), mset_mid h.2]
theorem q_h0 : ∀ {l : List (K × V)} {k : K} {v v' : V}, mget l k = some v → (mset l k v').map (·.1) = l.map (·.1)
  | [], k, v, v', h => by simp at h
  | (a, b) :: l, k, v, v', h => by
    rw [q_af] at h
    simp only [mset]
    by_cases e : a = k
    · rw [if_pos e]; simp [e]
    · rw [if_neg e] at h
      rw [if_neg e, List.map_cons, q_h0 h, List.map_cons]
theorem q_c3 {l : List (K × V)} (hn : (l.map (·.1)).Nodup) (k k' : K) : mget (mdel l k) k' = if k = k' then none else mget l k' := by
  induction l with
  | nil => simp [mdel]
  | cons p l ih =>
    obtain ⟨a, b⟩ := p
    rw [List.map_cons, List.nodup_cons] at hn
    simp only [mdel]
    by_cases e : a = k
    · rw [if_pos e]
      subst e
      by_cases e' : a = k'
      · subst e'
        rw [if_pos rfl]
        exact (q_a7 _ _).2 hn.1
      · rw [if_neg e', q_af, if_neg e']
    · rw [if_neg e, q_af, q_af, ih hn.2]
      by_cases e' : k = k'
      · subst e'
        rw [if_neg e, if_pos rfl, if_pos rfl]
      · rw [if_neg e', if_neg e']
theorem keys_mdel : ∀ {l : List (K × V)} {k : K}, (l.map (·.1)).Nodup → ((mdel l k).map (·.1)).Nodup := by
  intro l k hn
  have : ((mdel l k).map (·.1)).Sublist (l.map (·.1)) := by
    clear hn
    induction l with
    | nil => simp [mdel]
    | cons p l ih =>
      obtain ⟨a, b⟩ := p
      simp only [mdel]
      by_cases e : a = k
      · rw [if_pos e]; exact List.sublist_cons_self ..
      · rw [if_neg e]; exact ih.cons_cons _
  exact this.nodup hn
theorem mget_split {l : List (K × V)} {k : K} {v : V} (h : mget l k = some v) : ∃ l1 l2, l = l1 ++ (k, v) :: l2 ∧ k ∉ l1.map (·.1) := by
  induction l with
  | nil => simp at h
  | cons p l ih =>
    obtain ⟨a, b⟩ := p
    rw [q_af] at h
    by_cases e : a = k
    · rw [if_pos e] at h
      cases h
      subst e
      exact ⟨[], l, rfl, by simp⟩
    · rw [if_neg e] at h
      obtain ⟨l1, l2, rfl, h2⟩ := ih h
      exact ⟨(a, b) :: l1, l2, rfl, by simp only [List.map_cons, List.mem_cons, not_or]; exact ⟨fun x => e x.symm, h2⟩⟩
theorem q_f5 (l1 l2 : List (K × V)) (k : K) : mget (l1 ++ l2) k = (mget l1 k).or (mget l2 k) := by
  induction l1 with
  | nil => simp
  | cons p l ih =>
    obtain ⟨a, b⟩ := p
    rw [List.cons_append, q_af, q_af, ih]
    by_cases e : a = k
    · rw [if_pos e, if_pos e]; rfl
    · rw [if_neg e, if_neg e]
end
def ent (N : Nds) (p : Path) (id : Int) : Option Int := (mget N p).bind fun nd => mget nd.q id
theorem app_ne (p : Path) (x : ByteArray) : p ++ [x] ≠ p := fun h => by
  have := congrArg List.length h
  simp at this
theorem app_inj {p p' : Path} {x x' : ByteArray} (h : p ++ [x] = p' ++ [x']) : p = p' ∧ x = x' := by
  have := List.append_inj' h rfl
  exact ⟨this.1, by simpa using this.2⟩
namespace TreeOK
variable {rb : Nat} {N : Nds}
theorem pre (h : TreeOK rb N) : ∀ (r p : Path) nd, mget N (p ++ r) = some nd → ∃ nd', mget N p = some nd'
  | [], p, nd, hn => by rw [List.append_nil] at hn; exact ⟨nd, hn⟩
  | x :: r, p, nd, hn => by
    have e : p ++ x :: r = (p ++ [x]) ++ r := by simp
    rw [e] at hn
    obtain ⟨nd', h1⟩ := pre h r _ nd hn
    obtain ⟨nd'', h2, _⟩ := h.up _ _ _ h1
    exact ⟨nd'', h2⟩
theorem setq (h : TreeOK rb N) {p : Path} {nd : Nd} (hp : mget N p = some nd) (q' : List (Int × Int)) : TreeOK rb (mset N p { nd with q := q' }) where
  keys := by rw [q_h0 hp]; exact h.keys
  root := by
    obtain ⟨r, h1, h2⟩ := h.root
    rw [q_ai]
    by_cases e : p = []
    · rw [if_pos e]
      subst e
      rw [hp] at h1
      cases h1
      exact ⟨_, rfl, h2⟩
    · rw [if_neg e]; exact ⟨r, h1, h2⟩
  down := by
    intro p1 n1 x v h1 h2
    have key : ∃ n0, mget N p1 = some n0 ∧ mget n0.nx x = some v := by
      rw [q_ai] at h1
      by_cases e : p = p1
      · rw [if_pos e] at h1
        cases h1
        subst e
        exact ⟨nd, hp, h2⟩
      · rw [if_neg e] at h1; exact ⟨n1, h1, h2⟩
    obtain ⟨n0, h3, h4⟩ := key
    obtain ⟨c, h5, h6⟩ := h.down _ _ _ _ h3 h4
    rw [q_ai]
    by_cases e : p = p1 ++ [x]
    · rw [if_pos e]
      rw [← e, hp] at h5
      cases h5
      exact ⟨_, rfl, h6⟩
    · rw [if_neg e]; exact ⟨c, h5, h6⟩
  up := by
    intro p1 x c h1
    have key : ∃ c0, mget N (p1 ++ [x]) = some c0 ∧ ptrOf c = ptrOf c0 := by
      rw [q_ai] at h1
      by_cases e : p = p1 ++ [x]
      · rw [if_pos e] at h1
        cases h1
        rw [← e]
        exact ⟨nd, hp, rfl⟩
      · rw [if_neg e] at h1; exact ⟨c, h1, rfl⟩
    obtain ⟨c0, h2, h3⟩ := key
    obtain ⟨n0, h4, h5⟩ := h.up _ _ _ h2
    rw [q_ai]
    by_cases e : p = p1
    · rw [if_pos e]
      subst e
      rw [hp] at h4
      cases h4
      exact ⟨_, rfl, by rw [h3]; exact h5⟩
    · rw [if_neg e]; exact ⟨n0, h4, by rw [h3]; exact h5⟩
  short := by
    intro p1 n1 h1
    rw [q_ai] at h1
    by_cases e : p = p1
    · rw [← e]; exact h.short _ _ hp
    · rw [if_neg e] at h1; exact h.short _ _ h1
theorem grow (h : TreeOK rb N) {p : Path} {nd c : Nd} {x : ByteArray} (hp : mget N p = some nd) (hx : mget nd.nx x = none) (hc : c.nx = []) (hsh : p.length < 32) :
    mget N (p ++ [x]) = none ∧ TreeOK rb (mset N p { nd with nx := mset nd.nx x (ptrOf c) } ++ [(p ++ [x], c)]) := by
  have hno : mget N (p ++ [x]) = none := by
    cases e : mget N (p ++ [x]) with
    | none => rfl
    | some c' =>
      obtain ⟨n0, h1, h2⟩ := h.up _ _ _ e
      rw [hp] at h1
      cases h1
      rw [hx] at h2
      cases h2
  have hget : ∀ p', mget (mset N p { nd with nx := mset nd.nx x (ptrOf c) } ++ [(p ++ [x], c)]) p' = if p = p' then some { nd with nx := mset nd.nx x (ptrOf c) } else if p ++ [x] = p' then some c else mget N p' := by
    intro p'
    rw [q_f5, q_ai]
    by_cases e : p = p'
    · rw [if_pos e, if_pos e]; rfl
    · rw [if_neg e, if_neg e, q_af]
      by_cases e' : p ++ [x] = p'
      · rw [if_pos e', if_pos e', ← e', hno]; rfl
      · rw [if_neg e', if_neg e', mget_nil]
        cases mget N p' <;> rfl
  refine ⟨hno, ?_, ?_, ?_, ?_, ?_⟩
  · rw [List.map_append, q_h0 hp, List.nodup_append]
    refine ⟨h.keys, by simp, fun a ha b hb => ?_⟩
    simp only [List.map_cons, List.map_nil, List.mem_singleton] at hb
    subst hb
    intro e
    subst e
    exact (q_a7 _ _).1 hno ha
  · obtain ⟨r, h1, h2⟩ := h.root
    rw [hget]
    by_cases e : p = []
    · rw [if_pos e]
      subst e
      rw [hp] at h1
      cases h1
      exact ⟨_, rfl, h2⟩
    · rw [if_neg e, if_neg (by simp)]; exact ⟨r, h1, h2⟩
  · intro p1 n1 y v h1 h2
    rw [hget] at h1
    by_cases e : p = p1
    · rw [if_pos e] at h1
      cases h1
      subst e
      simp only [q_ai] at h2
      by_cases e' : x = y
      · rw [if_pos e'] at h2
        cases h2
        subst e'
        rw [hget, if_neg (fun e => app_ne p x e.symm), if_pos rfl]
        exact ⟨c, rfl, rfl⟩
      · rw [if_neg e'] at h2
        obtain ⟨c', h3, h4⟩ := h.down _ _ _ _ hp h2
        rw [hget, if_neg (fun e => app_ne p y e.symm), if_neg (fun e => e' (app_inj e).2)]
        exact ⟨c', h3, h4⟩
    · rw [if_neg e] at h1
      by_cases e2 : p ++ [x] = p1
      · rw [if_pos e2] at h1
        cases h1
        rw [hc] at h2
        simp at h2
      · rw [if_neg e2] at h1
        obtain ⟨c', h3, h4⟩ := h.down _ _ _ _ h1 h2
        rw [hget]
        by_cases e3 : p = p1 ++ [y]
        · rw [if_pos e3]
          rw [← e3, hp] at h3
          cases h3
          exact ⟨_, rfl, h4⟩
        · rw [if_neg e3]
          by_cases e4 : p ++ [x] = p1 ++ [y]
          · exact absurd (app_inj e4).1 e
          · rw [if_neg e4]; exact ⟨c', h3, h4⟩
  · intro p1 y c1 h1
    rw [hget] at h1
    by_cases e : p = p1 ++ [y]
    · rw [if_pos e] at h1
      cases h1
      obtain ⟨n0, h3, h4⟩ := h.up p1 y nd (by rw [← e]; exact hp)
      rw [hget, if_neg (fun e' => by rw [e'] at e; exact app_ne _ _ e.symm)]
      by_cases e5 : p ++ [x] = p1
      · rw [← e5, hno] at h3
        cases h3
      · rw [if_neg e5]; exact ⟨n0, h3, h4⟩
    · rw [if_neg e] at h1
      by_cases e2 : p ++ [x] = p1 ++ [y]
      · rw [if_pos e2] at h1
        cases h1
        obtain ⟨rfl, rfl⟩ := app_inj e2
        rw [hget, if_pos rfl]
        exact ⟨_, rfl, by simp [q_ai]⟩
      · rw [if_neg e2] at h1
        obtain ⟨n0, h3, h4⟩ := h.up _ _ _ h1
        rw [hget]
        by_cases e5 : p = p1
        · rw [if_pos e5]
          subst e5
          rw [hp] at h3
          cases h3
          refine ⟨_, rfl, ?_⟩
          simp only [q_ai]
          rw [if_neg (fun e6 => e2 (by rw [e6]))]
          exact h4
        · rw [if_neg e5]
          by_cases e6 : p ++ [x] = p1
          · rw [← e6, hno] at h3
            cases h3
          · rw [if_neg e6]; exact ⟨n0, h3, h4⟩
  · intro p1 n1 h1
    rw [hget] at h1
    by_cases e : p = p1
    · rw [← e]; exact h.short _ _ hp
    · rw [if_neg e] at h1
      by_cases e2 : p ++ [x] = p1
      · rw [← e2, List.length_append]; simp; omega
      · rw [if_neg e2] at h1; exact h.short _ _ h1
theorem cut (h : TreeOK rb N) {p : Path} {nd c : Nd} {x : ByteArray} (hp : mget N p = some nd) (hk : (nd.nx.map (·.1)).Nodup) (hx : mget N (p ++ [x]) = some c) (hc : c.nx = []) :
    TreeOK rb (mdel (mset N p { nd with nx := mdel nd.nx x }) (p ++ [x])) := by
  have hkeys : ((mset N p { nd with nx := mdel nd.nx x }).map (·.1)).Nodup := by rw [q_h0 hp]; exact h.keys
  have hget : ∀ p', mget (mdel (mset N p { nd with nx := mdel nd.nx x }) (p ++ [x])) p' = if p ++ [x] = p' then none else if p = p' then some { nd with nx := mdel nd.nx x } else mget N p' := by
    intro p'
    rw [q_c3 hkeys, q_ai]
  refine ⟨keys_mdel hkeys, ?_, ?_, ?_, ?_⟩
  · obtain ⟨r, h1, h2⟩ := h.root
    rw [hget, if_neg (by simp)]
    by_cases e : p = []
    · rw [if_pos e]
      subst e
      rw [hp] at h1
      cases h1
      exact ⟨_, rfl, h2⟩
    · rw [if_neg e]; exact ⟨r, h1, h2⟩
  · intro p1 n1 y v h1 h2
    rw [hget] at h1
    by_cases e0 : p ++ [x] = p1
    · rw [if_pos e0] at h1; cases h1
    rw [if_neg e0] at h1
    by_cases e : p = p1
    · rw [if_pos e] at h1
      cases h1
      subst e
      simp only [q_c3 hk] at h2
      by_cases e' : x = y
      · rw [if_pos e'] at h2; cases h2
      rw [if_neg e'] at h2
      obtain ⟨c', h3, h4⟩ := h.down _ _ _ _ hp h2
      rw [hget, if_neg (fun e => e' (app_inj e).2), if_neg (fun e => app_ne p y e.symm)]
      exact ⟨c', h3, h4⟩
    · rw [if_neg e] at h1
      obtain ⟨c', h3, h4⟩ := h.down _ _ _ _ h1 h2
      rw [hget, if_neg (fun e' => e (app_inj e').1)]
      by_cases e3 : p = p1 ++ [y]
      · rw [if_pos e3]
        rw [← e3, hp] at h3
        cases h3
        exact ⟨_, rfl, h4⟩
      · rw [if_neg e3]; exact ⟨c', h3, h4⟩
  · intro p1 y c1 h1
    rw [hget] at h1
    by_cases e0 : p ++ [x] = p1 ++ [y]
    · rw [if_pos e0] at h1; cases h1
    rw [if_neg e0] at h1
    have key : ∃ c0, mget N (p1 ++ [y]) = some c0 ∧ ptrOf c1 = ptrOf c0 := by
      by_cases e : p = p1 ++ [y]
      · rw [if_pos e] at h1
        cases h1
        rw [← e]
        exact ⟨nd, hp, rfl⟩
      · rw [if_neg e] at h1; exact ⟨c1, h1, rfl⟩
    obtain ⟨c0, h2, h3⟩ := key
    obtain ⟨n0, h4, h5⟩ := h.up _ _ _ h2
    rw [hget]
    have hne : p ++ [x] ≠ p1 := by
      intro e
      rw [← e, hx] at h4
      cases h4
      rw [hc] at h5
      simp at h5
    rw [if_neg hne]
    by_cases e : p = p1
    · rw [if_pos e]
      subst e
      rw [hp] at h4
      cases h4
      refine ⟨_, rfl, ?_⟩
      simp only [q_c3 hk]
      rw [if_neg (fun e6 => e0 (by rw [e6])), h3]
      exact h5
    · rw [if_neg e]; exact ⟨n0, h4, by rw [h3]; exact h5⟩
  · intro p1 n1 h1
    rw [hget] at h1
    by_cases e : p ++ [x] = p1
    · rw [if_pos e] at h1; cases h1
    · rw [if_neg e] at h1
      by_cases e2 : p = p1
      · rw [← e2]; exact h.short _ _ hp
      · rw [if_neg e2] at h1; exact h.short _ _ h1
end TreeOK
end Go.Proofs.YtidlldnlphdhcaaGreatDoor
namespace Go.Proofs.YtidlldnlphdhcaaGreatDoor
open Go.H Go.Proofs
set_option linter.unusedSimpArgs false
set_option linter.unusedVariables false
set_option synthInstance.maxSize 100000
set_option synthInstance.maxHeartbeats 400000
set_option maxRecDepth 100000
variable {h h0 : Heap} {R : List Asn}
abbrev kI9 := key_int .i64
abbrev kS9 := key_str
abbrev eKI9 : Int → Value := fun n => .int .i64 n
abbrev eVI9 : Int → Value := Kind.val (.one (.int .i64))
abbrev eKS9 : ByteArray → Value := fun s => .string s
abbrev eVP9 : Option Addr → Value := Kind.val (.one .ptr)
abbrev at9 (b : Nat) : Value := .pointer (some ⟨b, 0, none⟩)
def ndA (x : Nd) : Asn := star (cells x.b #[.map (some x.qm), .map (some x.nm)]) (star (mapA eKI9 eVI9 x.qm x.q) (mapA eKS9 eVP9 x.nm x.nx))
def ndsA (N : Nds) : Asn := bigA (fun p : Path × Nd => ndA p.2) N
theorem ndA_iff {x : Nd} : sat h (ndA x :: R) ↔ sat h (cells x.b #[.map (some x.qm), .map (some x.nm)] :: mapA eKI9 eVI9 x.qm x.q :: mapA eKS9 eVP9 x.nm x.nx :: R) := by
  unfold ndA
  constructor
  · intro hs
    exact (sat.star_iff.1 (sat.star_iff.1 hs).p1).p2
  · intro hs
    exact sat.star_iff.2 (sat.star_iff.2 (hs.re [1, 2, 0])).p1
theorem q_ca {N : Nds} {p : Path} {nd : Nd} (hp : mget N p = some nd) (hs : sat h (ndsA N :: R)) : ∃ l1 l2, N = l1 ++ (p, nd) :: l2 ∧ p ∉ l1.map (·.1) ∧
    sat h (cells nd.b #[.map (some nd.qm), .map (some nd.nm)] :: mapA eKI9 eVI9 nd.qm nd.q :: mapA eKS9 eVP9 nd.nm nd.nx :: bigA (fun p : Path × Nd => ndA p.2) (l1 ++ l2) :: R) := by
  obtain ⟨l1, l2, rfl, hn⟩ := mget_split hp
  exact ⟨l1, l2, rfl, hn, ndA_iff.1 (q_an.1 hs)⟩
theorem nds_shut {l1 l2 : Nds} {p : Path} {nd nd' : Nd} (hn : p ∉ l1.map (·.1))
    (hs : sat h (cells nd'.b #[.map (some nd'.qm), .map (some nd'.nm)] :: mapA eKI9 eVI9 nd'.qm nd'.q :: mapA eKS9 eVP9 nd'.nm nd'.nx :: bigA (fun p : Path × Nd => ndA p.2) (l1 ++ l2) :: R)) :
    sat h (ndsA (mset (l1 ++ (p, nd) :: l2) p nd') :: R) := by
  rw [mset_mid hn]
  exact q_an.2 (ndA_iff.2 hs)
theorem q_as {N : Nds} {p : Path} {nd : Nd} (hp : mget N p = some nd) (hs : sat h (ndsA N :: R)) : cellH h ⟨nd.b, 0, none⟩ = some (.map (some nd.qm)) ∧ cellH h ⟨nd.b, 1, none⟩ = some (.map (some nd.nm)) := by
  obtain ⟨l1, l2, -, -, hs⟩ := q_ca hp hs
  exact ⟨hs.cell 0, hs.cell 1⟩
theorem q_if {N : Nds} {p : Path} {nd : Nd} {x : ByteArray} (hp : mget N p = some nd) (hs : sat h (ndsA N :: R)) {Q : Option Addr × Bool → Heap → Prop} (hq : Q ((mget nd.nx x).getD none, (mget nd.nx x).isSome) h) :
    HM.lookup (Instr.sameNow .string) (.pointer none) (.one .ptr) (some nd.nm) (.string x) h Q := by
  obtain ⟨l1, l2, -, -, hs⟩ := q_ca hp hs
  exact q_ap kS9 (ek := eKS9) (kind := .one .ptr) (z := none) rfl hs.p2 hq
theorem nds_q {N : Nds} {p : Path} {nd : Nd} {x : Int} (hp : mget N p = some nd) (hs : sat h (ndsA N :: R)) {Q : Int × Bool → Heap → Prop} (hq : Q ((mget nd.q x).getD 0, (mget nd.q x).isSome) h) :
    HM.lookup (Instr.sameNow (.int .i64)) (.int .i64 0) (.one (.int .i64)) (some nd.qm) (.int .i64 x) h Q := by
  obtain ⟨l1, l2, -, -, hs⟩ := q_ca hp hs
  exact q_ap kI9 (ek := eKI9) (kind := .one (.int .i64)) (z := 0) rfl hs.p1 hq
theorem q_hx {N : Nds} {p : Path} {nd : Nd} (hp : mget N p = some nd) (hs : sat h (ndsA N :: R)) : (nd.q.map (·.1)).Nodup ∧ (nd.nx.map (·.1)).Nodup := by
  obtain ⟨l1, l2, -, -, hs⟩ := q_ca hp hs
  exact ⟨hs.p1.map_nodup, hs.p2.map_nodup⟩
theorem nds_setq {N : Nds} {p : Path} {nd : Nd} {k v : Int} (hp : mget N p = some nd) (hs : sat h (ndsA N :: R)) {Q : Unit → Heap → Prop} (hq : ∀ h', sat h' (ndsA (mset N p { nd with q := mset nd.q k v }) :: R) → Q () h') :
    HM.mapSet (Instr.sameNow (.int .i64)) (some nd.qm) (.int .i64 k) (.int .i64 v) h Q := by
  obtain ⟨l1, l2, rfl, hn, hs⟩ := q_ca hp hs
  refine q_fu kI9 (ek := eKI9) (inj_int .i64) (ev := eVI9) (x := v) hs.p1 fun h1 hs1 => hq h1 ?_
  exact nds_shut (nd' := { nd with q := mset nd.q k v }) hn hs1.p1
theorem nds_delq {N : Nds} {p : Path} {nd : Nd} {k : Int} (hp : mget N p = some nd) (hs : sat h (ndsA N :: R)) {Q : Unit → Heap → Prop} (hq : ∀ h', sat h' (ndsA (mset N p { nd with q := mdel nd.q k }) :: R) → Q () h') :
    HM.mapDel (Instr.sameNow (.int .i64)) (some nd.qm) (.int .i64 k) h Q := by
  obtain ⟨l1, l2, rfl, hn, hs⟩ := q_ca hp hs
  refine q_h8 kI9 (ek := eKI9) (ev := eVI9) hs.p1 fun h1 hs1 => hq h1 ?_
  exact nds_shut (nd' := { nd with q := mdel nd.q k }) hn hs1.p1
theorem nds_setn {N : Nds} {p : Path} {nd : Nd} {k : ByteArray} {v : Option Addr} (hp : mget N p = some nd) (hs : sat h (ndsA N :: R)) {Q : Unit → Heap → Prop} (hq : ∀ h', sat h' (ndsA (mset N p { nd with nx := mset nd.nx k v }) :: R) → Q () h') :
    HM.mapSet (Instr.sameNow .string) (some nd.nm) (.string k) (.pointer v) h Q := by
  obtain ⟨l1, l2, rfl, hn, hs⟩ := q_ca hp hs
  refine q_fu kS9 (ek := eKS9) inj_str (ev := eVP9) (x := v) hs.p2 fun h1 hs1 => hq h1 ?_
  exact nds_shut (nd' := { nd with nx := mset nd.nx k v }) hn (hs1.re [1, 2, 0])
theorem nds_deln {N : Nds} {p : Path} {nd : Nd} {k : ByteArray} (hp : mget N p = some nd) (hs : sat h (ndsA N :: R)) {Q : Unit → Heap → Prop} (hq : ∀ h', sat h' (ndsA (mset N p { nd with nx := mdel nd.nx k }) :: R) → Q () h') :
    HM.mapDel (Instr.sameNow .string) (some nd.nm) (.string k) h Q := by
  obtain ⟨l1, l2, rfl, hn, hs⟩ := q_ca hp hs
  refine q_h8 kS9 (ek := eKS9) (ev := eVP9) hs.p2 fun h1 hs1 => hq h1 ?_
  exact nds_shut (nd' := { nd with nx := mdel nd.nx k }) hn (hs1.re [1, 2, 0])
theorem nds_lenq {N : Nds} {p : Path} {nd : Nd} (hp : mget N p = some nd) (hs : sat h (ndsA N :: R)) {Q : Int → Heap → Prop} (hq : Q (nd.q.length : Int) h) : HM.mapLen (some nd.qm) h Q := by
  obtain ⟨l1, l2, rfl, hn, hs⟩ := q_ca hp hs
  exact len_map hs.p1 hq
theorem nds_lenn {N : Nds} {p : Path} {nd : Nd} (hp : mget N p = some nd) (hs : sat h (ndsA N :: R)) {Q : Int → Heap → Prop} (hq : Q (nd.nx.length : Int) h) : HM.mapLen (some nd.nm) h Q := by
  obtain ⟨l1, l2, rfl, hn, hs⟩ := q_ca hp hs
  exact len_map hs.p2 hq
theorem nds_drop {N : Nds} {p : Path} {nd : Nd} (hp : mget N p = some nd) (hs : sat h (ndsA N :: R)) : sat h (ndsA (mdel N p) :: R) := by
  obtain ⟨l1, l2, rfl, hn⟩ := mget_split hp
  rw [mdel_mid hn]
  exact (q_an.1 hs).drop
theorem nds_add {N : Nds} {p : Path} {nd : Nd} (hs : sat h (ndA nd :: ndsA N :: R)) : sat h (ndsA (N ++ [(p, nd)]) :: R) := by
  refine q_an.2 ?_
  rw [List.append_nil]
  exact hs
theorem sprout_spec (hs : sat h R) {Q : Value → Heap → Prop} (hq : ∀ b qm nm h', sat h' (ndA ⟨b, qm, nm, [], []⟩ :: R) → Q (at9 b) h') : HCalls Tryz.prog 59 #[] h Q := by
  refine trie_sprout_calls h Q ?_
  unfold trie_sprout
  refine new_map (ek := eKI9) (ev := eVI9) hs fun qm h1 hs1 => ?_
  refine new_map (ek := eKS9) (ev := eVP9) hs1 fun nm h2 hs2 => ?_
  refine q_ae hs2 fun b h3 hs3 => ?_
  exact hq b qm nm h3 (ndA_iff.2 (hs3.re [0, 2, 1]))
abbrev trC (rb cm : Nat) : Array Value := #[at9 rb, .map (some cm)]
theorem Levels9_spec (hs : sat h (old h0 :: R)) (ht : TP h0) {s : ByteArray} (hsz : s.size ≤ 16777216) {Q : Value → Heap → Prop}
    (hq : ∀ (sl : Slc) h', sat h' (ownS eS 1 sl (levels s) :: old h0 :: R) → Q (.slice sl.a sl.len sl.cap) h') :
    HCalls Tryz.prog 36 #[.string s] h Q := by
  refine q_ek s h Q ?_
  unfold q_el
  refine q_ab (fun w hw => ?_)
  subst hw
  obtain ⟨m, hm⟩ := ht.maxl
  refine (Any.strings_Split splitS (by kernel_rfl) s (ByteArray.mk #[47]) m w (by omega) (hs.old_cell hm) (by decide)).mono ?_
  rintro e w' ⟨rfl, rfl⟩
  have hl : (levels s).length = Go.Lib.countB s slash + 1 := Go.Lib.splitB_all slash (by decide) 0 _ s rfl
  have := hq ⟨some ⟨w.heap.size, 0, none⟩, (levels s).length, (levels s).length⟩ _ (own_full (hs.push_cells (T := splitS_ren.t 9)))
  rw [hl] at this
  exact ⟨_, rfl, ⟨rfl, rfl, rfl⟩, ⟨some ⟨w.heap.size, 0, none⟩, Go.Lib.countB s slash + 1, Go.Lib.countB s slash + 1⟩, rfl, this⟩
theorem take_snoc {xs : Path} {i : Nat} {x : ByteArray} (hx : xs[i]? = some x) : xs.take (i + 1) = xs.take i ++ [x] := by
  rw [List.take_add_one, hx]
  rfl
theorem find_spec {t rb cm : Nat} {N : Nds} (ht : TP h0) (hT : TreeOK rb N) {f : ByteArray} (hsz : f.size ≤ 16777216) (hs : sat h (cells t (trC rb cm) :: ndsA N :: old h0 :: R)) {Q : Value → Heap → Prop}
    (hno : mget N (levels f) = none → ∀ h', sat h' (cells t (trC rb cm) :: ndsA N :: old h0 :: R) → Q (.pointer none) h')
    (hyes : ∀ nd, mget N (levels f) = some nd → ∀ h', sat h' (cells t (trC rb cm) :: ndsA N :: old h0 :: R) → Q (.pointer (ptrOf nd)) h') :
    HCalls Tryz.prog 164 #[at9 t, .string f] h Q := by
  refine q_io (some ⟨t, 0, none⟩) f h Q ?_
  unfold q_ew
  refine ⟨_, rfl, some ⟨rb, 0, none⟩, by rw [q_aa]; exact hs.cell 0, ?_⟩
  refine q_ab (Levels9_spec hs.p2 ht hsz fun sl h1 hs1' => ⟨sl, rfl, ?_⟩)
  have hs1 : sat h1 (ownS eS 1 sl (levels f) :: cells t (trC rb cm) :: ndsA N :: old h0 :: R) := hs1'.re [0, 2, 3, 1]
  clear hs1' hs
  have hlen := hs1.own_len
  have hl32 : (levels f).length < 1000000000 := by
    have := q_ii f
    have h2 := List.count_le_length (a := (47 : UInt8)) (l := f.data.toList)
    have h3 : f.data.toList.length = f.size := by simp
    omega
  obtain ⟨r, hr1, hr2⟩ := hT.root
  (try dsimp only); rw [HM.bind_apply]
  refine q_cv (γ := Nat) (hb := fun s => by
      repeat' with_reducible first
        | refine @mono_bind _ _ _ _ ?_ (fun _ => ?_)
        | refine @mono_ite _ _ _ _ ?_ ?_
        | refine @mono_req _ _ _ ?_
      all_goals infer_instance)
    (fun g x h' => g ≤ (levels f).length ∧ x.2.1 = (g : Int) ∧ (∃ nd, mget N ((levels f).take g) = some nd ∧ x.1 = ptrOf nd) ∧ sat h' (ownS eS 1 sl (levels f) :: cells t (trC rb cm) :: ndsA N :: old h0 :: R)) (fun g => (levels f).length - g) 0
    ⟨Nat.zero_le _, rfl, ⟨r, by simpa using hr1, by rw [← hr2]⟩, hs1⟩ ?_
  clear hs1 hr1 hr2 r
  rintro i ⟨pt, ci, ⟨⟩⟩ h2 ⟨hi, hci, ⟨nd, hnd, hpt⟩, hs2⟩
  simp only at hi hci hpt hs2
  subst hci
  subst hpt
  have next : IntKind.wrap .i64 ((i : Int) + 1) = ((i + 1 : Nat) : Int) := by rw [q_al (by omega) (by omega)]; rfl
  simp only [HM.ite_apply, decide_eq_true_eq]
  by_cases hlt : i < (levels f).length
  · rw [if_pos (by omega), HM.bind_apply]
    have hx := List.getElem?_eq_getElem hlt
    generalize (levels f)[i] = x at hx
    refine q_bi (hs2.own_row q_et) hx fun a ha => ?_
    refine ⟨x, ha 0 _ rfl, ?_⟩
    refine ⟨_, rfl, some nd.nm, by rw [q_aa]; exact (q_as hnd hs2.p2).2, ?_⟩
    (try dsimp only); rw [HM.bind_apply]
    refine q_if hnd hs2.p2 ?_
    (try dsimp only); rw [HM.ite_apply]
    have htk := take_snoc hx
    cases hg : mget nd.nx x with
    | none =>
      rw [if_pos (by rfl)]
      simp only [Sum.elim_inl, Sum.elim_inr, HM.pure_apply]
      refine hno ?_ h2 hs2.drop
      cases hh : mget N (levels f) with
      | none => rfl
      | some nd' =>
        have e : levels f = (levels f).take (i + 1) ++ (levels f).drop (i + 1) := (List.take_append_drop _ _).symm
        rw [e] at hh
        obtain ⟨c, hc⟩ := hT.pre _ _ _ hh
        rw [htk] at hc
        obtain ⟨n0, h3, h4⟩ := hT.up _ _ _ hc
        rw [hnd] at h3
        cases h3
        rw [hg] at h4
        cases h4
    | some v =>
      obtain ⟨c, hc, rfl⟩ := hT.down _ _ _ _ hnd hg
      rw [if_neg (by simp)]
      simp only [Sum.elim_inl, Sum.elim_inr, HM.pure_apply]
      exact .mk (i + 1) (by omega) ⟨by omega, next, ⟨c, by rw [htk]; exact hc, rfl⟩, hs2⟩
  · rw [if_neg (by omega)]
    have : i = (levels f).length := by omega
    subst this
    rw [List.take_length] at hnd
    simp only [Sum.elim_inl, Sum.elim_inr, HM.pure_apply]
    exact hyes nd hnd h2 hs2.drop
end Go.Proofs.YtidlldnlphdhcaaGreatDoor
namespace Go.Proofs.YtidlldnlphdhcaaGreatDoor
open Go.H Go.Proofs
set_option linter.unusedSimpArgs false
set_option linter.unusedVariables false
set_option synthInstance.maxSize 100000
set_option synthInstance.maxHeartbeats 400000
set_option maxRecDepth 100000
variable {h h0 : Heap} {R : List Asn}
def trM (t : Nat) (N : Nds) (C : List (Int × Int)) : Asn := exA fun x : Nat × Nat =>
  star (pr (TreeOK x.1 N)) (star (cells t (trC x.1 x.2)) (star (ndsA N) (mapA eKI9 eVI9 x.2 C)))
theorem q_cj {t : Nat} {N : Nds} {C : List (Int × Int)} : sat h (trM t N C :: R) ↔ ∃ rb cm, TreeOK rb N ∧ sat h (cells t (trC rb cm) :: ndsA N :: mapA eKI9 eVI9 cm C :: R) := by
  unfold trM
  rw [sat.ex_iff]
  constructor
  · rintro ⟨⟨rb, cm⟩, hs⟩
    rw [sat.star_iff, sat.pr_iff] at hs
    exact ⟨rb, cm, hs.1, (sat.star_iff.1 (sat.star_iff.1 hs.2).p1).re [2, 0, 1]⟩
  · rintro ⟨rb, cm, hT, hs⟩
    refine ⟨(rb, cm), ?_⟩
    rw [sat.star_iff, sat.pr_iff]
    exact ⟨hT, sat.star_iff.2 (sat.star_iff.2 (hs.re [1, 2, 0])).p1⟩
theorem ent_set {N : Nds} {p : Path} {nd : Nd} (hp : mget N p = some nd) (k v : Int) (p' : Path) (k' : Int) :
    ent (mset N p { nd with q := mset nd.q k v }) p' k' = if p = p' ∧ k = k' then some v else ent N p' k' := by
  unfold ent
  rw [q_ai]
  by_cases e : p = p'
  · subst e
    rw [if_pos rfl, hp]
    simp only [Option.bind_some, q_ai, true_and]
  · rw [if_neg e, if_neg (fun h => e h.1)]
theorem ent_del {N : Nds} {p : Path} {nd : Nd} (hp : mget N p = some nd) (hn : (nd.q.map (·.1)).Nodup) (k : Int) (p' : Path) (k' : Int) :
    ent (mset N p { nd with q := mdel nd.q k }) p' k' = if p = p' ∧ k = k' then none else ent N p' k' := by
  unfold ent
  rw [q_ai]
  by_cases e : p = p'
  · subst e
    rw [if_pos rfl, hp]
    simp only [Option.bind_some, q_c3 hn, true_and]
  · rw [if_neg e, if_neg (fun h => e h.1)]
theorem ent_nx {N : Nds} {p : Path} {nd : Nd} (hp : mget N p = some nd) (nx : List (ByteArray × Option Addr)) (p' : Path) (k' : Int) : ent (mset N p { nd with nx := nx }) p' k' = ent N p' k' := by
  unfold ent
  rw [q_ai]
  by_cases e : p = p'
  · subst e
    rw [if_pos rfl, hp]
    rfl
  · rw [if_neg e]
theorem triNew_spec (hs : sat h R) {Q : Value → Heap → Prop} (hq : ∀ t nd h', nd.q = [] → nd.nx = [] → sat h' (trM t [([], nd)] [] :: R) → Q (at9 t) h') : HCalls Tryz.prog 28 #[] h Q := by
  refine trie_New_calls h Q ?_
  unfold trie_New
  refine q_ab (sprout_spec hs fun b qm nm h1 hs1 => ⟨some ⟨b, 0, none⟩, rfl, ?_⟩)
  refine new_map (ek := eKI9) (ev := eVI9) hs1 fun cm h2 hs2 => ?_
  refine q_ae hs2 fun t h3 hs3 => ?_
  refine hq t ⟨b, qm, nm, [], []⟩ h3 rfl rfl (q_cj.2 ⟨b, cm, ⟨by simp, ⟨_, rfl, rfl⟩, ?_, ?_, ?_⟩, ?_⟩)
  · intro p nd x v h1 h2
    rw [q_af] at h1
    by_cases e : ([] : Path) = p
    · rw [if_pos e] at h1; cases h1; simp at h2
    · rw [if_neg e] at h1; simp at h1
  · intro p x nd' h1
    rw [q_af, if_neg (by simp)] at h1
    simp at h1
  · intro p nd h1
    rw [q_af] at h1
    by_cases e : ([] : Path) = p
    · rw [← e]; simp
    · rw [if_neg e] at h1; simp at h1
  · have h4 := nds_add (N := []) (p := []) (q_dq (f := fun p : Path × Nd => ndA p.2).2 hs3.p2).p1
    exact h4.re [1, 0, 2]
abbrev vEnt (id : Int) (f : ByteArray) (q : Int) : Value := .agg #[.int .i64 id, .string f, .int .i64 q]
set_option maxHeartbeats 2000000 in
theorem Add_spec {t : Nat} {N : Nds} {C : List (Int × Int)} (ht : TP h0) {id q : Int} {f : ByteArray} (hsz : f.size ≤ 9223372036854775807) (hs : sat h (trM t N C :: old h0 :: R)) {Q : Value → Heap → Prop}
    (hbad : filterOK f = false → ∀ h', sat h' (trM t N C :: old h0 :: R) → Q (.int .u8 143) h')
    (hqos : filterOK f = true → (q < 0 ∨ 2 < q) → ∀ h', sat h' (trM t N C :: old h0 :: R) → Q (.int .u8 155) h')
    (hset : filterOK f = true → 0 ≤ q → q ≤ 2 → ∀ q0, ent N (levels f) id = some q0 → ∀ N' h', (∀ p' k', ent N' p' k' = if levels f = p' ∧ id = k' then some q else ent N p' k') → sat h' (trM t N' C :: old h0 :: R) → Q (.int .u8 0) h')
    (hfull : filterOK f = true → 0 ≤ q → q ≤ 2 → ent N (levels f) id = none → 64 ≤ (mget C id).getD 0 → ∀ h', sat h' (trM t N C :: old h0 :: R) → Q (.int .u8 151) h')
    (hadd : filterOK f = true → 0 ≤ q → q ≤ 2 → ent N (levels f) id = none → (mget C id).getD 0 < 64 → ∀ N' h', (∀ p' k', ent N' p' k' = if levels f = p' ∧ id = k' then some q else ent N p' k') →
      sat h' (trM t N' (mset C id (IntKind.wrap .i64 ((mget C id).getD 0 + 1))) :: old h0 :: R) → Q (.int .u8 0) h') :
    HCalls Tryz.prog 109 #[at9 t, vEnt id f q] h Q := by
  refine trie_Trie_Add_calls (some ⟨t, 0, none⟩) (id, f, q, ()) h Q ?_
  unfold q_fq
  refine q_ae hs fun x1 h1 hs1 => ?_
  have hE : ∀ {h' : Heap} {R' : List Asn}, sat h' (cells x1 #[.int .i64 id, .string f, .int .i64 q] :: R') → cellH h' ⟨x1, 0, none⟩ = some (.int .i64 id) ∧ cellH h' ⟨x1, 1, none⟩ = some (.string f) ∧ cellH h' ⟨x1, 2, none⟩ = some (.int .i64 q) := fun hs' => ⟨hs'.cell 0, hs'.cell 1, hs'.cell 2⟩
  (try dsimp only); rw [HM.ite_apply, if_neg (by simp)]
  refine ⟨f, by rw [q_aa]; exact (hE hs1).2.1, ?_⟩
  refine q_ab (q_gp (hs1.re [2, 0, 1]) ht hsz fun h2 hs2 => ⟨filtC f, rfl, ?_⟩)
  have hs3 : sat h2 (cells x1 #[.int .i64 id, .string f, .int .i64 q] :: trM t N C :: old h0 :: R) := hs2.re [1, 2, 0]
  clear hs1 hs hs2
  (try dsimp only); rw [HM.ite_apply]
  unfold filtC
  by_cases hf : filterOK f = true
  case neg =>
    rw [if_neg hf, if_pos (by decide)]
    exact hbad (by simpa using hf) h2 hs3.drop
  rw [if_pos hf, if_neg (by decide)]
  clear hbad
  refine q_ad (fun x h' => h' = h2 ∧ (x.1 = true ↔ (q < 0 ∨ 2 < q))) ?_ ?_
  · refine ⟨q, by rw [q_aa]; exact (hE hs3).2.2, ?_⟩
    (try dsimp only); rw [HM.ite_apply]
    by_cases g1 : q < 0
    · rw [if_pos (by simpa using g1)]
      exact ⟨rfl, by simp [g1]⟩
    · rw [if_neg (by simpa using g1)]
      exact ⟨q, by rw [q_aa]; exact (hE hs3).2.2, rfl, by simp [g1]⟩
  rintro ⟨x, ⟨⟩⟩ h3 ⟨rfl, hx⟩
  simp only at hx
  rw [HM.ite_apply]
  by_cases g : q < 0 ∨ 2 < q
  · rw [if_pos (hx.2 g)]
    exact hqos hf g h3 hs3.drop
  rw [if_neg (fun e => g (hx.1 e))]
  clear hx hqos
  have hq0 : 0 ≤ q := by omega
  have hq2 : q ≤ 2 := by omega
  clear g
  have hfz : f.size ≤ 256 := q_hl (q_bc hf)
  refine ⟨f, by rw [q_aa]; exact (hE hs3).2.1, ?_⟩
  obtain ⟨rb, cm, hT, hs4'⟩ := q_cj.1 hs3.p1
  have hs4 : sat h3 (cells t (trC rb cm) :: ndsA N :: old h0 :: mapA eKI9 eVI9 cm C :: cells x1 #[.int .i64 id, .string f, .int .i64 q] :: R) := hs4'.re [0, 1, 4, 2, 3]
  clear hs4' hs3
  refine q_ad (fun x h' => (x = (mget N (levels f)).bind fun nd => ptrOf nd) ∧ sat h' (cells t (trC rb cm) :: ndsA N :: old h0 :: mapA eKI9 eVI9 cm C :: cells x1 #[.int .i64 id, .string f, .int .i64 q] :: R)) ?_ ?_
  · exact find_spec ht hT (by omega) hs4 (fun hn h' hs' => ⟨none, rfl, by rw [hn]; rfl, hs'⟩) (fun nd hn h' hs' => ⟨ptrOf nd, rfl, by rw [hn]; rfl, hs'⟩)
  clear hs4
  rintro x8 h4 ⟨hx8, hs4⟩
  refine q_ad (fun z h' => (z = .inl () ∧ ent N (levels f) id = none ∧ sat h' (cells t (trC rb cm) :: ndsA N :: old h0 :: mapA eKI9 eVI9 cm C :: cells x1 #[.int .i64 id, .string f, .int .i64 q] :: R)) ∨
    (z = .inr (0, ()) ∧ ∃ q0 N', ent N (levels f) id = some q0 ∧ (∀ p' k', ent N' p' k' = if levels f = p' ∧ id = k' then some q else ent N p' k') ∧ sat h' (trM t N' C :: old h0 :: R))) ?_ ?_
  · rw [HM.ite_apply]
    cases hg : mget N (levels f) with
    | none =>
      rw [hg] at hx8
      subst hx8
      rw [if_neg (by simp)]
      exact .inl ⟨rfl, by unfold ent; rw [hg]; rfl, hs4⟩
    | some nd =>
      rw [hg] at hx8
      subst hx8
      rw [if_pos (by rfl)]
      refine ⟨_, rfl, some nd.qm, by rw [q_aa]; exact (q_as hg hs4.p1).1, id, by rw [q_aa]; exact (hE hs4.p4).1, ?_⟩
      (try dsimp only); rw [HM.bind_apply]
      refine nds_q hg hs4.p1 ?_
      (try dsimp only); rw [HM.ite_apply]
      cases hm : mget nd.q id with
      | none =>
        rw [if_neg (by simp)]
        exact .inl ⟨rfl, by unfold ent; rw [hg]; exact hm, hs4⟩
      | some q0 =>
        rw [if_pos (by rfl)]
        refine ⟨_, rfl, some nd.qm, by rw [q_aa]; exact (q_as hg hs4.p1).1, id, by rw [q_aa]; exact (hE hs4.p4).1, q, by rw [q_aa]; exact (hE hs4.p4).2.2, ?_⟩
        (try dsimp only); rw [HM.bind_apply]
        refine nds_setq hg hs4.p1 fun h5 hs5 => ?_
        exact .inr ⟨rfl, q0, _, by unfold ent; rw [hg]; exact hm, ent_set hg id q, q_cj.2 ⟨rb, cm, hT.setq hg _, (hs5.re [4, 1, 0, 3, 2]).drop⟩⟩
  clear hs4 hx8
  clear x8
  rintro z h5 (⟨rfl, hnone, hs5⟩ | ⟨rfl, q0, N', hq0', hN', hs5⟩)
  case inr =>
    simp only [Sum.elim_inr, HM.pure_apply]
    exact hset hf hq0 hq2 q0 hq0' N' h5 hN' hs5
  simp only [Sum.elim_inl]
  clear hset
  refine ⟨_, rfl, some cm, by rw [q_aa]; exact hs5.cell 1, id, by rw [q_aa]; exact (hE hs5.p4).1, ?_⟩
  (try dsimp only); rw [HM.bind_apply]
  refine q_ap kI9 (ek := eKI9) (kind := .one (.int .i64)) (z := 0) rfl hs5.p3 ?_
  (try dsimp only); rw [HM.ite_apply]
  by_cases hfl : 64 ≤ (mget C id).getD 0
  · rw [if_pos (by simpa using hfl)]
    exact hfull hf hq0 hq2 hnone hfl h5 (q_cj.2 ⟨rb, cm, hT, (hs5.re [4, 0, 1, 3, 2]).drop⟩)
  rw [if_neg (by simpa using hfl)]
  clear hfull
  refine ⟨_, rfl, some ⟨rb, 0, none⟩, by rw [q_aa]; exact hs5.cell 0, f, by rw [q_aa]; exact (hE hs5.p4).2.1, ?_⟩
  refine q_ab (q_eg hs5.p2 ht hfz fun sl h6 hs6' => ⟨sl, rfl, ?_⟩)
  have hs6 : sat h6 (ndsA N :: ownS eS 1 sl (levels f) :: cells t (trC rb cm) :: mapA eKI9 eVI9 cm C :: cells x1 #[.int .i64 id, .string f, .int .i64 q] :: old h0 :: R) := hs6'.re [3, 0, 2, 4, 5, 1]
  clear hs6' hs5
  have hlen := hs6.p1.own_len
  have hl32 : (levels f).length ≤ 32 := (q_b1.1 (q_bc hf)).2.2.2
  obtain ⟨r, hr1, hr2⟩ := hT.root
  refine q_ad (fun x h' => ∃ N1 nd, TreeOK rb N1 ∧ (∀ p k, ent N1 p k = ent N p k) ∧ mget N1 (levels f) = some nd ∧ x.1 = ptrOf nd ∧
    sat h' (ndsA N1 :: ownS eS 1 sl (levels f) :: cells t (trC rb cm) :: mapA eKI9 eVI9 cm C :: cells x1 #[.int .i64 id, .string f, .int .i64 q] :: old h0 :: R)) ?_ ?_
  · refine q_cv (γ := Nat × Nds) (hb := fun s => by
        repeat' with_reducible first
          | refine @mono_bind _ _ _ _ ?_ (fun _ => ?_)
          | refine @mono_ite _ _ _ _ ?_ ?_
          | refine @mono_req _ _ _ ?_
        all_goals infer_instance)
      (fun g x h' => g.1 ≤ (levels f).length ∧ x.2.1 = (g.1 : Int) ∧ TreeOK rb g.2 ∧ (∀ p k, ent g.2 p k = ent N p k) ∧ (∃ nd, mget g.2 ((levels f).take g.1) = some nd ∧ x.1 = ptrOf nd) ∧
        sat h' (ndsA g.2 :: ownS eS 1 sl (levels f) :: cells t (trC rb cm) :: mapA eKI9 eVI9 cm C :: cells x1 #[.int .i64 id, .string f, .int .i64 q] :: old h0 :: R)) (fun g => (levels f).length - g.1) (0, N)
      ⟨Nat.zero_le _, rfl, hT, fun _ _ => rfl, ⟨r, by simpa using hr1, by rw [← hr2]⟩, hs6⟩ ?_
    clear hs6 hr1 hr2 r hnone hadd hT
    rintro ⟨i, N1⟩ ⟨pt, ci, ⟨⟩⟩ h7 ⟨hi, hci, hT, hent, ⟨nd, hnd, hpt⟩, hs7⟩
    simp only at hi hci hT hent hnd hpt hs7
    subst hci
    subst hpt
    have next : IntKind.wrap .i64 ((i : Int) + 1) = ((i + 1 : Nat) : Int) := by rw [q_al (by omega) (by omega)]; rfl
    simp only [HM.ite_apply, decide_eq_true_eq]
    by_cases hlt : i < (levels f).length
    · rw [if_pos (by omega), HM.bind_apply]
      have hx := List.getElem?_eq_getElem hlt
      generalize (levels f)[i] = x at hx
      have htk := take_snoc hx
      refine q_bi (hs7.p1.own_row q_et) hx fun a ha => ?_
      refine ⟨x, ha 0 _ rfl, ?_⟩
      refine ⟨_, rfl, some nd.nm, by rw [q_aa]; exact (q_as hnd hs7).2, ?_⟩
      (try dsimp only); rw [HM.bind_apply]
      refine q_if hnd hs7 ?_
      refine q_ad (fun _ h' => ∃ N2 nd2 c, TreeOK rb N2 ∧ (∀ p k, ent N2 p k = ent N p k) ∧ mget N2 ((levels f).take i) = some nd2 ∧ nd2.b = nd.b ∧ mget nd2.nx x = some (ptrOf c) ∧ mget N2 ((levels f).take (i + 1)) = some c ∧
        sat h' (ndsA N2 :: ownS eS 1 sl (levels f) :: cells t (trC rb cm) :: mapA eKI9 eVI9 cm C :: cells x1 #[.int .i64 id, .string f, .int .i64 q] :: old h0 :: R)) ?_ ?_
      · (try dsimp only); rw [HM.ite_apply]
        cases hg : mget nd.nx x with
        | some v =>
          obtain ⟨c, hc, rfl⟩ := hT.down _ _ _ _ hnd hg
          rw [if_neg (by simp)]
          exact ⟨N1, nd, c, hT, hent, hnd, rfl, hg, by rw [htk]; exact hc, hs7⟩
        | none =>
          rw [if_pos (by rfl)]
          refine ⟨_, rfl, some nd.nm, by rw [q_aa]; exact (q_as hnd hs7).2, ?_⟩
          refine q_ab (sprout_spec hs7 fun b qm nm h8 hs8 => ⟨some ⟨b, 0, none⟩, rfl, ?_⟩)
          refine ⟨some nd.nm, by rw [q_aa]; exact (q_as hnd hs8.p1).2, rfl, ?_⟩
          (try dsimp only); rw [HM.bind_apply]
          refine nds_setn hnd hs8.p1 fun h9 hs9 => ?_
          obtain ⟨hno, hT2⟩ := hT.grow (c := ⟨b, qm, nm, [], []⟩) hnd hg rfl (by rw [List.length_take]; omega)
          have e1 : ∀ p k, ent (mset N1 ((levels f).take i) { nd with nx := mset nd.nx x (ptrOf ⟨b, qm, nm, [], []⟩) } ++ [((levels f).take i ++ [x], ⟨b, qm, nm, [], []⟩)]) p k = ent N p k := by
            intro p k
            rw [← hent p k, ← ent_nx hnd (mset nd.nx x (ptrOf ⟨b, qm, nm, [], []⟩)) p k]
            unfold ent
            rw [q_f5, q_af, mget_nil]
            by_cases e : (levels f).take i ++ [x] = p
            · rw [if_pos e, ← e, q_ai, if_neg (fun e => app_ne _ _ e.symm), hno]
              rfl
            · rw [if_neg e]
              cases mget (mset N1 ((levels f).take i) { nd with nx := mset nd.nx x (ptrOf ⟨b, qm, nm, [], []⟩) }) p <;> rfl
          refine ⟨_, { nd with nx := mset nd.nx x (ptrOf ⟨b, qm, nm, [], []⟩) }, ⟨b, qm, nm, [], []⟩, hT2, e1, ?_, rfl, by simp [q_ai], ?_, nds_add hs9.p1⟩
          · rw [q_f5, q_ai, if_pos rfl]
            rfl
          · rw [htk, q_f5, q_ai, if_neg (fun e => app_ne _ _ e.symm), hno, q_af, if_pos rfl]
            rfl
      clear hs7 hT hent hnd
      rintro ⟨⟩ h8 ⟨N2, nd2, c, hT2, he2, hnd2, hb2, hxc, hc, hs8⟩
      have ep : ptrOf nd = ptrOf nd2 := by unfold ptrOf; rw [hb2]
      rw [ep]
      refine ⟨_, rfl, some nd2.nm, by rw [q_aa]; exact (q_as hnd2 hs8).2, ?_⟩
      (try dsimp only); rw [HM.bind_apply]
      refine q_if hnd2 hs8 ?_
      rw [hxc]
      simp only [Sum.elim_inl, Sum.elim_inr, HM.pure_apply]
      exact .mk (i + 1, N2) (by simp only []; omega) ⟨by simp only []; omega, next, hT2, he2, ⟨c, hc, rfl⟩, hs8⟩
    · rw [if_neg (by omega)]
      have : i = (levels f).length := by omega
      subst this
      rw [List.take_length] at hnd
      exact ⟨N1, nd, hT, hent, hnd, rfl, hs7⟩
  clear hs6 hr1 hr2 r hT
  rintro ⟨pt, ci, ⟨⟩⟩ h7 ⟨N1, nd, hT, hent, hnd, hpt, hs7⟩
  simp only at hpt
  subst hpt
  refine ⟨_, rfl, some nd.qm, by rw [q_aa]; exact (q_as hnd hs7).1, id, by rw [q_aa]; exact (hE hs7.p4).1, q, by rw [q_aa]; exact (hE hs7.p4).2.2, ?_⟩
  (try dsimp only); rw [HM.bind_apply]
  refine nds_setq hnd hs7 fun h8 hs8 => ?_
  refine ⟨_, rfl, some cm, by rw [q_aa]; exact hs8.p2.cell 1, id, by rw [q_aa]; exact (hE hs8.p4).1, ?_⟩
  (try dsimp only); rw [HM.bind_apply]
  refine q_ap kI9 (ek := eKI9) (kind := .one (.int .i64)) (z := 0) rfl hs8.p3 ?_
  (try dsimp only); rw [HM.bind_apply]
  refine q_fu kI9 (ek := eKI9) (inj_int .i64) (ev := eVI9) (x := IntKind.wrap .i64 ((mget C id).getD 0 + 1)) hs8.p3 fun h9 hs9 => ?_
  refine hadd hf hq0 hq2 hnone (by omega) _ h9 (fun p' k' => ?_) (q_cj.2 ⟨rb, cm, hT.setq hnd (mset nd.q id q), (hs9.re [4, 2, 3, 1, 0, 5]).drop.drop⟩)
  rw [ent_set hnd, hent]
end Go.Proofs.YtidlldnlphdhcaaGreatDoor
namespace Go.H
section
variable {α : Type} {enc : α → List Value} {size : Nat} {h : Heap} {s : Slc} {x : α} {xs : List α}
theorem RowAt.tail (hr : RowAt enc size h s (x :: xs)) : RowAt enc size h (sliceOf s 1 s.len s.cap size) xs := by
  have h1 := hr.1
  have h2 := hr.2.1
  rw [List.length_cons] at h1
  refine ⟨?_, ?_, fun i y hy => ?_⟩
  · simp only [sliceOf]; omega
  · simp only [sliceOf]; omega
  · obtain ⟨a, ha, hc⟩ := hr.2.2 (i + 1) y (by simpa using hy)
    have hlt := (List.getElem?_eq_some_iff.1 hy).1
    refine ⟨a.add size, ?_, fun j v hv => ?_⟩
    · simp only [sliceOf]
      rw [if_neg (by omega), ha, Nat.one_mul]
      rfl
    · have := hc j v hv
      rw [add_add'] at this ⊢
      rw [add_add']
      rw [show size + (i * size + j) = (i + 1) * size + j by rw [Nat.succ_mul]; omega]
      exact this
theorem slice_tail (hr : RowAt enc size h s (x :: xs)) {Q : Slc → Heap → Prop} (hq : Q (sliceOf s 1 s.len s.cap size) h) : HM.slice s (some 1) none none size h Q := by
  have h1 := hr.1
  have h2 := hr.2.1
  rw [List.length_cons] at h1
  exact ⟨1, s.len, s.cap, rfl, ⟨rfl, rfl⟩, ⟨rfl, by omega⟩, hq⟩
end
end Go.H
namespace Go.Proofs.YtidlldnlphdhcaaGreatDoor
open Go.H Go.Proofs
set_option linter.unusedSimpArgs false
set_option linter.unusedVariables false
set_option synthInstance.maxSize 100000
set_option synthInstance.maxHeartbeats 400000
set_option maxRecDepth 100000
variable {h h0 : Heap} {R : List Asn}
theorem mdel_mset {K V : Type} [DecidableEq K] : ∀ (l : List (K × V)) (k : K) (v : V), mdel (mset l k v) k = mdel l k
  | [], k, v => by simp [mset, mdel]
  | (a, b) :: l, k, v => by
    simp only [mset]
    by_cases e : a = k
    · rw [if_pos e]; simp [mdel, e]
    · rw [if_neg e]; simp only [mdel, if_neg e]; rw [mdel_mset l k v]
theorem not_pre (p : Path) (x : ByteArray) : ¬ (p ++ [x]) <+: p := fun h => by
  have := h.length_le
  simp at this
  omega
theorem pre_of {p p' : Path} {x : ByteArray} (h : ¬ p <+: p') : ¬ (p ++ [x]) <+: p' := fun hh => h ((List.prefix_append p [x]).trans hh)
set_option maxHeartbeats 1000000 in
theorem prune_spec {A : Asn} {rb : Nat} {id : Int} : ∀ (ls p : Path) {N : Nds} {nd : Nd} {s : Slc} {h : Heap} {R : List Asn} (hT : TreeOK rb N) (hnd : mget N p = some nd) (hrow : ∀ {h' : Heap} {R' : List Asn}, sat h' (A :: R') → RowAt eS 1 h' s ls)
    (hs : sat h (ndsA N :: A :: R)) {Q : Value → Heap → Prop}
    (hq : ∀ N' nd' h', TreeOK rb N' → mget N' p = some nd' → nd'.b = nd.b → (∀ p', ¬ p <+: p' → mget N' p' = mget N p') → (∀ p' k', ent N' p' k' = if p' = p ++ ls ∧ k' = id then none else ent N p' k') →
      sat h' (ndsA N' :: A :: R) → Q (.bool (nd'.q.isEmpty && nd'.nx.isEmpty)) h'),
    HCalls Tryz.prog 166 #[.pointer (ptrOf nd), .int .i64 id, .slice s.a s.len s.cap] h Q := by
  intro ls
  induction ls with
  | nil =>
    intro p N nd s h R hT hnd hrow hs Q hq
    refine q_b5 (ptrOf nd) id s h Q ?_
    unfold q_bo
    have hl : s.len = 0 := (hrow hs.p1).1
    have hn := q_hx hnd hs
    refine q_ad (fun _ h' => sat h' (ndsA (mset N p { nd with q := mdel nd.q id }) :: A :: R)) ?_ ?_
    · rw [HM.ite_apply, if_pos (by simp [hl])]
      refine ⟨_, rfl, some nd.qm, by rw [q_aa]; exact (q_as hnd hs).1, ?_⟩
      (try dsimp only); rw [HM.bind_apply]
      exact nds_delq hnd hs fun h1 hs1 => hs1
    rintro ⟨⟩ h1 hs1
    have hnd1 : mget (mset N p { nd with q := mdel nd.q id }) p = some { nd with q := mdel nd.q id } := by rw [q_ai, if_pos rfl]
    have fin : Q (.bool ((mdel nd.q id).isEmpty && nd.nx.isEmpty)) h1 := by
      refine hq _ _ h1 (hT.setq hnd _) hnd1 rfl (fun p' hp' => ?_) (fun p' k' => ?_) hs1
      · rw [q_ai, if_neg (fun e => hp' (by rw [e]; exact List.prefix_refl _))]
      · rw [ent_del hnd hn.1, List.append_nil]
        by_cases e : p = p' ∧ id = k'
        · rw [if_pos e, if_pos ⟨e.1.symm, e.2.symm⟩]
        · rw [if_neg e, if_neg (fun e' => e ⟨e'.1.symm, e'.2.symm⟩)]
    refine q_ad (fun x h' => h' = h1 ∧ x.1 = ((mdel nd.q id).isEmpty && nd.nx.isEmpty)) ?_ ?_
    · refine ⟨_, rfl, some nd.qm, by rw [q_aa]; exact (q_as hnd1 hs1).1, ?_⟩
      (try dsimp only); rw [HM.bind_apply]
      refine nds_lenq hnd1 hs1 ?_
      (try dsimp only); rw [HM.ite_apply]
      cases hm : mdel nd.q id with
      | cons a l => rw [if_neg (by simp; omega)]; exact ⟨rfl, rfl⟩
      | nil =>
        rw [if_pos (by simp)]
        refine ⟨_, rfl, some nd.nm, by rw [q_aa]; exact (q_as hnd1 hs1).2, ?_⟩
        (try dsimp only); rw [HM.bind_apply]
        refine nds_lenn hnd1 hs1 ?_
        refine ⟨rfl, ?_⟩
        simp only []
        cases nd.nx <;> simp
        omega
    rintro ⟨x, ⟨⟩⟩ h2 ⟨rfl, hx⟩
    simp only at hx
    subst hx
    exact fin
  | cons x r ih =>
    intro p N nd s h R hT hnd hrow hs Q hq
    refine q_b5 (ptrOf nd) id s h Q ?_
    unfold q_bo
    have hl : s.len = r.length + 1 := (hrow hs.p1).1
    refine q_ad (fun _ h' => ∃ N' nd', TreeOK rb N' ∧ mget N' p = some nd' ∧ nd'.b = nd.b ∧ nd'.qm = nd.qm ∧ nd'.nm = nd.nm ∧ (∀ p', ¬ p <+: p' → mget N' p' = mget N p') ∧ (∀ p' k', ent N' p' k' = if p' = p ++ x :: r ∧ k' = id then none else ent N p' k') ∧ sat h' (ndsA N' :: A :: R)) ?_ ?_
    · rw [HM.ite_apply, if_neg (by simp [hl]; omega)]
      refine ⟨_, rfl, some nd.nm, by rw [q_aa]; exact (q_as hnd hs).2, ?_⟩
      (try dsimp only); rw [HM.bind_apply]
      have h0r := hrow hs.p1
      refine q_bi (i := 0) h0r (x := x) rfl fun a ha => ?_
      refine ⟨x, ha 0 _ rfl, ?_⟩
      (try dsimp only); rw [HM.bind_apply]
      refine q_if hnd hs ?_
      cases hg : mget nd.nx x with
      | none =>
        have hno : ∀ k', ent N (p ++ x :: r) k' = none := by
          intro k'
          unfold ent
          cases hh : mget N (p ++ x :: r) with
          | none => rfl
          | some nd' =>
            have e : p ++ x :: r = (p ++ [x]) ++ r := by simp
            rw [e] at hh
            obtain ⟨c, hc⟩ := hT.pre _ _ _ hh
            obtain ⟨n0, h3, h4⟩ := hT.up _ _ _ hc
            rw [hnd] at h3
            cases h3
            rw [hg] at h4
            cases h4
        refine q_ad (fun z h' => h' = h ∧ z.1 = false) ?_ ?_
        · (try dsimp only); rw [HM.ite_apply, if_neg (by simp)]
          exact ⟨rfl, rfl⟩
        rintro ⟨z, ⟨⟩⟩ h1 ⟨rfl, hz⟩
        simp only at hz
        subst hz
        (try dsimp only); rw [HM.bind_apply, HM.ite_apply, if_neg (by simp)]
        refine ⟨N, nd, hT, hnd, rfl, rfl, rfl, fun _ _ => rfl, fun p' k' => ?_, hs⟩
        by_cases e : p' = p ++ x :: r ∧ k' = id
        · rw [if_pos e, e.1, hno]
        · rw [if_neg e]
      | some v =>
        obtain ⟨c, hc, rfl⟩ := hT.down _ _ _ _ hnd hg
        refine q_ad (fun z h' => ∃ N1 c1, TreeOK rb N1 ∧ mget N1 (p ++ [x]) = some c1 ∧ c1.b = c.b ∧ (∀ p', ¬ (p ++ [x]) <+: p' → mget N1 p' = mget N p') ∧ (∀ p' k', ent N1 p' k' = if p' = (p ++ [x]) ++ r ∧ k' = id then none else ent N p' k') ∧
          z.1 = (c1.q.isEmpty && c1.nx.isEmpty) ∧ sat h' (ndsA N1 :: A :: R)) ?_ ?_
        · (try dsimp only); rw [HM.ite_apply, if_pos (by rfl)]
          refine slice_tail h0r ?_
          refine q_ab (ih (p ++ [x]) hT hc (fun hs' => (hrow hs').tail) hs fun N1 c1 h1 a1 a2 a3 a4 a5 hs1 => ⟨_, rfl, ?_⟩)
          exact ⟨N1, c1, a1, a2, a3, a4, a5, rfl, hs1⟩
        rintro ⟨z, ⟨⟩⟩ h1 ⟨N1, c1, hT1, hc1, hb1, hf1, he1, hz, hs1⟩
        simp only at hz
        subst hz
        have hnd1 : mget N1 p = some nd := by rw [hf1 p (not_pre p x)]; exact hnd
        have hpx : (p ++ [x]) ++ r = p ++ x :: r := by simp
        rw [hpx] at he1
        (try dsimp only); rw [HM.bind_apply, HM.ite_apply]
        by_cases hem : (c1.q.isEmpty && c1.nx.isEmpty) = true
        · rw [if_pos hem]
          rw [Bool.and_eq_true, List.isEmpty_iff, List.isEmpty_iff] at hem
          have hk := (q_hx hnd1 hs1).2
          have hg1 : mget nd.nx x = some (ptrOf c1) := by
            obtain ⟨n0, h3, h4⟩ := hT1.up _ _ _ hc1
            rw [hnd1] at h3
            cases h3
            exact h4
          refine ⟨_, rfl, some nd.nm, by rw [q_aa]; exact (q_as hnd1 hs1).2, ?_⟩
          (try dsimp only); rw [HM.bind_apply]
          refine q_bi (i := 0) (hrow hs1.p1) (x := x) rfl fun a ha => ?_
          refine ⟨x, ha 0 _ rfl, ?_⟩
          (try dsimp only); rw [HM.bind_apply]
          refine nds_deln hnd1 hs1 fun h2 hs2 => ?_
          have hc2 : mget (mset N1 p { nd with nx := mdel nd.nx x }) (p ++ [x]) = some c1 := by rw [q_ai, if_neg (fun e => app_ne p x e.symm)]; exact hc1
          have hkeys : ((mset N1 p { nd with nx := mdel nd.nx x }).map (·.1)).Nodup := by rw [q_h0 hnd1]; exact hT1.keys
          refine ⟨_, { nd with nx := mdel nd.nx x }, hT1.cut hnd1 hk hc1 hem.2, ?_, rfl, rfl, rfl, fun p' hp' => ?_, fun p' k' => ?_, nds_drop hc2 hs2⟩
          · rw [q_c3 hkeys, if_neg (app_ne p x), q_ai, if_pos rfl]
          · rw [q_c3 hkeys, if_neg (fun e => hp' (by rw [← e]; exact List.prefix_append _ _)), q_ai, if_neg (fun e => hp' (by rw [e]; exact List.prefix_refl _))]
            exact hf1 p' (pre_of hp')
          · rw [← he1]
            have : ent (mset N1 p { nd with nx := mdel nd.nx x }) p' k' = ent N1 p' k' := ent_nx hnd1 _ p' k'
            rw [← this]
            unfold ent
            rw [q_c3 hkeys]
            by_cases e : p ++ [x] = p'
            · subst e
              rw [if_pos rfl, hc2]
              simp [hem.1]
            · rw [if_neg e]
        · rw [if_neg hem]
          exact ⟨N1, nd, hT1, hnd1, rfl, rfl, rfl, fun p' hp' => hf1 p' (pre_of hp'), he1, hs1⟩
    clear hs
    rintro ⟨⟩ h1 ⟨N', nd', hT', hnd', hb, hqm, hnm, hf, he, hs1⟩
    have ep : ptrOf nd = ptrOf nd' := by unfold ptrOf; rw [hb]
    refine q_ad (fun x h' => h' = h1 ∧ x.1 = (nd'.q.isEmpty && nd'.nx.isEmpty)) ?_ ?_
    · rw [ep]
      refine ⟨_, rfl, some nd'.qm, by rw [q_aa]; exact (q_as hnd' hs1).1, ?_⟩
      (try dsimp only); rw [HM.bind_apply]
      refine nds_lenq hnd' hs1 ?_
      (try dsimp only); rw [HM.ite_apply]
      cases hm : nd'.q with
      | cons a l => rw [if_neg (by simp; omega)]; exact ⟨rfl, rfl⟩
      | nil =>
        rw [if_pos (by simp)]
        refine ⟨_, rfl, some nd'.nm, by rw [q_aa]; exact (q_as hnd' hs1).2, ?_⟩
        (try dsimp only); rw [HM.bind_apply]
        refine nds_lenn hnd' hs1 ?_
        refine ⟨rfl, ?_⟩
        simp only []
        cases nd'.nx <;> simp
        omega
    rintro ⟨x, ⟨⟩⟩ h2 ⟨rfl, hx⟩
    simp only at hx
    subst hx
    exact hq N' nd' h2 hT' hnd' hb hf he hs1
set_option maxHeartbeats 1000000 in
theorem Remove_spec {t : Nat} {N : Nds} {C : List (Int × Int)} (ht : TP h0) {id : Int} {f : ByteArray} (hsz : f.size ≤ 16777216) (hs : sat h (trM t N C :: old h0 :: R)) {Q : Value → Heap → Prop}
    (hno : ent N (levels f) id = none → ∀ h', sat h' (trM t N C :: old h0 :: R) → Q (.bool false) h')
    (hyes : ∀ q0, ent N (levels f) id = some q0 → ∀ N' h', (∀ p' k', ent N' p' k' = if p' = levels f ∧ k' = id then none else ent N p' k') →
      sat h' (trM t N' (if IntKind.wrap .i64 ((mget C id).getD 0 - 1) = 0 then mdel C id else mset C id (IntKind.wrap .i64 ((mget C id).getD 0 - 1))) :: old h0 :: R) → Q (.bool true) h') :
    HCalls Tryz.prog 111 #[at9 t, .int .i64 id, .string f] h Q := by
  refine q_gr (some ⟨t, 0, none⟩) id f h Q ?_
  unfold q_c7
  rw [HM.ite_apply, if_neg (by simp)]
  obtain ⟨rb, cm, hT, hs1'⟩ := q_cj.1 hs
  have hs1 : sat h (cells t (trC rb cm) :: ndsA N :: old h0 :: mapA eKI9 eVI9 cm C :: R) := hs1'.re [0, 1, 3, 2]
  clear hs1' hs
  have back : ∀ {h' : Heap}, sat h' (cells t (trC rb cm) :: ndsA N :: old h0 :: mapA eKI9 eVI9 cm C :: R) → sat h' (trM t N C :: old h0 :: R) := fun hs' => q_cj.2 ⟨rb, cm, hT, hs'.re [0, 1, 3, 2]⟩
  refine q_ad (fun x h' => (x = (mget N (levels f)).bind fun nd => ptrOf nd) ∧ sat h' (cells t (trC rb cm) :: ndsA N :: old h0 :: mapA eKI9 eVI9 cm C :: R)) ?_ ?_
  · exact find_spec ht hT hsz hs1 (fun hn h' hs' => ⟨none, rfl, by rw [hn]; rfl, hs'⟩) (fun nd hn h' hs' => ⟨ptrOf nd, rfl, by rw [hn]; rfl, hs'⟩)
  clear hs1
  rintro x1 h1 ⟨hx, hs1⟩
  rw [HM.ite_apply]
  cases hg : mget N (levels f) with
  | none =>
    rw [hg] at hx
    subst hx
    rw [if_pos (by rfl)]
    exact hno (by unfold ent; rw [hg]; rfl) h1 (back hs1)
  | some nd =>
    rw [hg] at hx
    subst hx
    rw [if_neg (by simp)]
    refine ⟨_, rfl, some nd.qm, by rw [q_aa]; exact (q_as hg hs1.p1).1, ?_⟩
    (try dsimp only); rw [HM.bind_apply]
    refine nds_q hg hs1.p1 ?_
    (try dsimp only); rw [HM.ite_apply]
    cases hm : mget nd.q id with
    | none =>
      rw [if_pos (by simp)]
      exact hno (by unfold ent; rw [hg]; exact hm) h1 (back hs1)
    | some q0 =>
      rw [if_neg (by simp)]
      have hq0 : ent N (levels f) id = some q0 := by unfold ent; rw [hg]; exact hm
      refine ⟨_, rfl, some ⟨rb, 0, none⟩, by rw [q_aa]; exact hs1.cell 0, ?_⟩
      refine q_ab (Levels9_spec hs1.p2 ht hsz fun sl h2 hs2' => ⟨sl, rfl, ?_⟩)
      have hs2 : sat h2 (cells t (trC rb cm) :: ndsA N :: ownS eS 1 sl (levels f) :: mapA eKI9 eVI9 cm C :: old h0 :: R) := hs2'.re [2, 3, 0, 4, 1]
      clear hs2' hs1
      refine ⟨some ⟨rb, 0, none⟩, by rw [q_aa]; exact hs2.cell 0, rfl, ?_⟩
      obtain ⟨r, hr1, hr2⟩ := hT.root
      have ep : (Value.pointer (some ⟨rb, 0, none⟩)) = .pointer (ptrOf r) := by unfold ptrOf; rw [hr2]
      rw [ep]
      refine q_ab (prune_spec (A := ownS eS 1 sl (levels f)) (levels f) [] hT hr1 (fun hs' => hs'.own_row q_et) (hs2.re [1, 2, 0]) fun N' nd' h3 hT' _ _ _ he hs3' => ⟨_, rfl, ?_⟩)
      have hs3 : sat h3 (cells t (trC rb cm) :: mapA eKI9 eVI9 cm C :: ndsA N' :: old h0 :: R) := (hs3'.re [1, 2, 3, 0, 4]).drop
      clear hs3' hs2
      refine ⟨_, rfl, some cm, by rw [q_aa]; exact hs3.cell 1, ?_⟩
      (try dsimp only); rw [HM.bind_apply]
      refine q_ap kI9 (ek := eKI9) (kind := .one (.int .i64)) (z := 0) rfl hs3.p1 ?_
      (try dsimp only); rw [HM.bind_apply]
      refine q_fu kI9 (ek := eKI9) (inj_int .i64) (ev := eVI9) (x := IntKind.wrap .i64 ((mget C id).getD 0 - 1)) hs3.p1 fun h4 hs4 => ?_
      refine ⟨_, rfl, some cm, by rw [q_aa]; exact hs4.p1.cell 1, ?_⟩
      (try dsimp only); rw [HM.bind_apply]
      refine q_ap kI9 (ek := eKI9) (kind := .one (.int .i64)) (z := 0) rfl hs4 ?_
      rw [q_ai, if_pos rfl]
      generalize hw : IntKind.wrap .i64 ((mget C id).getD 0 - 1) = w at hs4 hyes
      refine q_ad (fun _ h' => sat h' (mapA eKI9 eVI9 cm (if w = 0 then mdel C id else mset C id w) :: cells t (trC rb cm) :: ndsA N' :: old h0 :: R)) ?_ ?_
      · (try dsimp only); rw [HM.ite_apply]
        by_cases hw0 : w = 0
        · rw [if_pos (by simpa using hw0), if_pos hw0]
          refine ⟨_, rfl, some cm, by rw [q_aa]; exact hs4.p1.cell 1, ?_⟩
          (try dsimp only); rw [HM.bind_apply]
          refine q_h8 kI9 (ek := eKI9) (ev := eVI9) hs4 fun h5 hs5 => ?_
          rw [mdel_mset] at hs5
          exact hs5
        · rw [if_neg (by simpa using hw0), if_neg hw0]
          exact hs4
      rintro ⟨⟩ h5 hs5
      refine hyes q0 hq0 N' h5 (fun p' k' => ?_) (q_cj.2 ⟨rb, cm, hT', hs5.re [1, 2, 0]⟩)
      rw [he, List.nil_append]
end Go.Proofs.YtidlldnlphdhcaaGreatDoor
namespace Go.Proofs.YtidlldnlphdhcaaGreatDoor
set_option linter.unusedSimpArgs false
set_option linter.unusedVariables false
open Go.Proofs Go.Shelf
def joinL_ren : Go.Shelf.Ren := ⟨fun n => match n with | 156 => 228 | 165 => 257 | 166 => 258 | 169 => 259 | 240 => 269 | 241 => 270 | 276 => 273 | 277 => 274 | n => n, fun n => match n with | 31 => 43 | 9 => 9 | 3 => 3 | 4 => 4 | 0 => 0 | 20 => 20 | 72 => 384 | 76 => 387 | 70 => 382 | 37 => 54 | 75 => 386 | 127 => 397 | 164 => 399 | 5 => 5 | 80 => 389 | n => n, fun n => n⟩
theorem joinL : Lays.n156 Tryz.prog joinL_ren where
  mixed := by kernel_rfl
  f156 := Tryz.func228.trans (congrArg some (by kernel_rfl))
  f165 := Tryz.func257.trans (congrArg some (by kernel_rfl))
  f166 := Tryz.func258.trans (congrArg some (by kernel_rfl))
  f169 := Tryz.func259.trans (congrArg some (by kernel_rfl))
  f240 := Tryz.func269.trans (congrArg some (by kernel_rfl))
  f241 := Tryz.func270.trans (congrArg some (by kernel_rfl))
  f276 := Tryz.func273.trans (congrArg some (by kernel_rfl))
  f277 := Tryz.func274.trans (congrArg some (by kernel_rfl))
  t0 := Tryz.underlying0
  a0 := Tryz.isAgg0
  z0 := Tryz.sizeOf0
  v0 := Tryz.zeroValue0
  t3 := Tryz.underlying3
  a3 := Tryz.isAgg3
  z3 := Tryz.sizeOf3
  v3 := Tryz.zeroValue3
  t4 := Tryz.underlying4
  a4 := Tryz.isAgg4
  z4 := Tryz.sizeOf4
  v4 := Tryz.zeroValue4
  t9 := Tryz.underlying9
  a9 := Tryz.isAgg9
  z9 := Tryz.sizeOf9
  v9 := Tryz.zeroValue9
  t20 := Tryz.underlying20
  a20 := Tryz.isAgg20
  z20 := Tryz.sizeOf20
  v20 := Tryz.zeroValue20
  t31 := Tryz.underlying43
  a31 := Tryz.isAgg43
  z31 := Tryz.sizeOf43
  v31 := Tryz.zeroValue43
  t37 := Tryz.underlying54
  a37 := Tryz.isAgg54
  z37 := Tryz.sizeOf54
  v37 := Tryz.zeroValue54
  t70 := Tryz.underlying382
  a70 := Tryz.isAgg382
  z70 := Tryz.sizeOf382
  v70 := Tryz.zeroValue382
  t72 := Tryz.underlying384
  a72 := Tryz.isAgg384
  z72 := Tryz.sizeOf384
  v72 := Tryz.zeroValue384
  t75 := Tryz.underlying386
  a75 := Tryz.isAgg386
  z75 := Tryz.sizeOf386
  v75 := Tryz.zeroValue386
  t76 := Tryz.underlying387
  a76 := Tryz.isAgg387
  z76 := Tryz.sizeOf387
  v76 := Tryz.zeroValue387
  t127 := Tryz.underlying397
  a127 := Tryz.isAgg397
  z127 := Tryz.sizeOf397
  v127 := Tryz.zeroValue397
  t164 := Tryz.underlying399
  a164 := Tryz.isAgg399
  z164 := Tryz.sizeOf399
  v164 := Tryz.zeroValue399
theorem joinX : Builder.Extra Tryz.prog joinL_ren where
  sizeBuilder := by kernel_rfl
  liesBuilder := by kernel_rfl
  t5 := Tryz.underlying5
  a5 := Tryz.isAgg5
  z5 := Tryz.sizeOf5
  v5 := Tryz.zeroValue5
  infoByte := by kernel_rfl
  cellsByte := by kernel_rfl
  sizeByte := by kernel_rfl
  neB5 := by decide
end Go.Proofs.YtidlldnlphdhcaaGreatDoor
namespace Go.H
section
variable {α : Type} {enc : α → List Value} {size : Nat} {h : Heap} {s : Slc} {x : α} {xs : List α}
theorem RowAt.clip (hr : RowAt enc size h s xs) : RowAt enc size h (sliceOf s 0 s.len s.len size) xs := by
  have h1 := hr.1
  refine ⟨by simp only [sliceOf]; omega, by simp only [sliceOf]; omega, fun i y hy => ?_⟩
  obtain ⟨a, ha, hc⟩ := hr.2.2 i y hy
  refine ⟨a, ?_, hc⟩
  simp only [sliceOf, ha]
  split
  · rfl
  · simp [add_zero]
end
end Go.H
namespace Go.Proofs.YtidlldnlphdhcaaGreatDoor
open Go.H Go.Proofs
set_option linter.unusedSimpArgs false
set_option linter.unusedVariables false
set_option synthInstance.maxSize 100000
set_option synthInstance.maxHeartbeats 400000
set_option maxRecDepth 100000
variable {h h0 : Heap} {R : List Asn}
def joinB (p : Path) : ByteArray := ⟨(Lib.join (p.map (·.data.toList)) [47]).toArray⟩
theorem join_lev (c : UInt8) : ∀ (r x : List UInt8), Lib.join (lev c x r) [c] = x ++ r
  | [], x => by simp [lev, Lib.join_one]
  | b :: r, x => by
    unfold lev
    by_cases e : b = c
    · rw [if_pos e]
      have ih := join_lev c r []
      have hne : lev c [] r ≠ [] := fun h => by have := lev_len c r []; rw [h] at this; simp at this
      obtain ⟨y, ys, hy⟩ := List.exists_cons_of_ne_nil hne
      rw [hy, Lib.join_cons] at ih ⊢
      rw [← e] at ih ⊢
      simp only [Lib.joinTail, List.map_cons, List.flatten_cons] at ih ⊢
      simp only [List.nil_append] at ih
      rw [← ih]
      simp
    · rw [if_neg e, join_lev c r (x ++ [b])]
      simp
theorem q_cw (f : ByteArray) : joinB (levels f) = f := by
  unfold joinB
  rw [q_f9, join_lev, List.nil_append]
theorem Join9_spec (hs : sat h R) {s : Slc} {xs : Path} (hr : RowAt eS 1 h s xs) (hne : xs ≠ []) (hN : xs.length ≤ 100000) (hlen : (joinB xs).size ≤ 100000) {Q : Value → Heap → Prop} (hq : ∀ h', sat h' R → Q (.string (joinB xs)) h') :
    HCalls Tryz.prog 186 #[.slice s.a s.len s.cap] h Q := by
  refine topic_Join_calls s h Q ?_
  unfold topic_Join
  obtain ⟨x, xr, rfl⟩ := List.exists_cons_of_ne_nil hne
  obtain ⟨a, ha, hc0⟩ := hr.2.2 0 x rfl
  have h00 := hc0 0 _ rfl
  have hsp := cellH_spot h00
  obtain ⟨b, o, sp⟩ := a
  have hsp' : sp = none := by simpa [Addr.add] using hsp
  subst hsp'
  refine q_ab ?_
  have hsl : (Value.slice s.a s.len s.cap) = .slice (some ⟨b, o, none⟩) (x :: xr).length s.cap := by rw [ha, hr.1]
  rw [hsl]
  refine calls_below hs (fun w hw => Any.strings_Join joinL joinX b o s.cap (x :: xr) (ByteArray.mk #[47]) w (fun j y hy => ?_) ?_ (by omega) (by rw [← hr.1]; exact hr.2.1) ?_) fun h' hs' => ⟨_, rfl, ?_⟩
  · obtain ⟨a', ha', hc⟩ := hr.2.2 j y hy
    rw [ha] at ha'
    cases ha'
    have := hc 0 _ rfl
    subst hw
    rw [Nat.mul_one, Addr.add_at, Addr.add_at, Nat.add_zero] at this
    exact this
  · subst hw
    have h1 : cellH w.heap ⟨b, o, none⟩ = some (.string x) := by simpa [Addr.add] using h00
    unfold cellH at h1
    cases hx : w.heap[b]? with
    | none => simp [hx] at h1
    | some ob => exact (Array.getElem?_eq_some_iff.1 hx).1
  · have : (joinB (x :: xr)).size = (Lib.join ((x :: xr).map (·.data.toList)) [47]).length := by simp [joinB, ByteArray.size]
    have e : (ByteArray.mk #[47]).data.toList = [47] := rfl
    rw [e, ← this]
    omega
  · exact hq h' hs'
abbrev Ent := Int × ByteArray × Int
abbrev encE (x : Ent) : List Value := [.int .i64 x.1, .string x.2.1, .int .i64 x.2.2]
theorem eE_len (x : Ent) : (encE x).length = 3 := rfl
theorem eE_cell (x : Ent) : ∀ v ∈ encE x, v.oneCell' = true := by
  intro v hv; simp at hv; rcases hv with rfl | rfl | rfl <;> rfl
def entsOf (p : Path) (q : List (Int × Int)) : List Ent := q.map fun kv => (kv.1, joinB p, kv.2)
def entAt (N : Nds) (p : Path) : List Ent := match mget N p with | some nd => entsOf p nd.q | none => []
theorem take_spec {A : Asn} {N : Nds} {p : Path} {nd : Nd} (hnd : mget N p = some nd) (hne : nd.q ≠ [] → p ≠ [] ∧ (joinB p).size ≤ 100000) (hpl : p.length ≤ 100000) {s out : Slc} {es : List Ent}
    (hrow : ∀ {h' : Heap} {R' : List Asn}, sat h' (A :: R') → RowAt eS 1 h' s p) (hs : sat h (ndsA N :: ownS encE 3 out es :: A :: R)) (hb : es.length + nd.q.length ≤ 100000) {Q : Value → Heap → Prop}
    (hq : ∀ out' l h', l.Perm (entsOf p nd.q) → sat h' (ndsA N :: ownS encE 3 out' (es ++ l) :: A :: R) → Q (.slice out'.a out'.len out'.cap) h') :
    HCalls Tryz.prog 129 #[.pointer (ptrOf nd), .slice s.a s.len s.cap, .slice out.a out.len out.cap] h Q := by
  refine q_gq (ptrOf nd) s out h Q ?_
  unfold q_c6
  refine ⟨_, rfl, some nd.qm, by rw [q_aa]; exact (q_as hnd hs).1, ?_⟩
  obtain ⟨l1, l2, rfl, hn, hs1'⟩ := q_ca hnd hs
  have hs1 : sat h (mapA eKI9 eVI9 nd.qm nd.q :: ownS encE 3 out es :: A :: cells nd.b #[.map (some nd.qm), .map (some nd.nm)] :: mapA eKS9 eVP9 nd.nm nd.nx :: bigA (fun p : Path × Nd => ndA p.2) (l1 ++ l2) :: R) := hs1'.re [1, 4, 5, 0, 2, 3]
  clear hs1' hs
  (try dsimp only); rw [HM.bind_apply]
  refine range_map hs1 fun it h1 hs2 => ?_
  refine q_cv (γ := List (Int × Int) × List (Int × Int)) (hb := fun s => by
      repeat' with_reducible first
        | refine @mono_bind _ _ _ _ ?_ (fun _ => ?_)
        | refine @mono_opt _ _ _ _ _ ?_ (fun _ => ?_)
        | refine @mono_ite _ _ _ _ ?_ ?_
        | refine @mono_req _ _ _ ?_
      all_goals infer_instance)
    (fun g x h' => (g.1 ++ g.2).Perm nd.q ∧ sat h' (itA eKI9 eVI9 nd.qm nd.q it g.1 g.2 :: ownS encE 3 x.1 (es ++ entsOf p g.1) :: A :: cells nd.b #[.map (some nd.qm), .map (some nd.nm)] :: mapA eKS9 eVP9 nd.nm nd.nx :: bigA (fun p : Path × Nd => ndA p.2) (l1 ++ l2) :: R))
    (fun g => g.2.length) ([], nd.q) ⟨List.Perm.refl _, by simpa [entsOf] using hs2⟩ ?_
  clear hs1 hs2
  rintro ⟨done, todo⟩ ⟨o1, ⟨⟩⟩ h2 ⟨hp, hs2⟩
  simp only at hp hs2
  have hdl : done.length + todo.length = nd.q.length := by have := hp.length_eq; simpa using this
  rw [HM.bind_apply]
  refine next_map hs2 (fun h0 => ?_) (fun kv t1 t2 ht h3 hs3 => ?_)
  · subst h0
    (try dsimp only); rw [opt_none, HM.ite_apply, if_neg (by simp)]
    simp only [Sum.elim_inl, Sum.elim_inr, HM.pure_apply]
    rw [List.append_nil] at hp
    refine hq o1 (entsOf p done) h2 (hp.map _) ?_
    have h4 := itA_map hs2
    have h5 := nds_shut (p := p) (nd := nd) (nd' := nd) hn (h4.re [3, 0, 4, 5, 1, 2])
    rw [mset_same hnd] at h5
    exact h5
  · subst ht
    (try dsimp only); rw [opt_some, HM.ite_apply, if_pos rfl]
    rw [HM.bind_apply]
    refine entry_map (kk := .one (.int .i64)) (kv := .one (.int .i64)) (ek := eKI9) (ev := eVI9) (p := kv) (x := kv.1) (y := kv.2) rfl rfl hs3 ?_
    have hq0 : nd.q ≠ [] := fun e => by rw [e] at hp; simp at hp
    obtain ⟨hne1, hne2⟩ := hne hq0
    refine q_ab (Join9_spec hs3 (hrow hs3.p2) hne1 hpl hne2 fun h4 hs4 => ⟨joinB p, rfl, ?_⟩)
    refine q_ae hs4 fun x10 h5 hs5 => ?_
    (try dsimp only); rw [HM.bind_apply]
    refine q_ds (enc := encE) (ys := [(kv.1, joinB p, kv.2)]) eE_len eE_cell rfl hs5.p2 rfl ?_ (by decide) (by decide) ?_ fun o2 h6 hs6 => ?_
    · simp only [srcSlc, Nat.one_mul, List.flatMap_cons, List.flatMap_nil, List.append_nil]
      exact hs5.reads rfl
    · rw [List.length_append, entsOf, List.length_map]
      simp only [List.length_append, List.length_cons] at hdl
      omega
    simp only [Sum.elim_inl, Sum.elim_inr, HM.pure_apply]
    refine .mk (done ++ [kv], t1 ++ t2) (by simp) ⟨?_, ?_⟩
    · refine List.Perm.trans ?_ hp
      simp only [List.append_assoc]
      refine List.Perm.append_left done ?_
      show (kv :: (t1 ++ t2)).Perm _
      exact List.perm_middle.symm
    · have e : es ++ entsOf p (done ++ [kv]) = es ++ entsOf p done ++ [(kv.1, joinB p, kv.2)] := by simp [entsOf]
      rw [e]
      exact (hs6.re [1, 2, 0]).drop
end Go.Proofs.YtidlldnlphdhcaaGreatDoor
namespace Go.Proofs.YtidlldnlphdhcaaGreatDoor
open Go.H Go.Proofs
set_option linter.unusedSimpArgs false
set_option linter.unusedVariables false
set_option synthInstance.maxSize 100000
set_option synthInstance.maxHeartbeats 400000
set_option maxRecDepth 100000
variable {h h0 : Heap} {R : List Asn}
def matchE (N : Nds) : Path → Path → Bool → List Ent
  | p, left, d => match mget N p with
    | none => []
    | some _ => (if d = true then [] else entAt N (p ++ [hashS])) ++ match left with
      | [] => entAt N p
      | x :: r => (if d = true then [] else matchE N (p ++ [plusS]) r false) ++ matchE N (p ++ [x]) r false
  termination_by p left d => left.length
theorem q_d3 {N : Nds} {p left : Path} {d : Bool} (h : mget N p = none) : matchE N p left d = [] := by
  unfold matchE; rw [h]
theorem q_ih {N : Nds} {p : Path} {nd : Nd} {d : Bool} (h : mget N p = some nd) : matchE N p [] d = (if d = true then [] else entAt N (p ++ [hashS])) ++ entAt N p := by
  unfold matchE; rw [h]
theorem q_f7 {N : Nds} {p r : Path} {x : ByteArray} {nd : Nd} {d : Bool} (h : mget N p = some nd) :
    matchE N p (x :: r) d = (if d = true then [] else entAt N (p ++ [hashS])) ++ ((if d = true then [] else matchE N (p ++ [plusS]) r false) ++ matchE N (p ++ [x]) r false) := by
  rw [matchE, h]
theorem next_ptr {rb : Nat} {N : Nds} (hT : TreeOK rb N) {p : Path} {nd : Nd} (h : mget N p = some nd) (x : ByteArray) : (mget nd.nx x).getD none = (mget N (p ++ [x])).bind fun n => ptrOf n := by
  cases hg : mget nd.nx x with
  | some v =>
    obtain ⟨c, hc, rfl⟩ := hT.down _ _ _ _ h hg
    rw [hc]
    rfl
  | none =>
    cases hc : mget N (p ++ [x]) with
    | none => rfl
    | some c =>
      obtain ⟨n0, h1, h2⟩ := hT.up _ _ _ hc
      rw [h] at h1
      cases h1
      rw [hg] at h2
      cases h2
theorem Clip_spec {s : Slc} {Q : Value → Heap → Prop} (hle : s.len ≤ s.cap) (hq : Q (.slice (sliceOf s 0 s.len s.len 1).a (sliceOf s 0 s.len s.len 1).len (sliceOf s 0 s.len s.len 1).cap) h) :
    HCalls Tryz.prog 128 #[.slice s.a s.len s.cap] h Q := by
  refine slices_Clip_calls s h Q ?_
  unfold slices_Clip
  exact ⟨0, s.len, s.len, ⟨rfl, hle⟩, ⟨rfl, Nat.le_refl _⟩, rfl, hq⟩
theorem q_gn {A : Asn} {s : Slc} {p : Path} {x : ByteArray} (hr : RowAt eS 1 h s p) (hc : s.cap = s.len) (hpl : p.length ≤ 100000) {b : Nat} {L : List Asn} (hs : sat h (cells b #[.string x] :: L)) {Q : Slc → Heap → Prop}
    (hq : ∀ s' h', sat h' (ownS eS 1 s' (p ++ [x]) :: cells b #[.string x] :: L) → Q s' h') :
    HM.append 9 1 16 #[.string (ByteArray.mk #[])] s 1 (srcSlc 1 (⟨some ⟨b, 0, none⟩, 1, 1⟩)) h Q := by
  refine append_full (ys := [x]) q_et eS_cell rfl hs hr hc rfl ?_ (by decide) (by decide) (by decide) (by omega) hq
  simp only [srcSlc, Nat.one_mul, List.flatMap_cons, List.flatMap_nil, List.append_nil]
  exact hs.reads rfl
def GoodN9 (N : Nds) : Prop := ∀ p nd, mget N p = some nd → nd.q ≠ [] → p ≠ [] ∧ (joinB p).size ≤ 100000
theorem entAt_of {N : Nds} {p : Path} {nd : Nd} (h : mget N p = some nd) : entAt N p = entsOf p nd.q := by unfold entAt; rw [h]
set_option maxHeartbeats 600000 in
theorem match_spec {rb : Nat} {N : Nds} (hT : TreeOK rb N) (hG : GoodN9 N) : ∀ (n : Nat) (left p : Path) (_ : left.length = n) {A : Asn} {s1 s2 out : Slc} {d : Bool} {es : List Ent} {h : Heap} {R : List Asn} (hpl : p.length + left.length ≤ 1000)
    (h1r : ∀ {h' : Heap} {R' : List Asn}, sat h' (A :: R') → RowAt eS 1 h' s1 p) (h2r : ∀ {h' : Heap} {R' : List Asn}, sat h' (A :: R') → RowAt eS 1 h' s2 left)
    (hs : sat h (ndsA N :: ownS encE 3 out es :: A :: R)) (hb : es.length + (matchE N p left d).length ≤ 100000) {Q : Value → Heap → Prop}
    (hq : ∀ out' l h', l.Perm (matchE N p left d) → sat h' (ndsA N :: ownS encE 3 out' (es ++ l) :: A :: R) → Q (.slice out'.a out'.len out'.cap) h'),
    HCalls Tryz.prog 125 #[.pointer ((mget N p).bind fun nd => ptrOf nd), .slice s1.a s1.len s1.cap, .slice s2.a s2.len s2.cap, .bool d, .slice out.a out.len out.cap] h Q := by
  intro n
  induction n using Nat.strongRecOn with
  | _ n ih =>
  intro left p hln A s1 s2 out d es h R hpl h1r h2r hs hb Q hq
  refine q_fo _ s1 s2 d out h Q ?_
  unfold q_ci
  rw [HM.ite_apply]
  cases hg : mget N p with
  | none =>
    rw [if_pos (by rfl)]
    rw [q_d3 hg] at hq
    exact hq out [] h (List.Perm.refl _) (by rw [List.append_nil]; exact hs)
  | some nd =>
  rw [if_neg (by simp)]
  have hr1 := h1r hs.p2
  refine q_ab (Clip_spec hr1.2.1 ⟨_, rfl, ?_⟩)
  refine ⟨_, rfl, some nd.nm, by rw [q_aa]; exact (q_as hg hs).2, ?_⟩
  (try dsimp only); rw [HM.bind_apply]
  refine q_if (x := hashS) hg hs ?_
  rw [next_ptr hT hg]
  refine q_ad (fun z h' => h' = h ∧ z.1 = ((mget N (p ++ [hashS])).isSome && !d)) ?_ ?_
  · (try dsimp only); rw [HM.ite_apply]
    cases mget N (p ++ [hashS]) with
    | none => rw [if_neg (by simp)]; exact ⟨rfl, rfl⟩
    | some c => rw [if_pos (by rfl)]; exact ⟨rfl, rfl⟩
  rintro ⟨x5, ⟨⟩⟩ h1 ⟨rfl, hx5⟩
  simp only at hx5
  subst hx5
  have hb1 : es.length + (if d = true then [] else entAt N (p ++ [hashS])).length ≤ 100000 := by
    cases left with
    | nil => rw [q_ih hg, List.length_append] at hb; omega
    | cons x r => rw [q_f7 hg, List.length_append] at hb; omega
  refine q_ad (fun z h' => ∃ l1, l1.Perm (if d = true then [] else entAt N (p ++ [hashS])) ∧ sat h' (ndsA N :: ownS encE 3 z.1 (es ++ l1) :: A :: R)) ?_ ?_
  · (try dsimp only); rw [HM.ite_apply]
    cases hh : mget N (p ++ [hashS]) with
    | none =>
      rw [if_neg (by simp)]
      refine ⟨[], ?_, by rw [List.append_nil]; exact hs⟩
      have : entAt N (p ++ [hashS]) = [] := by unfold entAt; rw [hh]
      rw [this]
      split <;> exact List.Perm.refl _
    | some c =>
      cases d with
      | true =>
        rw [if_neg (by simp)]
        exact ⟨[], by simp, by rw [List.append_nil]; exact hs⟩
      | false =>
        rw [if_pos (by rfl)]
        refine q_ae hs fun x7 h2 hs2 => ?_
        (try dsimp only); rw [HM.bind_apply]
        refine q_gn (A := A) (h1r hs2.p3).clip rfl (by omega) hs2 fun s8 h3 hs3 => ?_
        have hs3' : sat h3 (ndsA N :: ownS encE 3 out es :: star (ownS eS 1 s8 (p ++ [hashS])) A :: cells x7 #[.string hashS] :: R) := (sat.star_iff.2 (hs3.re [0, 4, 1, 2, 3])).re [2, 3, 0, 1]
        have e0 : ((some c : Option Nd).bind fun nd => ptrOf nd) = ptrOf c := rfl
        rw [entAt_of hh] at hb1 ⊢
        refine q_ab (take_spec hh (fun hq' => hG _ _ hh hq') (by rw [List.length_append]; simp; omega) (fun hs' => (sat.star_iff.1 hs').own_row q_et) hs3' (by simpa [entsOf] using hb1) fun o' l h4 hl hs4 => ⟨o', rfl, ?_⟩)
        refine ⟨l, by simpa using hl, ?_⟩
        have h5 := sat.star_iff.1 (hs4.re [2, 0, 1, 3])
        exact (h5.re [0, 4, 2, 3, 1]).drop.drop
  clear hs hb1
  rintro ⟨o1, ⟨⟩⟩ h2 ⟨l1, hp1, hs1⟩
  simp only at hs1
  have hl1 := hp1.length_eq
  have hl2 : s2.len = left.length := (h2r hs1.p2).1
  (try dsimp only); rw [HM.ite_apply]
  cases left with
  | nil =>
    rw [if_pos (by simp [hl2])]
    rw [q_ih hg] at hq hb
    rw [entAt_of hg] at hq hb
    rw [List.length_append] at hb
    have hb2 : (es ++ l1).length + nd.q.length ≤ 100000 := by
      rw [List.length_append, hl1]
      simp only [entsOf, List.length_map] at hb
      omega
    refine q_ab (take_spec (A := A) hg (hG _ _ hg) (by omega) (fun hs' => (h1r hs').clip) hs1 hb2 fun o' l h3 hl hs3 => ⟨o', rfl, ?_⟩)
    exact hq o' (l1 ++ l) h3 (hp1.append hl) (by rw [← List.append_assoc]; exact hs3)
  | cons x r =>
    rw [if_neg (by simp [hl2]; omega)]
    rw [q_f7 hg] at hq hb
    simp only [List.length_append, List.length_cons] at hb hpl hln
    have hnx : ∀ (y : ByteArray) {h' : Heap} {R' : List Asn} {Q' : Option Addr × Bool → Heap → Prop}, sat h' (ndsA N :: R') → Q' ((mget N (p ++ [y])).bind fun n => ptrOf n, (mget nd.nx y).isSome) h' →
        HM.lookup (Instr.sameNow .string) (.pointer none) (.one .ptr) (some nd.nm) (.string y) h' Q' := fun y h' R' Q' hs' hq' => q_if hg hs' (by rw [next_ptr hT hg]; exact hq')
    have hnm : ∀ {h' : Heap} {R' : List Asn}, sat h' (ndsA N :: R') → cellH h' ⟨nd.b, 1, none⟩ = some (.map (some nd.nm)) := fun hs' => (q_as hg hs').2
    refine q_ad (fun z h' => ∃ l2, l2.Perm (if d = true then [] else matchE N (p ++ [plusS]) r false) ∧ sat h' (ndsA N :: ownS encE 3 z.1 (es ++ l1 ++ l2) :: A :: R)) ?_ ?_
    · (try dsimp only); rw [HM.ite_apply]
      cases d with
      | true =>
        rw [if_neg (by simp)]
        exact ⟨[], by simp, by rw [List.append_nil]; exact hs1⟩
      | false =>
        rw [if_pos (by rfl)]
        refine ⟨_, rfl, some nd.nm, by rw [q_aa]; exact hnm hs1, ?_⟩
        (try dsimp only); rw [HM.bind_apply]
        refine hnx plusS hs1 ?_
        (try dsimp only); rw [HM.bind_apply]
        refine slice_tail (h2r hs1.p2) ?_
        refine q_ae hs1 fun x16 h3 hs3 => ?_
        (try dsimp only); rw [HM.bind_apply]
        refine hnx plusS hs3.p1 ?_
        refine ⟨rfl, some nd.nm, by rw [q_aa]; exact hnm hs3.p1, rfl, ?_⟩
        (try dsimp only); rw [HM.bind_apply]
        refine q_gn (A := A) (h1r hs3.p3).clip rfl (by omega) hs3 fun s8 h4 hs4 => ?_
        (try dsimp only); rw [HM.bind_apply]
        refine hnx plusS hs4.p2 ?_
        refine ⟨rfl, some nd.nm, by rw [q_aa]; exact hnm hs4.p2, rfl, ?_⟩
        have hs4' : sat h4 (ndsA N :: ownS encE 3 o1 (es ++ l1) :: star (ownS eS 1 s8 (p ++ [plusS])) A :: cells x16 #[.string plusS] :: R) := (sat.star_iff.2 (hs4.re [0, 4, 1, 2, 3])).re [2, 3, 0, 1]
        refine q_ab (ih r.length (by omega) r (p ++ [plusS]) rfl (by simp; omega) (fun hs' => (sat.star_iff.1 hs').own_row q_et) (fun hs' => (h2r (sat.star_iff.1 hs').p1).tail) hs4' (by rw [List.length_append, hl1]; simp at hb ⊢; omega) fun o' l h5 hl hs5 => ⟨o', rfl, ?_⟩)
        refine ⟨l, by simpa using hl, ?_⟩
        have h6 := sat.star_iff.1 (hs5.re [2, 0, 1, 3])
        exact (h6.re [0, 4, 2, 3, 1]).drop.drop
    clear hs1
    rintro ⟨o2, ⟨⟩⟩ h3 ⟨l2, hp2, hs2⟩
    simp only at hs2
    have hl3 := hp2.length_eq
    refine ⟨_, rfl, some nd.nm, by rw [q_aa]; exact hnm hs2, ?_⟩
    (try dsimp only); rw [HM.bind_apply]
    obtain ⟨a0, ha0, -⟩ := (h2r hs2.p2).2.2 0 x rfl
    have hcell : ∀ {h' : Heap} {R' : List Asn}, sat h' (A :: R') → cellH h' (a0.add ((0 : Int).toNat * 1)) = some (.string x) := fun hs' => by
      obtain ⟨a1, e1, e2⟩ := (h2r hs').2.2 0 x rfl
      rw [ha0] at e1
      cases e1
      exact e2 0 _ rfl
    have hidx : ∀ {h' : Heap} {Q' : Addr → Heap → Prop}, Q' (a0.add ((0 : Int).toNat * 1)) h' → HM.idx s2.a s2.len 0 1 h' Q' := fun hq' => ⟨a0, ha0, Int.le_refl _, by rw [hl2]; simp, hq'⟩
    refine hidx ?_
    refine ⟨x, hcell hs2.p2, ?_⟩
    (try dsimp only); rw [HM.bind_apply]
    refine hnx x hs2 ?_
    (try dsimp only); rw [HM.bind_apply]
    refine hidx ?_
    refine ⟨x, hcell hs2.p2, ?_⟩
    (try dsimp only); rw [HM.bind_apply]
    refine slice_tail (h2r hs2.p2) ?_
    refine q_ae hs2 fun x31 h4 hs3 => ?_
    (try dsimp only); rw [HM.bind_apply]
    refine hnx x hs3.p1 ?_
    refine ⟨rfl, x, hcell hs3.p3, rfl, some nd.nm, by rw [q_aa]; exact hnm hs3.p1, rfl, ?_⟩
    (try dsimp only); rw [HM.bind_apply]
    refine q_gn (A := A) (h1r hs3.p3).clip rfl (by omega) hs3 fun s8 h5 hs4 => ?_
    (try dsimp only); rw [HM.bind_apply]
    refine hnx x hs4.p2 ?_
    refine ⟨rfl, x, hcell hs4.p4, rfl, some nd.nm, by rw [q_aa]; exact hnm hs4.p2, rfl, ?_⟩
    have hs4' : sat h5 (ndsA N :: ownS encE 3 o2 (es ++ l1 ++ l2) :: star (ownS eS 1 s8 (p ++ [x])) A :: cells x31 #[.string x] :: R) := (sat.star_iff.2 (hs4.re [0, 4, 1, 2, 3])).re [2, 3, 0, 1]
    refine q_ab (ih r.length (by omega) r (p ++ [x]) rfl (by simp; omega) (fun hs' => (sat.star_iff.1 hs').own_row q_et) (fun hs' => (h2r (sat.star_iff.1 hs').p1).tail) hs4' (by rw [List.length_append, List.length_append, hl1, hl3]; omega) fun o' l h6 hl hs5 => ⟨o', rfl, ?_⟩)
    refine hq o' (l1 ++ (l2 ++ l)) h6 (hp1.append (hp2.append hl)) ?_
    have h7 := sat.star_iff.1 (hs5.re [2, 0, 1, 3])
    have h8 : sat h6 (ndsA N :: ownS encE 3 o' (es ++ l1 ++ l2 ++ l) :: A :: R) := (h7.re [0, 4, 2, 3, 1]).drop.drop
    rw [List.append_assoc, List.append_assoc] at h8
    exact h8
end Go.Proofs.YtidlldnlphdhcaaGreatDoor
namespace Go.H
section
variable {α : Type} {f : α → Asn} {h : Heap}
theorem bigA_perm9 {l l' : List α} (hp : l.Perm l') : ∀ {R : List Asn}, sat h (bigA f l :: R) → sat h (bigA f l' :: R) := by
  induction hp with
  | nil => exact fun hs => hs
  | cons x _ ih => exact fun hs => q_ao.2 (ih (q_ao.1 hs).p1).p1
  | swap x y l =>
    intro R hs
    have h1 := q_ao.1 hs
    have h2 := q_ao.1 h1.p1
    exact q_ao.2 ((q_ao.2 (h2.re [2, 1, 0])).p1)
  | trans _ _ ih1 ih2 => exact fun hs => ih2 (ih1 hs)
theorem bigA_app : ∀ {a b : List α} {R : List Asn}, sat h (bigA f (a ++ b) :: R) ↔ sat h (bigA f a :: bigA f b :: R)
  | [], b, R => q_dq.symm
  | x :: a, b, R => by
    rw [List.cons_append, q_ao]
    constructor
    · intro hs
      exact q_ao.2 ((bigA_app.1 hs.p1).re [2, 0, 1])
    · intro hs
      have h1 := q_ao.1 hs
      exact (bigA_app.2 (h1.re [1, 2, 0])).p1
end
theorem flatMap_congr9 {α β : Type} {l : List α} {f g : α → List β} (h : ∀ a ∈ l, f a = g a) : l.flatMap f = l.flatMap g := by
  induction l with
  | nil => rfl
  | cons a l ih => rw [List.flatMap_cons, List.flatMap_cons, h a (List.mem_cons_self ..), ih fun b hb => h b (List.mem_cons_of_mem _ hb)]
def preB : List ByteArray → List ByteArray → Bool
  | [], _ => true
  | _ :: _, [] => false
  | x :: p, y :: q => decide (x = y) && preB p q
theorem q_eq : ∀ {p q : List ByteArray}, preB p q = true ↔ p <+: q
  | [], q => by simp [preB]
  | x :: p, [] => by simp [preB]
  | x :: p, y :: q => by
    rw [preB, Bool.and_eq_true, q_eq (p := p) (q := q), List.cons_prefix_cons]
    simp
theorem perm_part {α K : Type} [DecidableEq K] (g : α → K) : ∀ (L : List α) (ks : List K), ks.Nodup → (∀ a ∈ L, g a ∈ ks) → L.Perm (ks.flatMap fun k => L.filter fun a => decide (g a = k))
  | [], ks, _, _ => by
    have : (ks.flatMap fun k => ([] : List α).filter fun a => decide (g a = k)) = [] := by simp
    rw [this]
  | a :: L, ks, hn, hg => by
    have ih := perm_part g L ks hn (fun b hb => hg b (List.mem_cons_of_mem _ hb))
    refine (ih.cons a).trans ?_
    have key : ∀ ks : List K, ks.Nodup → g a ∈ ks → (a :: ks.flatMap fun k => L.filter fun a => decide (g a = k)).Perm (ks.flatMap fun k => (a :: L).filter fun a => decide (g a = k)) := by
      intro ks
      induction ks with
      | nil => intro _ h; simp at h
      | cons k ks ih =>
        intro hn hm
        rw [List.nodup_cons] at hn
        rw [List.flatMap_cons, List.flatMap_cons]
        by_cases e : g a = k
        · have h1 : (a :: L).filter (fun a => decide (g a = k)) = a :: L.filter (fun a => decide (g a = k)) := by rw [List.filter_cons, if_pos (by simpa using e)]
          have h2 : (ks.flatMap fun k => (a :: L).filter fun a => decide (g a = k)) = ks.flatMap fun k => L.filter fun a => decide (g a = k) := by
            refine flatMap_congr9 fun k' hk' => ?_
            rw [List.filter_cons, if_neg]
            intro e'
            have e2 : g a = k' := by simpa using e'
            exact hn.1 (by rw [← e, e2]; exact hk')
          rw [h1, h2]
          exact List.Perm.refl _
        · have h1 : (a :: L).filter (fun a => decide (g a = k)) = L.filter (fun a => decide (g a = k)) := by rw [List.filter_cons, if_neg (by simpa using e)]
          rw [h1]
          have hm' : g a ∈ ks := by
            rcases List.mem_cons.1 hm with e' | h
            · exact absurd e' e
            · exact h
          refine List.Perm.trans ?_ ((ih hn.2 hm').append_left _)
          exact List.perm_middle.symm
    exact key ks hn (hg a (List.mem_cons_self ..))
end Go.H
namespace Go.Proofs.YtidlldnlphdhcaaGreatDoor
open Go.H Go.Proofs
set_option linter.unusedSimpArgs false
set_option linter.unusedVariables false
set_option synthInstance.maxSize 100000
set_option synthInstance.maxHeartbeats 400000
set_option maxRecDepth 100000
variable {h h0 : Heap} {R : List Asn}
def below (N : Nds) (p : Path) : Nds := N.filter fun q => preB p q.1
def entsN (N : Nds) : List Ent := N.flatMap fun q => entsOf q.1 q.2.q
theorem below_root (N : Nds) : below N [] = N := by
  unfold below
  rw [List.filter_eq_self]
  intro q _
  rfl
theorem mget_filter {K V : Type} [DecidableEq K] (c : K → Bool) : ∀ (l : List (K × V)) (k : K), mget (l.filter fun q => c q.1) k = if c k = true then mget l k else none
  | [], k => by simp
  | (a, b) :: l, k => by
    rw [List.filter_cons]
    by_cases e : c a = true
    · rw [if_pos e, q_af, q_af, mget_filter c l k]
      by_cases e' : a = k
      · subst e'; rw [if_pos rfl, if_pos rfl, if_pos e]
      · rw [if_neg e', if_neg e']
    · rw [if_neg e, q_af, mget_filter c l k]
      by_cases e' : a = k
      · subst e'; rw [if_neg e, if_neg e]
      · rw [if_neg e']
theorem mget_below (N : Nds) (p p' : Path) : mget (below N p) p' = if preB p p' = true then mget N p' else none := mget_filter (fun q => preB p q) N p'
theorem below_pick {rb : Nat} {N : Nds} (hT : TreeOK rb N) {p : Path} {nd : Nd} {l1 l2 : Nds} (he : below N p = l1 ++ (p, nd) :: l2) (x : ByteArray) : (l1 ++ l2).filter (fun q => preB (p ++ [x]) q.1) = below N (p ++ [x]) := by
  have h1 : (below N p).filter (fun q => preB (p ++ [x]) q.1) = below N (p ++ [x]) := by
    unfold below
    rw [List.filter_filter]
    refine List.filter_congr fun q _ => ?_
    cases hq : preB (p ++ [x]) q.1 with
    | false => simp
    | true =>
      have h2 : (p ++ [x]) <+: q.1 := q_eq.1 hq
      have h3 : preB p q.1 = true := q_eq.2 ((List.prefix_append p [x]).trans h2)
      simp [h3]
  rw [← h1, he, List.filter_append, List.filter_append, List.filter_cons, if_neg]
  intro hq
  exact not_pre p x (q_eq.1 hq)
theorem below_parts {rb : Nat} {N : Nds} (hT : TreeOK rb N) {p : Path} {nd : Nd} (hp : mget N p = some nd) (hk : (nd.nx.map (·.1)).Nodup) {l1 l2 : Nds} (he : below N p = l1 ++ (p, nd) :: l2) :
    (l1 ++ l2).Perm (nd.nx.flatMap fun kv => below N (p ++ [kv.1])) := by
  have hnd : ((below N p).map (·.1)).Nodup := by
    have : ((below N p).map (·.1)).Sublist (N.map (·.1)) := (List.filter_sublist ..).map _
    exact this.nodup hT.keys
  have hmem : ∀ q ∈ l1 ++ l2, q ∈ N ∧ ∃ x r, q.1 = p ++ x :: r := by
    intro q hq
    have hb : q ∈ below N p := by
      rw [he]
      rcases List.mem_append.1 hq with h | h
      · exact List.mem_append_left _ h
      · exact List.mem_append_right _ (List.mem_cons_of_mem _ h)
    obtain ⟨h1, h2⟩ := List.mem_filter.1 hb
    obtain ⟨r, hr⟩ := q_eq.1 h2
    refine ⟨h1, ?_⟩
    cases r with
    | cons x r => exact ⟨x, r, hr.symm⟩
    | nil =>
      exfalso
      rw [List.append_nil] at hr
      rw [he, List.map_append, List.map_cons, List.nodup_append, List.nodup_cons] at hnd
      rcases List.mem_append.1 hq with h | h
      · exact hnd.2.2 _ (List.mem_map_of_mem h) _ (List.mem_cons_self ..) hr.symm
      · exact hnd.2.1.1 (List.mem_map.2 ⟨q, h, hr.symm⟩)
  have hpp := perm_part (fun q : Path × Nd => (q.1.drop p.length).head?) (l1 ++ l2) ((nd.nx.map (·.1)).map some) (by
    refine List.Pairwise.map _ (fun a b hab e => hab (Option.some.inj e)) hk) (fun q hq => by
      obtain ⟨hN, x, r, hxr⟩ := hmem q hq
      have hmg := q_cu hT.keys hN
      have e : q.1 = (p ++ [x]) ++ r := by rw [hxr]; simp
      rw [e] at hmg
      obtain ⟨c, hc⟩ := hT.pre _ _ _ hmg
      obtain ⟨n0, h1, h2⟩ := hT.up _ _ _ hc
      rw [hp] at h1
      cases h1
      have h3 := q_f4 h2
      rw [hxr]
      simp only [List.drop_left, List.head?_cons]
      exact List.mem_map_of_mem (List.mem_map.2 ⟨_, h3, rfl⟩))
  refine hpp.trans ?_
  rw [List.map_map, List.flatMap_map]
  have : (nd.nx.flatMap fun kv => (l1 ++ l2).filter fun q => decide ((q.1.drop p.length).head? = some kv.1)) = nd.nx.flatMap fun kv => below N (p ++ [kv.1]) := by
    refine flatMap_congr9 fun kv _ => ?_
    rw [← below_pick hT he kv.1]
    refine List.filter_congr fun q hq => ?_
    obtain ⟨hN, x, r, hxr⟩ := hmem q hq
    rw [hxr]
    simp only [List.drop_left, List.head?_cons, Option.some.injEq]
    by_cases e : x = kv.1
    · have : preB (p ++ [kv.1]) (p ++ x :: r) = true := q_eq.2 ⟨r, by simp [e]⟩
      rw [this]
      simp [e]
    · have : preB (p ++ [kv.1]) (p ++ x :: r) = false := by
        cases hb : preB (p ++ [kv.1]) (p ++ x :: r) with
        | false => rfl
        | true =>
          obtain ⟨s, hs⟩ := q_eq.1 hb
          rw [List.append_assoc] at hs
          have := List.append_cancel_left hs
          simp at this
          exact absurd this.1.symm e
      rw [this]
      simp [e]
  exact List.Perm.of_eq this
theorem entsN_perm {N N' : Nds} (h : N.Perm N') : (entsN N).Perm (entsN N') := h.flatMap_right _
theorem entsN_app (N N' : Nds) : entsN (N ++ N') = entsN N ++ entsN N' := List.flatMap_append ..
theorem entsN_flat {K : Type} (l : List K) (f : K → Nds) : entsN (l.flatMap f) = l.flatMap fun k => entsN (f k) := by
  unfold entsN
  rw [List.flatMap_assoc]
theorem below_len {N : Nds} {p : Path} {nd : Nd} {l1 l2 : Nds} (he : below N p = l1 ++ (p, nd) :: l2) (x : ByteArray) (hx : (l1 ++ l2).filter (fun q => preB (p ++ [x]) q.1) = below N (p ++ [x])) : (below N (p ++ [x])).length < (below N p).length := by
  rw [← hx, he]
  have := List.length_filter_le (fun q : Path × Nd => preB (p ++ [x]) q.1) (l1 ++ l2)
  simp only [List.length_append, List.length_cons] at this ⊢
  omega
set_option maxHeartbeats 1000000 in
theorem all_spec {rb : Nat} {N : Nds} (hT : TreeOK rb N) (hG : GoodN9 N) {yv : Value} {J : List Ent → Asn}
    (hY : ∀ (l : List Ent) (e : Ent) {h : Heap} {R : List Asn} {Q : Unit → Heap → Prop}, l.length ≤ 100000 → sat h (J l :: R) → (∀ h', sat h' (J (l ++ [e]) :: R) → Q () h') → HM.callVN Tryz.prog [] yv #[.agg #[.int .i64 e.1, .string e.2.1, .int .i64 e.2.2]] h Q) :
    ∀ (n : Nat) (p : Path) (nd : Nd) (_ : (below N p).length = n) (_ : mget N p = some nd) {A : Asn} {s : Slc} {l : List Ent} {h : Heap} {R : List Asn}
    (_ : ∀ {h' : Heap} {R' : List Asn}, sat h' (A :: R') → RowAt eS 1 h' s p) (_ : sat h (ndsA (below N p) :: J l :: A :: R)) (_ : l.length + (entsN (below N p)).length ≤ 100000) {Q : Value → Heap → Prop}
    (_ : ∀ l' h', l'.Perm (entsN (below N p)) → sat h' (ndsA (below N p) :: J (l ++ l') :: A :: R) → Q (.tuple #[]) h'),
    HCalls Tryz.prog 82 #[.pointer (ptrOf nd), .slice s.a s.len s.cap, yv] h Q := by
  intro n
  induction n using Nat.strongRecOn with
  | _ n ih =>
  intro p nd hln hnd A s l h R hrow hs hb Q hq
  have hpl := hT.short p nd hnd
  refine q_hd (ptrOf nd) s yv h Q ?_
  unfold q_dt
  have hr := hrow hs.p2
  have hmb : mget (below N p) p = some nd := by rw [mget_below, if_pos (q_eq.2 (List.prefix_refl _))]; exact hnd
  refine q_ab (Clip_spec hr.2.1 ⟨_, rfl, ?_⟩)
  obtain ⟨l1, l2, he, hn9⟩ := mget_split hmb
  have hlen1 : (entsOf p nd.q).length ≤ (entsN (below N p)).length := by
    have : entsN (l1 ++ (p, nd) :: l2) = entsN l1 ++ (entsOf p nd.q ++ entsN l2) := by unfold entsN; rw [List.flatMap_append, List.flatMap_cons]
    rw [he, this, List.length_append, List.length_append]
    omega
  have hql : nd.q.length = (entsOf p nd.q).length := by simp [entsOf]
  refine q_ab (take_spec (A := star (J l) A) (es := []) hmb (hG _ _ hnd) (by omega) (fun hs' => (hrow (sat.star_iff.1 hs').p1).clip) (out := ⟨none, 0, 0⟩) ((sat.star_iff.2 (q_a3 hs |>.re [2, 3, 0, 1])).re [2, 1, 0]) (by simp only [List.length_nil]; omega) fun o' es h1 hp1 hs1' => ⟨o', rfl, ?_⟩)
  have hs1 : sat h1 (J l :: ndsA (below N p) :: ownS encE 3 o' es :: A :: R) := by
    have h2 := sat.star_iff.1 (hs1'.re [2, 0, 1])
    exact h2.re [0, 2, 3, 1]
  clear hs1' hs
  have hesl : es.length = nd.q.length := by rw [hp1.length_eq, hql]
  have hol := hs1.p2.own_len
  have hpp : (entsN (below N p)).Perm (es ++ nd.nx.flatMap fun kv => entsN (below N (p ++ [kv.1]))) := by
    obtain ⟨h1, h2⟩ := q_hx hmb hs1.p1
    have e1 := entsN_perm (below_parts hT hnd h2 he)
    rw [entsN_flat] at e1
    have e2 : entsN (below N p) = entsN l1 ++ (entsOf p nd.q ++ entsN l2) := by rw [he]; unfold entsN; rw [List.flatMap_append, List.flatMap_cons]
    rw [e2]
    refine List.Perm.trans ?_ (hp1.symm.append e1)
    rw [entsN_app, ← List.append_assoc, ← List.append_assoc]
    exact List.perm_append_comm.append_right _
  have hplen := hpp.length_eq
  rw [List.length_append] at hplen
  refine q_ad (fun _ h' => sat h' (J (l ++ es) :: ndsA (below N p) :: A :: R)) ?_ ?_
  · refine q_cv (γ := Nat) (hb := fun s => by
        repeat' with_reducible first
          | refine @mono_bind _ _ _ _ ?_ (fun _ => ?_)
          | refine @mono_ite _ _ _ _ ?_ ?_
          | refine @mono_req _ _ _ ?_
        all_goals infer_instance)
      (fun g x h' => g ≤ es.length ∧ x.1 = (g : Int) ∧ sat h' (J (l ++ es.take g) :: ndsA (below N p) :: ownS encE 3 o' es :: A :: R)) (fun g => es.length - g) 0
      ⟨Nat.zero_le _, rfl, by simpa using hs1⟩ ?_
    clear hs1
    rintro i ⟨ci, ⟨⟩⟩ h2 ⟨hi, hci, hs2⟩
    simp only at hi hci hs2
    subst hci
    have next : IntKind.wrap .i64 ((i : Int) + 1) = ((i + 1 : Nat) : Int) := by rw [q_al (by omega) (by omega)]; rfl
    simp only [HM.ite_apply, decide_eq_true_eq]
    by_cases hlt : i < es.length
    · rw [if_pos (by omega), HM.bind_apply]
      have hx := List.getElem?_eq_getElem hlt
      generalize es[i] = e at hx
      refine q_bi (hs2.p2.own_row eE_len) hx fun a ha => ?_
      refine q_er (ts := [.int .i64, .str, .int .i64]) (e.1, e.2.1, e.2.2, ()) (fun j v hv => ha j v hv) ?_
      refine q_ae hs2 fun x7 h3 hs3 => ?_
      (try dsimp only); rw [HM.bind_apply]
      refine storeN_all' hs3 rfl rfl fun h4 hs4 => ?_
      refine q_au (ts := [.int .i64, .str, .int .i64]) (e.1, e.2.1, e.2.2, ()) hs4 rfl ?_
      (try dsimp only); rw [HM.bind_apply]
      refine hY (l ++ es.take i) e (by simp only [List.length_append, List.length_take]; omega) hs4.p1 fun h5 hs5 => ?_
      simp only [Sum.elim_inl, Sum.elim_inr, HM.pure_apply]
      refine .mk (i + 1) (by omega) ⟨by omega, next, ?_⟩
      have e1 : l ++ es.take (i + 1) = l ++ es.take i ++ [e] := by rw [List.take_add_one, hx]; simp
      rw [e1]
      exact (hs5.re [1, 0, 2, 3, 4]).drop
    · rw [if_neg (by omega)]
      have : i = es.length := by omega
      subst this
      rw [List.take_length] at hs2
      exact (hs2.re [2, 0, 1, 3]).drop
  clear hs1 hol
  rintro ⟨ci, ⟨⟩⟩ h2 hs2
  refine ⟨_, rfl, some nd.nm, by rw [q_aa]; exact (q_as hmb hs2.p1).2, ?_⟩
  have hnds : ∀ {h' : Heap} {R' : List Asn}, sat h' (ndsA (below N p) :: R') ↔ sat h' (cells nd.b #[.map (some nd.qm), .map (some nd.nm)] :: mapA eKI9 eVI9 nd.qm nd.q :: mapA eKS9 eVP9 nd.nm nd.nx :: bigA (fun p : Path × Nd => ndA p.2) (l1 ++ l2) :: R') := by
    intro h' R'
    rw [he]
    exact ⟨fun hs' => ndA_iff.1 (q_an.1 hs'), fun hs' => q_an.2 (ndA_iff.2 hs')⟩
  have hk := (q_hx hmb hs2.p1).2
  have hs3 : sat h2 (mapA eKS9 eVP9 nd.nm nd.nx :: J (l ++ es) :: A :: cells nd.b #[.map (some nd.qm), .map (some nd.nm)] :: mapA eKI9 eVI9 nd.qm nd.q :: bigA (fun p : Path × Nd => ndA p.2) (l1 ++ l2) :: R) := (hnds.1 hs2.p1).re [2, 4, 5, 0, 1, 3]
  clear hs2
  (try dsimp only); rw [HM.bind_apply]
  refine range_map hs3 fun it h3 hs4 => ?_
  clear hs3
  refine q_cv (γ := List (ByteArray × Option Addr) × List (ByteArray × Option Addr) × List Ent) (hb := fun s => by
      repeat' with_reducible first
        | refine @mono_bind _ _ _ _ ?_ (fun _ => ?_)
        | refine @mono_opt _ _ _ _ _ ?_ (fun _ => ?_)
        | refine @mono_ite _ _ _ _ ?_ ?_
        | refine @mono_req _ _ _ ?_
      all_goals infer_instance)
    (fun g x h' => (g.1 ++ g.2.1).Perm nd.nx ∧ g.2.2.Perm (g.1.flatMap fun kv => entsN (below N (p ++ [kv.1]))) ∧
      sat h' (itA eKS9 eVP9 nd.nm nd.nx it g.1 g.2.1 :: J (l ++ es ++ g.2.2) :: A :: cells nd.b #[.map (some nd.qm), .map (some nd.nm)] :: mapA eKI9 eVI9 nd.qm nd.q :: bigA (fun p : Path × Nd => ndA p.2) (l1 ++ l2) :: R))
    (fun g => g.2.1.length) ([], nd.nx, []) ⟨List.Perm.refl _, List.Perm.refl _, by simpa using hs4⟩ ?_
  clear hs4
  rintro ⟨done, todo, L'⟩ ⟨⟩ h4 ⟨hp, hL, hs4⟩
  simp only at hp hL hs4
  rw [HM.bind_apply]
  refine next_map hs4 (fun h0 => ?_) (fun kv t1 t2 ht h5 hs5 => ?_)
  · subst h0
    (try dsimp only); rw [opt_none, HM.ite_apply, if_neg (by simp)]
    simp only [Sum.elim_inl, Sum.elim_inr, HM.pure_apply]
    rw [List.append_nil] at hp
    refine hq (es ++ L') h4 ?_ ?_
    · refine List.Perm.trans ?_ hpp.symm
      exact (hL.trans (hp.flatMap_right _)).append_left es
    · rw [← List.append_assoc]
      have h5 := itA_map hs4
      exact hnds.2 (h5.re [3, 4, 0, 5, 1, 2])
  · subst ht
    (try dsimp only); rw [opt_some, HM.ite_apply, if_pos rfl]
    rw [HM.bind_apply]
    refine entry_map (kk := .one .str) (kv := .one .ptr) (ek := eKS9) (ev := eVP9) (p := kv) (x := kv.1) (y := kv.2) rfl rfl hs5 ?_
    have hkm : kv ∈ nd.nx := hp.mem_iff.1 (by simp)
    obtain ⟨c, hc, hcp⟩ := hT.down _ _ _ _ hnd (q_cu hk hkm)
    refine q_ae hs5 fun x22 h6 hs6 => ?_
    (try dsimp only); rw [HM.bind_apply]
    refine q_gn (A := A) (hrow hs6.p3).clip rfl (by omega) hs6 fun s8 h7 hs7 => ?_
    have hfl := below_pick hT he kv.1
    have hlt := below_len he kv.1 hfl
    have hsum : L'.length + (entsN (below N (p ++ [kv.1]))).length ≤ (nd.nx.flatMap fun kv => entsN (below N (p ++ [kv.1]))).length := by
      have h8 := (hp.flatMap_right (fun kv => entsN (below N (p ++ [kv.1])))).length_eq
      rw [List.flatMap_append, List.flatMap_append, List.flatMap_cons, List.length_append, List.length_append, List.length_append, ← hL.length_eq] at h8
      omega
    have hs8 : sat h7 (ndsA (below N (p ++ [kv.1])) :: J (l ++ es ++ L') :: star (ownS eS 1 s8 (p ++ [kv.1])) A :: bigA (fun p : Path × Nd => ndA p.2) ((l1 ++ l2).filter fun q => !(preB (p ++ [kv.1]) q.1)) :: itA eKS9 eVP9 nd.nm nd.nx it (done ++ [kv]) (t1 ++ t2) :: cells nd.b #[.map (some nd.qm), .map (some nd.nm)] :: mapA eKI9 eVI9 nd.qm nd.q :: cells x22 #[.string kv.1] :: R) := by
      have h9 := hs7.re [7, 0, 1, 2, 3, 4, 5, 6]
      have h10 := bigA_app.1 (bigA_perm9 (List.filter_append_perm (fun q : Path × Nd => preB (p ++ [kv.1]) q.1) (l1 ++ l2)).symm h9)
      rw [hfl] at h10
      have h11 := sat.star_iff.2 (h10.re [2, 6, 0, 1, 3, 4, 5, 7, 8])
      exact h11.re [1, 5, 0, 2, 4, 6, 7, 3]
    rw [hcp]
    refine q_az (ih _ (by omega) (p ++ [kv.1]) c rfl hc (fun hs' => (sat.star_iff.1 hs').own_row q_et) hs8 (by rw [List.length_append, List.length_append]; omega) fun l' h8 hl' hs9 => ⟨(), rfl, ?_⟩)
    simp only [Sum.elim_inl, Sum.elim_inr, HM.pure_apply]
    refine .mk (done ++ [kv], t1 ++ t2, L' ++ l') (by simp) ⟨?_, ?_, ?_⟩
    · refine List.Perm.trans ?_ hp
      simp only [List.append_assoc]
      refine List.Perm.append_left done ?_
      show (kv :: (t1 ++ t2)).Perm _
      exact List.perm_middle.symm
    · show (L' ++ l').Perm ((done ++ [kv]).flatMap _)
      rw [List.flatMap_append, List.flatMap_cons, List.flatMap_nil, List.append_nil]
      exact hL.append hl'
    · show sat h8 (_ :: J (l ++ es ++ (L' ++ l')) :: _)
      rw [← List.append_assoc]
      have h9 := sat.star_iff.1 (hs9.re [2, 0, 1])
      have h10 : sat h8 (bigA (fun p : Path × Nd => ndA p.2) (below N (p ++ [kv.1])) :: bigA (fun p : Path × Nd => ndA p.2) ((l1 ++ l2).filter fun q => !(preB (p ++ [kv.1]) q.1)) :: itA eKS9 eVP9 nd.nm nd.nx it (done ++ [kv]) (t1 ++ t2) :: J (l ++ es ++ L' ++ l') :: A :: cells nd.b #[.map (some nd.qm), .map (some nd.nm)] :: mapA eKI9 eVI9 nd.qm nd.q :: R) :=
        (h9.re [0, 8, 2, 4, 5, 3, 1, 6, 7]).drop.drop
      rw [← hfl] at h10
      have h11 := bigA_perm9 (List.filter_append_perm (fun q : Path × Nd => preB (p ++ [kv.1]) q.1) (l1 ++ l2)) (bigA_app.2 h10)
      exact h11.re [1, 2, 3, 4, 5, 0]
end Go.Proofs.YtidlldnlphdhcaaGreatDoor
namespace Go.H
open Go.Sort
set_option linter.unusedSimpArgs false
set_option linter.unusedVariables false
set_option linter.unusedSectionVars false
section
variable {K V : Type} [DecidableEq K]
theorem q_bh : ∀ {l : List (K × V)} {k : K}, (l.map (·.1)).Nodup → mdel l k = l.filter fun p => decide (p.1 ≠ k)
  | [], _, _ => rfl
  | (a, b) :: l, k, h => by
    simp only [List.map_cons, List.nodup_cons] at h
    by_cases hk : a = k
    · subst hk
      rw [mdel, if_pos rfl, List.filter_cons_of_neg (by simp)]
      symm
      rw [List.filter_eq_self]
      intro p hp
      simp only [ne_eq, decide_not, Bool.not_eq_eq_eq_not, Bool.not_true, decide_eq_false_iff_not]
      rintro e
      exact h.1 (e ▸ List.mem_map_of_mem hp)
    · rw [mdel, if_neg hk, List.filter_cons_of_pos (by simpa using hk), q_bh h.2]
theorem mset_perm : ∀ {l : List (K × V)} {k : K} {x : V}, (mset l k x).Perm ((k, x) :: mdel l k)
  | [], _, _ => List.Perm.refl _
  | (a, b) :: l, k, x => by
    by_cases hk : a = k
    · rw [mset, if_pos hk, mdel, if_pos hk]
    · rw [mset, if_neg hk, mdel, if_neg hk]
      exact ((mset_perm (l := l)).cons _).trans (List.Perm.swap _ _ _)
theorem mget_mem_iff {l : List (K × V)} (hn : (l.map (·.1)).Nodup) {k : K} {v : V} : mget l k = some v ↔ (k, v) ∈ l := by
  constructor
  · exact q_f4
  · intro h
    induction l with
    | nil => exact absurd h (by simp)
    | cons p l ih =>
      obtain ⟨a, b⟩ := p
      simp only [List.map_cons, List.nodup_cons] at hn
      rw [q_af]
      rcases List.mem_cons.1 h with e | h
      · cases e; rw [if_pos rfl]
      · rw [if_neg (fun e => hn.1 (by subst e; exact List.mem_map_of_mem (f := (·.1)) h)), ih hn.2 h]
variable (lt : K → K → Prop) [DecidableRel lt] (key : V → K)
def insS (m : V) : List V → List V
  | [] => [m]
  | x :: r => if lt (key m) (key x) then m :: x :: r else x :: insS m r
theorem q_c4 (m : V) : ∀ l : List V, (insS lt key m l).Perm (m :: l)
  | [] => List.Perm.refl _
  | x :: r => by
    unfold insS
    split
    · exact List.Perm.refl _
    · exact ((q_c4 m r).cons _).trans (List.Perm.swap _ _ _)
structure Ord : Prop where
  irr : ∀ a, ¬ lt a a
  trans : ∀ {a b c}, lt a b → lt b c → lt a c
  tri : ∀ a b, a = b ∨ lt a b ∨ lt b a
variable {lt key}
theorem insS_asc (ho : Ord lt) {m : V} : ∀ {l : List V}, l.Pairwise (fun a b => lt (key a) (key b)) → (∀ x ∈ l, key x ≠ key m) → (insS lt key m l).Pairwise (fun a b => lt (key a) (key b))
  | [], _, _ => by simp [insS]
  | x :: r, h, hm => by
    unfold insS
    rw [List.pairwise_cons] at h
    split
    · rename_i hlt
      rw [List.pairwise_cons, List.pairwise_cons]
      refine ⟨fun y hy => ?_, h⟩
      rcases List.mem_cons.1 hy with rfl | hy
      · exact hlt
      · exact ho.trans hlt (h.1 y hy)
    · rename_i hlt
      rw [List.pairwise_cons]
      refine ⟨fun y hy => ?_, insS_asc ho h.2 fun z hz => hm z (List.mem_cons_of_mem _ hz)⟩
      rcases List.mem_cons.1 ((q_c4 lt key m r).mem_iff.1 hy) with rfl | hy
      · rcases ho.tri (key x) (key y) with e | e | e
        · exact absurd e (hm x (List.mem_cons_self ..))
        · exact e
        · exact absurd e hlt
      · exact h.1 y hy
variable (lt key)
structure Rel (l : List (K × V)) (L : List V) : Prop where
  kk : ∀ p ∈ l, key p.2 = p.1
  nd : (l.map (·.1)).Nodup
  asc : L.Pairwise fun a b => lt (key a) (key b)
  perm : (l.map (·.2)).Perm L
variable {lt key} {l : List (K × V)} {L : List V}
theorem Rel.nil : Rel lt key ([] : List (K × V)) [] := ⟨by simp, by simp, by simp, by simp⟩
theorem Rel.len (h : Rel lt key l L) : l.length = L.length := by
  have := h.perm.length_eq
  simpa using this
theorem Rel.mem (h : Rel lt key l L) {k : K} {v : V} : (k, v) ∈ l ↔ v ∈ L ∧ key v = k := by
  constructor
  · intro hm
    exact ⟨h.perm.mem_iff.1 (List.mem_map_of_mem (f := (·.2)) hm), h.kk _ hm⟩
  · rintro ⟨hv, rfl⟩
    obtain ⟨p, hp, rfl⟩ := List.mem_map.1 (h.perm.mem_iff.2 hv)
    have := h.kk p hp
    rw [this]
    exact hp
theorem Rel.get (ho : Ord lt) (h : Rel lt key l L) (k : K) : mget l k = L.find? fun v => decide (key v = k) := by
  have hasc := h.asc
  have hs : ∀ v, mget l k = some v ↔ v ∈ L ∧ key v = k := fun v => (mget_mem_iff h.nd).trans h.mem
  clear h
  have inj : ∀ {L : List V}, L.Pairwise (fun a b => lt (key a) (key b)) → ∀ a ∈ L, ∀ b ∈ L, key a = key b → a = b := by
    intro L hL
    induction L with
    | nil => intro a ha; exact absurd ha (by simp)
    | cons x r ih =>
      rw [List.pairwise_cons] at hL
      intro a ha b hb e
      rcases List.mem_cons.1 ha with e1 | ha'
      · rcases List.mem_cons.1 hb with e2 | hb'
        · rw [e1, e2]
        · have := hL.1 b hb'; rw [← e1, e] at this; exact absurd this (ho.irr _)
      · rcases List.mem_cons.1 hb with e2 | hb'
        · have := hL.1 a ha'; rw [← e2, e] at this; exact absurd this (ho.irr _)
        · exact ih hL.2 a ha' b hb' e
  cases hf : L.find? fun v => decide (key v = k) with
  | none =>
    rw [List.find?_eq_none] at hf
    cases hg : mget l k with
    | none => rfl
    | some v => obtain ⟨h1, h2⟩ := (hs v).1 hg; exact absurd h2 (by simpa using hf v h1)
  | some v =>
    rw [hs]
    exact ⟨List.mem_of_find?_eq_some hf, by simpa using List.find?_some hf⟩
theorem Rel.del (h : Rel lt key l L) (k : K) : Rel lt key (mdel l k) (L.filter fun v => decide (key v ≠ k)) := by
  rw [q_bh h.nd]
  refine ⟨fun p hp => h.kk p (List.mem_filter.1 hp).1, ((List.filter_sublist (l := l)).map _).nodup h.nd, h.asc.filter _, ?_⟩
  have e : (l.filter fun p => decide (p.1 ≠ k)).map (·.2) = (l.map (·.2)).filter fun v => decide (key v ≠ k) := by
    rw [List.filter_map]
    congr 1
    refine List.filter_congr fun p hp => ?_
    simp only [Function.comp_apply, h.kk p hp]
  rw [e]
  exact h.perm.filter _
theorem Rel.set (ho : Ord lt) (h : Rel lt key l L) (x : V) : Rel lt key (mset l (key x) x) (insS lt key x (L.filter fun v => decide (key v ≠ key x))) := by
  have hd := h.del (key x)
  have hp := mset_perm (l := l) (k := key x) (x := x)
  refine ⟨fun p hp' => ?_, ?_, ?_, ?_⟩
  · rcases List.mem_cons.1 (hp.mem_iff.1 hp') with rfl | hm
    · rfl
    · exact hd.kk p hm
  · rw [(hp.map (·.1)).nodup_iff, List.map_cons, List.nodup_cons]
    refine ⟨fun hm => ?_, hd.nd⟩
    obtain ⟨p, hpm, e⟩ := List.mem_map.1 hm
    rw [q_bh h.nd] at hpm
    have := (List.mem_filter.1 hpm).2
    simp only [ne_eq, decide_not, Bool.not_eq_eq_eq_not, Bool.not_true, decide_eq_false_iff_not] at this
    exact this e
  · exact insS_asc ho hd.asc fun y hy => by simpa using (List.mem_filter.1 hy).2
  · exact ((hp.map (·.2)).trans ((List.Perm.cons _ hd.perm))).trans (q_c4 lt key x _).symm
theorem Rel.keys (h : Rel lt key l L) : (l.map (·.1)).Perm (L.map key) := by
  have e : l.map (·.1) = (l.map (·.2)).map key := by
    rw [List.map_map]
    refine List.map_congr_left fun p hp => ?_
    exact (h.kk p hp).symm
  rw [e]
  exact h.perm.map _
theorem Rel.of_mem (ho : Ord lt) (h : Rel lt key l L) {v : V} (hv : v ∈ L) : mget l (key v) = some v :=
  (mget_mem_iff h.nd).2 (h.mem.2 ⟨hv, rfl⟩)
end
def ltS (a b : ByteArray) : Prop := a.data.toList < b.data.toList
instance : DecidableRel ltS := fun a b => by unfold ltS; infer_instance
theorem ordS : Ord ltS where
  irr a := List.lt_irrefl _
  trans h1 h2 := List.lt_trans h1 h2
  tri a b := by
    unfold ltS
    by_cases h1 : a.data.toList < b.data.toList
    · exact .inr (.inl h1)
    · by_cases h2 : b.data.toList < a.data.toList
      · exact .inr (.inr h2)
      · left
        have := List.le_antisymm (List.not_lt.1 h2) (List.not_lt.1 h1)
        cases a; cases b
        simp at this
        rw [this]
theorem sortS_asc {l l' : List ByteArray} (hp : l.Perm l') (h : l'.Pairwise ltS) : sortS l = l' := by
  unfold sortS
  rw [mergeSort_of_perm (hp.map (·.data.toList))]
  rw [List.mergeSort_of_pairwise]
  · rw [List.map_map]
    exact List.map_id _
  · rw [List.pairwise_map]
    refine h.imp fun hab => ?_
    simpa using List.le_of_lt hab
theorem Rel.sorted {V : Type} {key : V → ByteArray} {l : List (ByteArray × V)} {L : List V} (h : Rel ltS key l L) : sortS (l.map (·.1)) = L.map key :=
  sortS_asc h.keys (by rw [List.pairwise_map]; exact h.asc)
end Go.H
namespace Go.Proofs.YtidlldnlphdhcaaGreatDoor
open Go.H Go.Proofs
set_option linter.unusedSimpArgs false
set_option linter.unusedVariables false
abbrev keyE (e : Ent) : Int × ByteArray := (e.1, e.2.1)
def ltK (a b : Int × ByteArray) : Prop := a.1 < b.1 ∨ (a.1 = b.1 ∧ ltS a.2 b.2)
instance : DecidableRel ltK := fun a b => by unfold ltK; infer_instance
theorem ordK : Ord ltK where
  irr a h := by
    rcases h with h | h
    · omega
    · exact ordS.irr _ h.2
  trans {a b c} h1 h2 := by
    rcases h1 with h1 | h1 <;> rcases h2 with h2 | h2
    · exact .inl (by omega)
    · exact .inl (by omega)
    · exact .inl (by omega)
    · exact .inr ⟨h1.1.trans h2.1, ordS.trans h1.2 h2.2⟩
  tri a b := by
    by_cases h1 : a.1 < b.1
    · exact .inr (.inl (.inl h1))
    · by_cases h2 : b.1 < a.1
      · exact .inr (.inr (.inl h2))
      · have e : a.1 = b.1 := by omega
        rcases ordS.tri a.2 b.2 with h | h | h
        · exact .inl (Prod.ext e h)
        · exact .inr (.inl (.inr ⟨e, h⟩))
        · exact .inr (.inr (.inr ⟨e.symm, h⟩))
abbrev Asc (L : List Ent) : Prop := L.Pairwise fun a b => ltK (keyE a) (keyE b)
theorem Asc.key {L : List Ent} (h : Asc L) {a b : Ent} (ha : a ∈ L) (hb : b ∈ L) (e : keyE a = keyE b) : a = b := by
  induction L with
  | nil => simp at ha
  | cons x L ih =>
    rw [Asc, List.pairwise_cons] at h
    rcases List.mem_cons.1 ha with e1 | h1
    · rcases List.mem_cons.1 hb with e2 | h2
      · rw [e1, e2]
      · have := h.1 b h2; rw [← e1, e] at this; exact absurd this (ordK.irr _)
    · rcases List.mem_cons.1 hb with e2 | h2
      · have := h.1 a h1; rw [← e2, e] at this; exact absurd this (ordK.irr _)
      · exact ih h.2 h1 h2
theorem Asc.nodup {L : List Ent} (h : Asc L) : L.Nodup := h.imp fun hab e => by subst e; exact ordK.irr _ hab
theorem asc_perm : ∀ {ys zs : List Ent}, ys.Perm zs → Asc zs → ys.Pairwise (fun a b => ¬ ltK (keyE b) (keyE a)) → ys = zs
  | [], zs, hp, _, _ => (List.nil_perm.1 hp).symm
  | y :: ys, [], hp, _, _ => absurd hp.length_eq (by simp)
  | y :: ys, z :: zs, hp, hz, hy => by
    have hz' := List.pairwise_cons.1 hz
    have hy' := List.pairwise_cons.1 hy
    have e : y = z := by
      rcases List.mem_cons.1 (hp.mem_iff.1 (List.mem_cons_self ..)) with e | h1
      · exact e
      · rcases List.mem_cons.1 (hp.mem_iff.2 (List.mem_cons_self ..)) with e | h2
        · exact e.symm
        · exact absurd (hz'.1 y h1) (hy'.1 z h2)
    subst e
    rw [asc_perm (List.Perm.cons_inv hp) hz'.2 hy'.2]
structure TriAbs (N : Nds) (L : List Ent) : Prop where
  good : ∀ x ∈ L, filterOK x.2.1 = true
  asc : Asc L
  ents : ∀ p k q, ent N p k = some q ↔ ∃ f, levels f = p ∧ (k, f, q) ∈ L
theorem q_ij {f f' : ByteArray} (h : levels f = levels f') : f = f' := by rw [← q_cw f, h, q_cw]
theorem TriAbs.get {N : Nds} {L : List Ent} (h : TriAbs N L) (f : ByteArray) (k q : Int) : ent N (levels f) k = some q ↔ (k, f, q) ∈ L := by
  rw [h.ents]
  constructor
  · rintro ⟨f', e, hm⟩
    rw [q_ij e] at hm
    exact hm
  · exact fun hm => ⟨f, rfl, hm⟩
theorem TriAbs.none {N : Nds} {L : List Ent} (h : TriAbs N L) (f : ByteArray) (k : Int) : ent N (levels f) k = none ↔ ∀ x ∈ L, keyE x ≠ (k, f) := by
  constructor
  · intro hn x hx e
    have e1 : x.1 = k := congrArg Prod.fst e
    have e2 : x.2.1 = f := congrArg Prod.snd e
    have : (k, f, x.2.2) ∈ L := by rw [← e1, ← e2]; exact hx
    rw [(h.get f k _).2 this] at hn
    cases hn
  · intro hn
    cases he : ent N (levels f) k with
    | none => rfl
    | some q => exact absurd rfl (hn _ ((h.get f k q).1 he))
theorem TriAbs.goodN {N : Nds} {L : List Ent} (h : TriAbs N L) (hk : ∀ p nd, mget N p = some nd → (nd.q.map (·.1)).Nodup) : GoodN9 N := by
  intro p nd hp hq
  obtain ⟨kv, r, hr⟩ := List.exists_cons_of_ne_nil hq
  have h1 : mget nd.q kv.1 = some kv.2 := q_cu (hk p nd hp) (by rw [hr]; exact List.mem_cons_self ..)
  have h2 : ent N p kv.1 = some kv.2 := by unfold ent; rw [hp]; exact h1
  obtain ⟨f, hf, hm⟩ := (h.ents _ _ _).1 h2
  have hg := h.good _ hm
  subst hf
  refine ⟨levels_ne f, ?_⟩
  rw [q_cw]
  have := q_hl (q_bc hg)
  simp only at this
  omega
def cntL (L : List Ent) (k : Int) : Nat := (L.map (·.1)).count k
def CntOK (C : List (Int × Int)) (L : List Ent) : Prop := ∀ k, mget C k = if cntL L k = 0 then none else some (cntL L k : Int)
theorem CntOK.getD {C : List (Int × Int)} {L : List Ent} (h : CntOK C L) (k : Int) : (mget C k).getD 0 = (cntL L k : Int) := by
  rw [h k]
  split
  · rename_i e; rw [e]; rfl
  · rfl
theorem q_hm {L : List Ent} {i : Nat} {x e : Ent} (hi : L[i]? = some x) (he : keyE x = keyE e) : (L.set i e).map keyE = L.map keyE := by
  rw [List.map_set]
  have h1 : (L.map keyE)[i]? = some (keyE e) := by rw [List.getElem?_map, hi]; simp [he]
  apply List.ext_getElem?
  intro j
  rw [List.getElem?_set]
  by_cases e' : i = j
  · subst e'
    rw [if_pos rfl, h1]
    have := (List.getElem?_eq_some_iff.1 h1).1
    rw [if_pos (by simpa using this)]
  · rw [if_neg e']
theorem cnt_keys {L L' : List Ent} (h : (L'.map keyE) = L.map keyE) (k : Int) : cntL L' k = cntL L k := by
  unfold cntL
  have : ∀ M : List Ent, M.map (·.1) = (M.map keyE).map (·.1) := fun M => by rw [List.map_map]; rfl
  rw [this, this, h]
theorem asc_keys {L L' : List Ent} (h : (L'.map keyE) = L.map keyE) (ha : Asc L) : Asc L' := by
  have h1 : (L.map keyE).Pairwise ltK := by rw [List.pairwise_map]; exact ha
  rw [← h, List.pairwise_map] at h1
  exact h1
theorem TriAbs.set {N N' : Nds} {L : List Ent} (h : TriAbs N L) {i : Nat} {x : Ent} {k q : Int} {f : ByteArray} (hi : L[i]? = some x) (hx : keyE x = (k, f)) (hf : filterOK f = true)
    (hN : ∀ p' k', ent N' p' k' = if levels f = p' ∧ k = k' then some q else ent N p' k') : TriAbs N' (L.set i (k, f, q)) where
  good := by
    intro y hy
    rcases List.mem_or_eq_of_mem_set hy with hy | rfl
    · exact h.good y hy
    · exact hf
  asc := asc_keys (q_hm hi hx) h.asc
  ents := by
    have hlt := (List.getElem?_eq_some_iff.1 hi).1
    have hxm := List.mem_of_getElem? hi
    have hmem : ∀ y : Ent, y ∈ L.set i (k, f, q) ↔ y = (k, f, q) ∨ (y ∈ L ∧ keyE y ≠ (k, f)) := by
      intro y
      constructor
      · intro hy
        by_cases e : y = (k, f, q)
        · exact .inl e
        · right
          have hy2 : y ∈ L := by
            rcases List.mem_or_eq_of_mem_set hy with h | h
            · exact h
            · exact absurd h e
          refine ⟨hy2, fun ek => ?_⟩
          have hm : (k, f, q) ∈ L.set i (k, f, q) := List.mem_set hlt _
          have hasc := asc_keys (q_hm (e := (k, f, q)) hi hx) h.asc
          exact e (hasc.key hy hm ek)
      · rintro (rfl | ⟨hy, hk⟩)
        · exact List.mem_set hlt _
        · obtain ⟨j, hj⟩ := List.mem_iff_getElem?.1 hy
          have hne : i ≠ j := fun e => by
            subst e
            rw [hi] at hj
            cases hj
            exact hk hx
          exact List.mem_of_getElem? (i := j) (by rw [List.getElem?_set, if_neg hne]; exact hj)
    intro p k' q'
    rw [hN]
    by_cases e : levels f = p ∧ k = k'
    · rw [if_pos e]
      obtain ⟨rfl, rfl⟩ := e
      constructor
      · intro h1
        cases h1
        exact ⟨f, rfl, (hmem _).2 (.inl rfl)⟩
      · rintro ⟨f', e1, hm⟩
        have := q_ij e1
        subst this
        rcases (hmem _).1 hm with h1 | ⟨_, h2⟩
        · have : q' = q := congrArg (fun x : Ent => x.2.2) h1
          rw [this]
        · exact absurd rfl h2
    · rw [if_neg e, h.ents]
      constructor
      · rintro ⟨f', e1, hm⟩
        refine ⟨f', e1, (hmem _).2 (.inr ⟨hm, fun ek => e ⟨?_, (congrArg Prod.fst ek).symm⟩⟩)⟩
        have : f' = f := congrArg Prod.snd ek
        rw [← e1, this]
      · rintro ⟨f', e1, hm⟩
        rcases (hmem _).1 hm with h1 | ⟨h2, _⟩
        · exfalso
          have e2 : k' = k := congrArg (fun x : Ent => x.1) h1
          have e3 : f' = f := congrArg (fun x : Ent => x.2.1) h1
          exact e ⟨by rw [← e1, e3], e2.symm⟩
        · exact ⟨f', e1, h2⟩
theorem TriAbs.ins {N N' : Nds} {L : List Ent} (h : TriAbs N L) {k q : Int} {f : ByteArray} (hno : ∀ x ∈ L, keyE x ≠ (k, f)) (hf : filterOK f = true)
    (hN : ∀ p' k', ent N' p' k' = if levels f = p' ∧ k = k' then some q else ent N p' k') : TriAbs N' (insS ltK keyE (k, f, q) L) where
  good := by
    intro y hy
    rcases List.mem_cons.1 ((q_c4 ltK keyE _ L).mem_iff.1 hy) with rfl | hy
    · exact hf
    · exact h.good y hy
  asc := insS_asc ordK h.asc hno
  ents := by
    have hmem : ∀ y : Ent, y ∈ insS ltK keyE (k, f, q) L ↔ y = (k, f, q) ∨ y ∈ L := fun y => by rw [(q_c4 ltK keyE _ L).mem_iff, List.mem_cons]
    intro p k' q'
    rw [hN]
    by_cases e : levels f = p ∧ k = k'
    · rw [if_pos e]
      obtain ⟨rfl, rfl⟩ := e
      constructor
      · intro h1
        cases h1
        exact ⟨f, rfl, (hmem _).2 (.inl rfl)⟩
      · rintro ⟨f', e1, hm⟩
        have := q_ij e1
        subst this
        rcases (hmem _).1 hm with h1 | h2
        · have : q' = q := congrArg (fun x : Ent => x.2.2) h1
          rw [this]
        · exact absurd rfl (hno _ h2)
    · rw [if_neg e, h.ents]
      constructor
      · rintro ⟨f', e1, hm⟩
        exact ⟨f', e1, (hmem _).2 (.inr hm)⟩
      · rintro ⟨f', e1, hm⟩
        rcases (hmem _).1 hm with h1 | h2
        · exfalso
          have e2 : k' = k := congrArg (fun x : Ent => x.1) h1
          have e3 : f' = f := congrArg (fun x : Ent => x.2.1) h1
          exact e ⟨by rw [← e1, e3], e2.symm⟩
        · exact ⟨f', e1, h2⟩
def delL (L : List Ent) (k : Int) (f : ByteArray) : List Ent := L.filter fun x => decide (keyE x ≠ (k, f))
theorem TriAbs.del {N N' : Nds} {L : List Ent} (h : TriAbs N L) {k : Int} {f : ByteArray} (hN : ∀ p' k', ent N' p' k' = if p' = levels f ∧ k' = k then Option.none else ent N p' k') : TriAbs N' (delL L k f) where
  good := fun y hy => h.good y (List.mem_filter.1 hy).1
  asc := h.asc.filter _
  ents := by
    intro p k' q'
    rw [hN]
    by_cases e : p = levels f ∧ k' = k
    · rw [if_pos e]
      obtain ⟨rfl, rfl⟩ := e
      constructor
      · intro h1; cases h1
      · rintro ⟨f', e1, hm⟩
        have := q_ij e1
        subst this
        have := (List.mem_filter.1 hm).2
        simp at this
    · rw [if_neg e, h.ents]
      constructor
      · rintro ⟨f', e1, hm⟩
        refine ⟨f', e1, List.mem_filter.2 ⟨hm, ?_⟩⟩
        rw [decide_eq_true_eq]
        intro ek
        have e2 : k' = k := congrArg Prod.fst ek
        have e3 : f' = f := congrArg Prod.snd ek
        exact e ⟨by rw [← e1, e3], e2⟩
      · rintro ⟨f', e1, hm⟩
        exact ⟨f', e1, (List.mem_filter.1 hm).1⟩
theorem cnt_ins (L : List Ent) (e : Ent) (k : Int) : cntL (insS ltK keyE e L) k = cntL L k + if e.1 = k then 1 else 0 := by
  unfold cntL
  rw [((q_c4 ltK keyE e L).map (·.1)).count_eq, List.map_cons, List.count_cons]
  simp
theorem cnt_del {L : List Ent} (ha : Asc L) {x : Ent} (hx : x ∈ L) (k : Int) : cntL L k = cntL (delL L x.1 x.2.1) k + if x.1 = k then 1 else 0 := by
  obtain ⟨l1, l2, rfl⟩ := List.append_of_mem hx
  have h1 : ∀ y ∈ l1 ++ l2, keyE y ≠ keyE x := by
    intro y hy e
    rw [Asc, List.pairwise_append, List.pairwise_cons] at ha
    rcases List.mem_append.1 hy with h | h
    · have := ha.2.2 y h x (List.mem_cons_self ..); rw [e] at this; exact ordK.irr _ this
    · have := ha.2.1.1 y h; rw [e] at this; exact ordK.irr _ this
  have h2 : delL (l1 ++ x :: l2) x.1 x.2.1 = l1 ++ l2 := by
    unfold delL
    rw [List.filter_append, List.filter_cons, if_neg (by simp), ← List.filter_append]
    exact List.filter_eq_self.2 fun y hy => by rw [decide_eq_true_eq]; exact h1 y hy
  rw [h2]
  unfold cntL
  rw [List.map_append, List.map_cons, List.map_append, List.count_append, List.count_append, List.count_cons]
  simp
  omega
theorem delL_none {L : List Ent} {k : Int} {f : ByteArray} (h : ∀ x ∈ L, keyE x ≠ (k, f)) : delL L k f = L :=
  List.filter_eq_self.2 fun y hy => by rw [decide_eq_true_eq]; exact h y hy
theorem CntOK.ins {C : List (Int × Int)} {L : List Ent} (h : CntOK C L) (e : Ent) : CntOK (mset C e.1 ((cntL L e.1 : Int) + 1)) (insS ltK keyE e L) := by
  intro k
  rw [q_ai, cnt_ins, h k]
  by_cases hk : e.1 = k
  · subst hk
    rw [if_pos rfl, if_pos rfl, if_neg (by omega)]
    simp
  · rw [if_neg hk, if_neg hk, Nat.add_zero]
theorem CntOK.del {C : List (Int × Int)} {L : List Ent} (h : CntOK C L) (ha : Asc L) (hn : (C.map (·.1)).Nodup) {x : Ent} (hx : x ∈ L) :
    CntOK (if (cntL L x.1 : Int) - 1 = 0 then mdel C x.1 else mset C x.1 ((cntL L x.1 : Int) - 1)) (delL L x.1 x.2.1) := by
  intro k
  have h1 := cnt_del ha hx k
  have h2 := cnt_del ha hx x.1
  rw [if_pos rfl] at h2
  by_cases hz : (cntL L x.1 : Int) - 1 = 0
  · rw [if_pos hz, q_c3 hn]
    by_cases hk : x.1 = k
    · subst hk
      rw [if_pos rfl, if_pos (by omega)]
    · rw [if_neg hk, h k]
      rw [if_neg hk] at h1
      rw [h1, Nat.add_zero]
  · rw [if_neg hz, q_ai]
    by_cases hk : x.1 = k
    · subst hk
      rw [if_pos rfl, if_neg (by omega)]
      congr 1
      omega
    · rw [if_neg hk, h k]
      rw [if_neg hk] at h1
      rw [h1, Nat.add_zero]
end Go.Proofs.YtidlldnlphdhcaaGreatDoor
namespace Go.Proofs.YtidlldnlphdhcaaGreatDoor
open Go.Proofs Go.Shelf Go.RowKit Go.Sort
set_option maxRecDepth 100000
def cmpS9_ren : Go.Shelf.Ren := ⟨fun n => match n with | 106 => 185 | 213 => 227 | 265 => 256 | n => n, fun n => match n with | 9 => 9 | 3 => 3 | n => n, fun n => n⟩
theorem cmpS9 : Lays.n106 Tryz.prog cmpS9_ren where
  mixed := by kernel_rfl
  f106 := Tryz.func185.trans (congrArg some (by kernel_rfl))
  f213 := Tryz.func227.trans (congrArg some (by kernel_rfl))
  f265 := Tryz.func256.trans (congrArg some (by kernel_rfl))
  t3 := Tryz.underlying3
  a3 := Tryz.isAgg3
  z3 := Tryz.sizeOf3
  v3 := Tryz.zeroValue3
  t9 := Tryz.underlying9
  a9 := Tryz.isAgg9
  z9 := Tryz.sizeOf9
  v9 := Tryz.zeroValue9
def cmpI9_ren : Go.Shelf.Ren := ⟨fun n => match n with | 5 => 184 | 7 => 218 | n => n, fun n => match n with | 22 => 3 | 3 => 3 | 4 => 4 | n => n, fun n => n⟩
theorem cmpI9 : SlLaysC2.n5 Tryz.prog cmpI9_ren where
  mixed := by kernel_rfl
  f5 := ⟨Tryz.f184.name, by kernel_rfl, Tryz.func184.trans (congrArg some (by kernel_rfl))⟩
  f7 := ⟨Tryz.f218.name, by kernel_rfl, Tryz.func218.trans (congrArg some (by kernel_rfl))⟩
  t3 := Tryz.underlying3
  a3 := Tryz.isAgg3
  z3 := Tryz.sizeOf3
  v3 := Tryz.zeroValue3
  t4 := Tryz.underlying4
  a4 := Tryz.isAgg4
  z4 := Tryz.sizeOf4
  v4 := Tryz.zeroValue4
  t22 := Tryz.underlying3
  a22 := Tryz.isAgg3
  z22 := Tryz.sizeOf3
  v22 := Tryz.zeroValue3
theorem cmpOr9 (b : Nat) (x y : Int) (w : World) (h0 : w.cell? ⟨b, 0, none⟩ = some (.int .i64 x)) (h1 : w.cell? ⟨b, 1, none⟩ = some (.int .i64 y)) :
    Calls Tryz.prog 183 #[.slice (some ⟨b, 0, none⟩) 2 2] w fun e w' => e = .returned (.int .i64 (if x = 0 then y else x)) ∧ w' = w := by
  generalize hr : (if x = 0 then y else x) = r
  go_enter Tryz.func183, Tryz.ntmps183
  go_wp2
  go_loop [5, 8] (fun _ i => (i = .int .i64 0) ∨ (i = .int .i64 1 ∧ x = 0) ∨ (i = .int .i64 2 ∧ x = 0 ∧ y = 0)) (fun _ i => 2 - (intOf i).toNat)
  case atStart => exact .inl rfl
  case round =>
    rcases hrel with rfl | ⟨rfl, hx⟩ | ⟨rfl, hx, hy⟩
    · by_cases hx : x = 0
      · subst hx
        go_wp2
        go_round
        case rel => exact .inr (.inl ⟨by go_num, by first | trivial | rfl⟩)
        case measure => simp [intOf]
      · have hx' : (x == 0) = false := by simpa using hx
        have hx2 : (x != 0) = true := by simpa using hx
        go_wp2
        go_ret
        rw [if_neg hx] at hr
        subst hr
        exact ⟨rfl, rfl⟩
    · by_cases hy : y = 0
      · subst hy
        go_wp2
        go_round
        case rel => exact .inr (.inr ⟨by go_num, hx, by first | trivial | rfl⟩)
        case measure => simp [intOf]
      · have hy' : (y == 0) = false := by simpa using hy
        have hy2 : (y != 0) = true := by simpa using hy
        go_wp2
        go_ret
        rw [if_pos hx] at hr
        subst hr
        exact ⟨rfl, rfl⟩
    · go_wp2
      go_ret
      rw [if_pos hx, hy] at hr
      subst hr
      exact ⟨rfl, rfl⟩
theorem two0 (W : World) (c1 c2 : Obj) : ((W.alloc c1).alloc c2).heap[W.heap.size]? = some c1 := by
  show ((W.heap.push c1).push c2)[W.heap.size]? = some c1
  rw [Array.getElem?_push, if_neg (by simp), Array.getElem?_push, if_pos rfl]
theorem two1 (W : World) (c1 c2 : Obj) : ((W.alloc c1).alloc c2).heap[W.heap.size + 1]? = some c2 := by
  show ((W.heap.push c1).push c2)[W.heap.size + 1]? = some c2
  rw [Array.getElem?_push, if_pos (by simp)]
theorem one9 (W : World) (c1 : Obj) : (W.alloc c1).heap[W.heap.size]? = some c1 := by
  show (W.heap.push c1)[W.heap.size]? = some c1
  rw [Array.getElem?_push, if_pos rfl]
theorem cell_at {w : World} {b : Nat} {cs : Array Value} {t : TypeId} {f : Nat × Nat} (h : w.heap[b]? = some (.cells cs t f)) (j : Nat) : w.cell? ⟨b, j, none⟩ = cs[j]? := by
  unfold World.cell?
  simp only
  rw [h]
  rfl
def cmpE (x y : Int × ByteArray × Int) : Int := if Lib.compareInt x.1 y.1 = 0 then Lib.compareBytes x.2.1.data.toList y.2.1.data.toList else Lib.compareInt x.1 y.1
set_option maxHeartbeats 4000000 in
theorem order9 (x y : Int × ByteArray × Int) (W : World) : Calls Tryz.prog 127 #[.agg #[.int .i64 x.1, .string x.2.1, .int .i64 x.2.2], .agg #[.int .i64 y.1, .string y.2.1, .int .i64 y.2.2]] W fun e w' => e = .returned (.int .i64 (cmpE x y)) ∧ ∃ q os', w' = grow (W.drewN q) os' := by
  have hI := fun W' => AnyG.cmp_Compare_int cmpI9 x.1 y.1 W'
  have hS := fun W' => Any.strings_Compare cmpS9 x.2.1 y.2.1 W'
  change ∀ W', Calls Tryz.prog 184 _ _ _ at hI
  change ∀ W', Calls Tryz.prog 185 _ _ _ at hS
  unfold cmpE
  generalize Lib.compareInt x.1 y.1 = r1 at hI ⊢
  generalize Lib.compareBytes x.2.1.data.toList y.2.1.data.toList = r2 at hS ⊢
  have hO := fun b w => cmpOr9 b r1 r2 w
  generalize (if r1 = 0 then r2 else r1) = r at hO ⊢
  obtain ⟨x1, x2, x3⟩ := x
  obtain ⟨y1, y2, y3⟩ := y
  go_enter Tryz.func127, Tryz.ntmps127
  go_wp2_with fail
  obtain ⟨W1, hW1⟩ : ∃ W1, (W.alloc (.cells #[.int .i64 x1, .string x2, .int .i64 x3] 208)).alloc (.cells #[.int .i64 y1, .string y2, .int .i64 y3] 208) = W1 := ⟨_, rfl⟩
  obtain ⟨A, hA⟩ : ∃ A, W.heap.size = A := ⟨_, rfl⟩
  obtain ⟨B, hB⟩ : ∃ B, W.heap.size + 1 = B := ⟨_, rfl⟩
  rw [hW1, hB, hA]
  refine wp_region_still_tail 10 (by kernel_rfl) (by kernel_rfl) ?_
  obtain ⟨W2, hW2⟩ : ∃ W2, { W1 with drawn := W1.drawn + 1 } = W2 := ⟨_, rfl⟩
  rw [hW2]
  have d0 : W2.cell? ⟨A, 0, none⟩ = some (.int .i64 x1) := by
    refine (cell_at (w := W2) (b := A) (by rw [← hW2, ← hW1, ← hA]; exact two0 _ _ _) _).trans rfl
  have d1 : W2.cell? ⟨A, 1, none⟩ = some (.string x2) := by
    refine (cell_at (w := W2) (b := A) (by rw [← hW2, ← hW1, ← hA]; exact two0 _ _ _) _).trans rfl
  have e0 : W2.cell? ⟨B, 0, none⟩ = some (.int .i64 y1) := by
    refine (cell_at (w := W2) (b := B) (by rw [← hW2, ← hW1, ← hB]; exact two1 _ _ _) _).trans rfl
  have e1 : W2.cell? ⟨B, 1, none⟩ = some (.string y2) := by
    refine (cell_at (w := W2) (b := B) (by rw [← hW2, ← hW1, ← hB]; exact two1 _ _ _) _).trans rfl
  simp only [List.take_succ_cons, List.take_zero, List.drop_succ_cons, List.drop_zero]
  repeat still_step
  still_call (hI _)
  repeat still_step
  still_call (hS _)
  refine wpStill_nil ?_
  go_wp2_with (go_at_call 183; refine (hO _ _ ((cell_at (one9 _ _) 0).trans rfl) ((cell_at (one9 _ _) 1).trans rfl)).mono ?_; rintro e w' ⟨rfl, rfl⟩)
  go_ret
  refine ⟨rfl, 1, #[.cells #[.int .i64 x1, .string x2, .int .i64 x3] 208] ++ #[.cells #[.int .i64 y1, .string y2, .int .i64 y3] 208] ++ #[.cells #[.int .i64 r1, .int .i64 r2] 3], ?_⟩
  rw [← hW2, ← hW1]
  unfold grow World.drewN World.alloc
  simp only [World.mk.injEq, true_and, and_true]
  apply Array.ext'
  simp
end Go.Proofs.YtidlldnlphdhcaaGreatDoor
namespace Go.H
set_option linter.unusedSimpArgs false
set_option linter.unusedVariables false
open Go.RowKit Go.Sort Go.Shelf Go.Proofs
section
variable {α : Type} [Inhabited α] {enc : α → List Value} {size : Nat} {h : Heap} {R : List Asn}
theorem flatK_eq (henc : ∀ x, (enc x).length = size) (hsz : 0 < size) (d : Array α) : flatK enc size d = (d.toList.flatMap enc).toArray := by
  apply Array.ext_getElem?
  intro t
  have hlen : (d.toList.flatMap enc).length = d.size * size := by rw [q_at henc]; simp
  by_cases ht : t < d.size * size
  · have hq : t / size < d.size := by rw [Nat.div_lt_iff_lt_mul hsz]; exact ht
    have hr : t % size < size := Nat.mod_lt _ hsz
    have h1 := get_flatK enc size d t ht
    rw [getElem!_pos _ t (by simpa using ht)] at h1
    have hx : d.toList[t / size]? = some d[t / size] := by simp [hq]
    have hv : (enc d[t / size])[t % size]? = some ((enc d[t / size])[t % size]!) := by
      rw [List.getElem?_eq_getElem (by rw [henc]; exact hr), getElem!_pos _ _ (by rw [henc]; exact hr)]
    have h2 := flat_get henc d.toList _ _ hx _ _ hv
    rw [show t / size * size + t % size = t from by rw [Nat.mul_comm]; exact Nat.div_add_mod t size] at h2
    rw [Array.getElem?_eq_getElem (by simpa using ht), h1, List.getElem?_toArray, h2, getElem!_pos d _ hq]
  · rw [Array.getElem?_eq_none (by simp; omega), List.getElem?_toArray, List.getElem?_eq_none (by omega)]
theorem sort_own (henc : ∀ x, (enc x).length = size) (hsz : 0 < size) (h1 : ∀ x, ∀ v ∈ enc x, v.oneCell' = true) {P : Program} {ρ : Ren} (L : SlLaysF0.n6 P ρ) (aE : ∀ w, (isAgg (ρ.t 24)).run P w = .ok true w) (zE : ∀ w, (Go.sizeOf (ρ.t 24)).run P w = .ok size w)
    (cf : α → α → Int) (hO : SWO (ltOf cf)) (g : Nat) (eg : ∀ args w, (callFunc g args).run P w = .ok (.enter g args) w)
    (hcmp : ∀ x y W, Calls P g #[.agg (enc x).toArray, .agg (enc y).toArray] W fun e w' => e = .returned (.int .i64 (cf x y)) ∧ ∃ q os', w' = grow (W.drewN q) os')
    {s : Slc} {xs : List α} (hs : sat h (ownS enc size s xs :: R)) (hl : xs.length < 4611686018427387904) {Q : Value → Heap → Prop}
    (hq : ∀ (ys : List α) h', ys.Perm xs → ys.Pairwise (fun a b => ltOf cf b a = false) → sat h' (ownS enc size s ys :: R) → Q (.tuple #[]) h') :
    HCalls P (ρ.f 6) #[.slice s.a s.len s.cap, .func (.func g) #[] #[]] h Q := fun w hw => by
  subst hw
  rcases q_bq hs with ⟨g1, g2, rfl, hs1⟩ | ⟨b, o, cs, ho, hs1⟩
  · have hs0 := hs.own_len
    rw [List.length_nil] at hs0
    rw [hs0]
    refine (AnyF.slices_SortFunc_none L s.a s.cap _ w).mono ?_
    rintro e w' ⟨rfl, rfl⟩
    exact ⟨_, rfl, ⟨rfl, rfl, rfl⟩, hq [] w'.heap (List.Perm.refl _) List.Pairwise.nil hs⟩
  · have hlen := ho.len
    have hcs := ho.csize
    have hle := ho.le
    have hmul : s.len * size ≤ s.cap * size := Nat.mul_le_mul_right _ hle
    rw [Nat.add_mul] at hcs
    have hF : flatK enc size xs.toArray = (xs.flatMap enc).toArray := flatK_eq henc hsz _
    have hsize : (xs.flatMap enc).length = s.len * size := by rw [q_at henc, hlen]
    have hH : HoldsK enc size w b (o * size) xs.toArray := by
      unfold HoldsK Holds
      rw [hF]
      intro j hj
      have hj' : j < s.len * size := by simpa [hsize] using hj
      refine ⟨?_, hs1.free _⟩
      have h2 : w.cell? ⟨b, o * size + j, none⟩ = cs[o * size + j]? := hs1.cell _
      have h3 : ((cs.toList.drop (o * size)).take (s.len * size))[j]? = cs[o * size + j]? := by
        rw [List.getElem?_take, if_pos hj', List.getElem?_drop]
        simp
      rw [h2, ← h3, ho.front, getElem!_pos _ j hj]
      rw [List.getElem?_eq_getElem (by simpa using hj)]
      rfl
    have hblk : b < w.heap.size := hs1.cells_lt
    rw [ho.a]
    have hsl : (Value.slice (some ⟨b, o * size, none⟩) s.len s.cap) = .slice (some ⟨b, o * size, none⟩) xs.toArray.size s.cap := by rw [hlen]; rfl
    rw [hsl]
    refine (AnyQ.slices_SortFunc L size aE zE enc henc h1 cf hO g #[] b (o * size) s.cap xs.toArray w eg (fun m os dk _ x y => hcmp x y _) hH hblk (by simpa using hl)).mono ?_
    rintro e w' ⟨rfl, d', n, os, ⟨hps, -, hpp⟩, hsrt, rfl⟩
    have hperm : d'.toList.Perm xs := by
      rw [Array.extract_eq_self_of_le (by omega), Array.extract_eq_self_of_le (by omega)] at hpp
      exact hpp
    refine ⟨_, rfl, ⟨rfl, rfl, rfl⟩, hq d'.toList _ hperm ?_ ?_⟩
    · rw [List.pairwise_iff_getElem]
      intro i j hi hj hij
      have hi' : i < d'.size := by simpa using hi
      have hj' : j < d'.size := by simpa using hj
      have := hsrt i j (Nat.zero_le _) hij (by omega)
      rw [getElem!_pos d' i hi', getElem!_pos d' j hj'] at this
      simpa using this
    · have hF' : flatK enc size d' = (d'.toList.flatMap enc).toArray := flatK_eq henc hsz _
      have hsize' : (d'.toList.flatMap enc).length = s.len * size := by rw [q_at henc, hlen, hperm.length_eq]
      obtain ⟨T, hb⟩ := q_cc.1 hs1
      have hget := hb.get
      have hs2 : sat (putRowK enc size (Sort.ahead w n) b (o * size) d').heap (blk b (.cells (putCells id (o * size) (flatK enc size d') cs) T (0, 0)) :: R) := by
        refine hb.turn ?_ fun k hk => ?_
        · show (w.heap.modify b _)[b]? = _
          rw [Array.getElem?_modify, if_pos rfl, hget]
          rfl
        · show (w.heap.modify b _)[k]? = _
          rw [Array.getElem?_modify, if_neg (fun e => hk e.symm)]
      have hs3 : sat (sortWorldK enc size w b (o * size) n d' os).heap (blk b (.cells (putCells id (o * size) (flatK enc size d') cs) T (0, 0)) :: R) := by
        refine hs2.grow fun k ob hk => ?_
        show ((putRowK enc size (Sort.ahead w n) b (o * size) d').heap ++ os)[k]? = some ob
        rw [Array.getElem?_append_left (Array.getElem?_eq_some_iff.1 hk).1]
        exact hk
      refine q_cq (b := b) (o := o) ⟨ho.a, ho.le, by rw [hlen, hperm.length_eq], ?_, ?_⟩ (q_cc.2 ⟨T, hs3⟩)
      · rw [Nat.add_mul]
        simpa [putCells] using hcs
      · rw [hF']
        apply List.ext_getElem?
        intro j
        by_cases hj : j < s.len * size
        · rw [List.getElem?_take, if_pos hj, List.getElem?_drop, Array.getElem?_toList, putCells, Array.getElem?_mapIdx]
          have hlt : o * size + j < cs.size := by omega
          rw [Array.getElem?_eq_getElem hlt]
          simp only [Option.map_some]
          rw [if_pos ⟨by omega, by simp [hsize']; omega⟩, Nat.add_sub_cancel_left]
          rw [getElem!_pos _ j (by simpa [hsize'] using hj), List.getElem?_eq_getElem (by omega)]
          rfl
        · rw [List.getElem?_take, if_neg hj, List.getElem?_eq_none (by omega)]
end
end Go.H
namespace Go.Proofs.YtidlldnlphdhcaaGreatDoor
open Go.H Go.Proofs Go.Shelf Go.Sort
set_option linter.unusedSimpArgs false
set_option linter.unusedVariables false
set_option maxRecDepth 100000
def sortE9_ren : Go.Shelf.Ren := ⟨fun n => match n with | 6 => 126 | 15 => 123 | 14 => 182 | 28 => 180 | 29 => 181 | 20 => 219 | 21 => 220 | 22 => 221 | 23 => 222 | 24 => 223 | 25 => 224 | 26 => 225 | 27 => 226 | 46 => 253 | 47 => 214 | 48 => 215 | 49 => 254 | 50 => 255 | 57 => 268 | n => n, fun n => match n with | 22 => 205 | 24 => 208 | 25 => 267 | 3 => 3 | 39 => 263 | 0 => 0 | 53 => 315 | 55 => 317 | 4 => 4 | 46 => 308 | 45 => 307 | 50 => 180 | 5 => 5 | 9 => 9 | 66 => 343 | 70 => 347 | 76 => 378 | 77 => 361 | n => n, fun n => n⟩
theorem sortE9 : SlLaysF0.n6 Tryz.prog sortE9_ren where
  mixed := by kernel_rfl
  f6 := ⟨Tryz.f126.name, by kernel_rfl, Tryz.func126.trans (congrArg some (by kernel_rfl))⟩
  f14 := ⟨Tryz.f182.name, by kernel_rfl, Tryz.func182.trans (congrArg some (by kernel_rfl))⟩
  f15 := Tryz.func123.trans (congrArg some (by kernel_rfl))
  f20 := ⟨Tryz.f219.name, by kernel_rfl, Tryz.func219.trans (congrArg some (by kernel_rfl))⟩
  f21 := ⟨Tryz.f220.name, by kernel_rfl, Tryz.func220.trans (congrArg some (by kernel_rfl))⟩
  f22 := ⟨Tryz.f221.name, by kernel_rfl, Tryz.func221.trans (congrArg some (by kernel_rfl))⟩
  f23 := ⟨Tryz.f222.name, by kernel_rfl, Tryz.func222.trans (congrArg some (by kernel_rfl))⟩
  f24 := ⟨Tryz.f223.name, by kernel_rfl, Tryz.func223.trans (congrArg some (by kernel_rfl))⟩
  f25 := ⟨Tryz.f224.name, by kernel_rfl, Tryz.func224.trans (congrArg some (by kernel_rfl))⟩
  f26 := ⟨Tryz.f225.name, by kernel_rfl, Tryz.func225.trans (congrArg some (by kernel_rfl))⟩
  f27 := ⟨Tryz.f226.name, by kernel_rfl, Tryz.func226.trans (congrArg some (by kernel_rfl))⟩
  f28 := Tryz.func180.trans (congrArg some (by kernel_rfl))
  f29 := Tryz.func181.trans (congrArg some (by kernel_rfl))
  f46 := ⟨Tryz.f253.name, by kernel_rfl, Tryz.func253.trans (congrArg some (by kernel_rfl))⟩
  f47 := Tryz.func214.trans (congrArg some (by kernel_rfl))
  f48 := Tryz.func215.trans (congrArg some (by kernel_rfl))
  f49 := ⟨Tryz.f254.name, by kernel_rfl, Tryz.func254.trans (congrArg some (by kernel_rfl))⟩
  f50 := ⟨Tryz.f255.name, by kernel_rfl, Tryz.func255.trans (congrArg some (by kernel_rfl))⟩
  f57 := ⟨Tryz.f268.name, by kernel_rfl, Tryz.func268.trans (congrArg some (by kernel_rfl))⟩
  t0 := Tryz.underlying0
  a0 := Tryz.isAgg0
  z0 := Tryz.sizeOf0
  v0 := Tryz.zeroValue0
  t3 := Tryz.underlying3
  a3 := Tryz.isAgg3
  z3 := Tryz.sizeOf3
  v3 := Tryz.zeroValue3
  t4 := Tryz.underlying4
  a4 := Tryz.isAgg4
  z4 := Tryz.sizeOf4
  v4 := Tryz.zeroValue4
  t5 := Tryz.underlying5
  a5 := Tryz.isAgg5
  z5 := Tryz.sizeOf5
  v5 := Tryz.zeroValue5
  t9 := Tryz.underlying9
  a9 := Tryz.isAgg9
  z9 := Tryz.sizeOf9
  v9 := Tryz.zeroValue9
  t22 := Tryz.underlying205
  a22 := Tryz.isAgg205
  z22 := Tryz.sizeOf205
  v22 := Tryz.zeroValue205
  t25 := Tryz.underlying267
  a25 := Tryz.isAgg267
  z25 := Tryz.sizeOf267
  v25 := Tryz.zeroValue267
  t39 := Tryz.underlying263
  a39 := Tryz.isAgg263
  z39 := Tryz.sizeOf263
  v39 := Tryz.zeroValue263
  t45 := Tryz.underlying307
  a45 := Tryz.isAgg307
  z45 := Tryz.sizeOf307
  v45 := Tryz.zeroValue307
  t46 := Tryz.underlying308
  a46 := Tryz.isAgg308
  z46 := Tryz.sizeOf308
  v46 := Tryz.zeroValue308
  t50 := Tryz.underlying180
  a50 := Tryz.isAgg180
  z50 := Tryz.sizeOf180
  v50 := Tryz.zeroValue180
  t53 := Tryz.underlying315
  a53 := Tryz.isAgg315
  z53 := Tryz.sizeOf315
  v53 := Tryz.zeroValue315
  t55 := Tryz.underlying317
  a55 := Tryz.isAgg317
  z55 := Tryz.sizeOf317
  v55 := Tryz.zeroValue317
  t66 := Tryz.underlying343
  a66 := Tryz.isAgg343
  z66 := Tryz.sizeOf343
  v66 := Tryz.zeroValue343
  t70 := Tryz.underlying347
  a70 := Tryz.isAgg347
  z70 := Tryz.sizeOf347
  v70 := Tryz.zeroValue347
  t76 := Tryz.underlying378
  a76 := Tryz.isAgg378
  z76 := Tryz.sizeOf378
  v76 := Tryz.zeroValue378
  t77 := Tryz.underlying361
  a77 := Tryz.isAgg361
  z77 := Tryz.sizeOf361
  v77 := Tryz.zeroValue361
theorem cmpInt_iff (a b : Int) : (Lib.compareInt a b < 0 ↔ a < b) ∧ (Lib.compareInt a b = 0 ↔ a = b) := by
  unfold Lib.compareInt
  by_cases h1 : a < b
  · rw [if_pos h1]; constructor <;> constructor <;> intro _ <;> omega
  · rw [if_neg h1]
    by_cases h2 : b < a
    · rw [if_pos h2]; constructor <;> constructor <;> intro _ <;> omega
    · rw [if_neg h2]; constructor <;> constructor <;> intro _ <;> omega
theorem cmpB_lt : ∀ (a b : List UInt8), Lib.compareBytes a b < 0 ↔ a < b
  | [], [] => by simp [Lib.compareBytes]
  | [], b :: l => by simp [Lib.compareBytes]
  | a :: l, [] => by simp [Lib.compareBytes]
  | a :: l, b :: m => by
    unfold Lib.compareBytes
    rw [List.cons_lt_cons_iff]
    by_cases h1 : a < b
    · simp [h1]
    · rw [if_neg h1]
      by_cases h2 : b < a
      · rw [if_pos h2]
        have : a ≠ b := fun e => by subst e; exact h1 h2
        simp [h1, this]
      · rw [if_neg h2]
        have e : a = b := by
          apply UInt8.toNat_inj.1
          have h3 : ¬ a.toNat < b.toNat := fun h => h1 (UInt8.lt_iff_toNat_lt.2 h)
          have h4 : ¬ b.toNat < a.toNat := fun h => h2 (UInt8.lt_iff_toNat_lt.2 h)
          omega
        rw [cmpB_lt l m]
        simp [h1, e]
theorem ltE_iff (x y : Ent) : ltOf cmpE x y = decide (ltK (keyE x) (keyE y)) := by
  unfold ltOf
  rw [decide_eq_decide]
  unfold cmpE ltK
  have h1 := cmpInt_iff x.1 y.1
  by_cases h0 : Lib.compareInt x.1 y.1 = 0
  · rw [if_pos h0, cmpB_lt]
    have e := h1.2.1 h0
    constructor
    · intro h; exact .inr ⟨e, h⟩
    · rintro (h | ⟨_, h⟩)
      · simp only at h; omega
      · exact h
  · rw [if_neg h0, h1.1]
    constructor
    · intro h; exact .inl h
    · rintro (h | ⟨e, _⟩)
      · exact h
      · exact absurd (h1.2.2 e) h0
theorem swoE : SWO (ltOf cmpE) where
  irrefl x := by rw [ltE_iff]; simpa using ordK.irr _
  trans x y z h1 h2 := by
    rw [ltE_iff, decide_eq_true_eq] at *
    exact ordK.trans h1 h2
  ntrans x y z h1 h2 := by
    rw [ltE_iff, decide_eq_false_iff_not] at *
    intro h3
    rcases ordK.tri (keyE x) (keyE y) with e | e | e
    · rw [e] at h3; exact h2 h3
    · exact h1 e
    · rcases ordK.tri (keyE y) (keyE z) with e' | e' | e'
      · rw [e'] at e; exact ordK.irr _ (ordK.trans e h3)
      · exact h2 e'
      · exact ordK.irr _ (ordK.trans (ordK.trans e' e) h3)
instance : Inhabited Ent := ⟨(0, ByteArray.mk #[], 0)⟩
theorem Sort9_spec {h : Heap} {R : List Asn} {s : Slc} {es : List Ent} (hs : sat h (ownS encE 3 s es :: R)) (hl : es.length ≤ 100000) {Q : Value → Heap → Prop}
    (hq : ∀ (ys : List Ent) h', ys.Perm es → ys.Pairwise (fun a b => ¬ ltK (keyE b) (keyE a)) → sat h' (ownS encE 3 s ys :: R) → Q (.tuple #[]) h') :
    HCalls Tryz.prog 126 #[.slice s.a s.len s.cap, .func (.func 127) #[] #[]] h Q :=
  sort_own eE_len (by decide) eE_cell sortE9 Tryz.isAgg208 Tryz.sizeOf208 cmpE swoE 127 (enters_of Tryz.func127 (by kernel_rfl) rfl) (fun x y W => order9 x y W) hs (by omega) fun ys h' hp hpw hs' =>
    hq ys h' hp (hpw.imp fun {a b} hab => by rw [ltE_iff, decide_eq_false_iff_not] at hab; exact hab) hs'
end Go.Proofs.YtidlldnlphdhcaaGreatDoor
namespace Go.Proofs.YtidlldnlphdhcaaGreatDoor
open Go.H Go.Proofs
set_option linter.unusedSimpArgs false
set_option linter.unusedVariables false
set_option synthInstance.maxSize 100000
set_option synthInstance.maxHeartbeats 400000
set_option maxRecDepth 100000
variable {h h0 : Heap} {R : List Asn}
def trieA (t : Nat) (L : List Ent) : Asn := exA fun x : Nds × List (Int × Int) => star (pr (TriAbs x.1 L ∧ CntOK x.2 L)) (trM t x.1 x.2)
theorem q_aw {t : Nat} {L : List Ent} : sat h (trieA t L :: R) ↔ ∃ N C, TriAbs N L ∧ CntOK C L ∧ sat h (trM t N C :: R) := by
  unfold trieA
  rw [sat.ex_iff]
  constructor
  · rintro ⟨⟨N, C⟩, hs⟩
    rw [sat.star_iff, sat.pr_iff] at hs
    exact ⟨N, C, hs.1.1, hs.1.2, hs.2⟩
  · rintro ⟨N, C, h1, h2, hs⟩
    refine ⟨(N, C), ?_⟩
    rw [sat.star_iff, sat.pr_iff]
    exact ⟨⟨h1, h2⟩, hs⟩
theorem cnt_le (L : List Ent) (k : Int) : cntL L k ≤ L.length := by
  unfold cntL
  have := List.count_le_length (a := k) (l := L.map (·.1))
  simpa using this
theorem tNew_spec (hs : sat h R) {Q : Value → Heap → Prop} (hq : ∀ t h', sat h' (trieA t [] :: R) → Q (at9 t) h') : HCalls Tryz.prog 28 #[] h Q := by
  refine triNew_spec hs fun t nd h' h1 h2 hs' => hq t h' (q_aw.2 ⟨_, _, ⟨by simp, List.Pairwise.nil, ?_⟩, ?_, hs'⟩)
  · intro p k q
    constructor
    · intro he
      exfalso
      unfold ent at he
      rw [q_af, mget_nil] at he
      by_cases e : ([] : Path) = p
      · rw [if_pos e] at he
        rw [Option.bind_some, h1] at he
        simp at he
      · rw [if_neg e] at he
        simp at he
    · rintro ⟨f, -, hm⟩
      simp at hm
  · intro k
    simp [cntL]
theorem tAdd_spec {t : Nat} {L : List Ent} (ht : TP h0) {id q : Int} {f : ByteArray} (hsz : f.size ≤ 9223372036854775807) (hl : L.length ≤ 100000) (hs : sat h (trieA t L :: old h0 :: R)) {Q : Value → Heap → Prop}
    (hbad : filterOK f = false → ∀ h', sat h' (trieA t L :: old h0 :: R) → Q (.int .u8 143) h')
    (hqos : filterOK f = true → (q < 0 ∨ 2 < q) → ∀ h', sat h' (trieA t L :: old h0 :: R) → Q (.int .u8 155) h')
    (hset : filterOK f = true → 0 ≤ q → q ≤ 2 → ∀ i x, L[i]? = some x → keyE x = (id, f) → ∀ h', sat h' (trieA t (L.set i (id, f, q)) :: old h0 :: R) → Q (.int .u8 0) h')
    (hfull : filterOK f = true → 0 ≤ q → q ≤ 2 → (∀ x ∈ L, keyE x ≠ (id, f)) → 64 ≤ cntL L id → ∀ h', sat h' (trieA t L :: old h0 :: R) → Q (.int .u8 151) h')
    (hadd : filterOK f = true → 0 ≤ q → q ≤ 2 → (∀ x ∈ L, keyE x ≠ (id, f)) → cntL L id < 64 → ∀ h', sat h' (trieA t (insS ltK keyE (id, f, q) L) :: old h0 :: R) → Q (.int .u8 0) h') :
    HCalls Tryz.prog 109 #[at9 t, vEnt id f q] h Q := by
  obtain ⟨N, C, hA, hC, hs1⟩ := q_aw.1 hs
  have hg := hC.getD id
  refine Add_spec ht hsz hs1 (fun h1 h' hs' => hbad h1 h' (q_aw.2 ⟨N, C, hA, hC, hs'⟩)) (fun h1 h2 h' hs' => hqos h1 h2 h' (q_aw.2 ⟨N, C, hA, hC, hs'⟩)) (fun h1 h2 h3 q0 h4 N' h' h5 hs' => ?_)
    (fun h1 h2 h3 h4 h5 h' hs' => hfull h1 h2 h3 ((hA.none f id).1 h4) (by rw [hg] at h5; omega) h' (q_aw.2 ⟨N, C, hA, hC, hs'⟩)) (fun h1 h2 h3 h4 h5 N' h' h6 hs' => ?_)
  · have hm := (hA.get f id q0).1 h4
    obtain ⟨i, hi⟩ := List.mem_iff_getElem?.1 hm
    refine hset h1 h2 h3 i _ hi rfl h' (q_aw.2 ⟨N', C, hA.set hi rfl h1 h5, fun k => ?_, hs'⟩)
    rw [cnt_keys (q_hm (e := (id, f, q)) hi rfl)]
    exact hC k
  · have hno := (hA.none f id).1 h4
    rw [hg] at h5 hs'
    rw [q_al (by have := cnt_le L id; omega) (by have := cnt_le L id; omega)] at hs'
    exact hadd h1 h2 h3 hno (by omega) h' (q_aw.2 ⟨N', _, hA.ins hno h1 h6, hC.ins (id, f, q), hs'⟩)
theorem trM_cnt {t : Nat} {N : Nds} {C : List (Int × Int)} (hs : sat h (trM t N C :: R)) : (C.map (·.1)).Nodup ∧ ∀ p nd, mget N p = some nd → (nd.q.map (·.1)).Nodup ∧ (nd.nx.map (·.1)).Nodup := by
  obtain ⟨rb, cm, hT, hs1⟩ := q_cj.1 hs
  exact ⟨hs1.p2.map_nodup, fun p nd hp => q_hx hp hs1.p1⟩
theorem tRemove_spec {t : Nat} {L : List Ent} (ht : TP h0) {id : Int} {f : ByteArray} (hsz : f.size ≤ 16777216) (hl : L.length ≤ 100000) (hs : sat h (trieA t L :: old h0 :: R)) {Q : Value → Heap → Prop}
    (hq : ∀ h', sat h' (trieA t (delL L id f) :: old h0 :: R) → Q (.bool (decide ((delL L id f).length < L.length))) h') :
    HCalls Tryz.prog 111 #[at9 t, .int .i64 id, .string f] h Q := by
  obtain ⟨N, C, hA, hC, hs1⟩ := q_aw.1 hs
  have hg := hC.getD id
  refine Remove_spec ht hsz hs1 (fun hn h' hs' => ?_) (fun q0 hq0 N' h' hN hs' => ?_)
  · have hno := (hA.none f id).1 hn
    have e := delL_none hno
    rw [e] at hq
    have := hq h' (q_aw.2 ⟨N, C, hA, hC, hs'⟩)
    simpa using this
  · have hm := (hA.get f id q0).1 hq0
    have hlt : (delL L id f).length < L.length := by
      have := cnt_del hA.asc hm id
      rw [if_pos rfl] at this
      refine Nat.lt_of_le_of_ne (List.length_filter_le _ _) fun e => ?_
      have := List.length_filter_eq_length_iff.1 e _ hm
      simp at this
    have hC' := hC.del hA.asc (trM_cnt hs1).1 hm
    rw [hg] at hs'
    rw [q_al (by have := cnt_le L id; omega) (by have := cnt_le L id; omega)] at hs'
    have := hq h' (q_aw.2 ⟨N', _, hA.del hN, hC', hs'⟩)
    rw [decide_eq_true hlt] at this
    exact this
end Go.Proofs.YtidlldnlphdhcaaGreatDoor
namespace Go.Proofs.YtidlldnlphdhcaaGreatDoor
open Go.H Go.Proofs Go.Lib
set_option linter.unusedSimpArgs false
set_option linter.unusedVariables false
set_option synthInstance.maxSize 100000
set_option synthInstance.maxHeartbeats 400000
variable {h h0 : Heap} {R : List Asn}
theorem EqualFunc_spec {s t : Slc} {xs ys : List ByteArray} (hr : RowAt eS 1 h s xs) (ht : RowAt eS 1 h t ys) (hl : xs.length ≤ 1000000) {Q : Value → Heap → Prop} (hq : Q (.bool (eqL xs ys)) h) :
    HCalls Tryz.prog 37 #[.slice s.a s.len s.cap, .slice t.a t.len t.cap, .func (.func 38) #[] #[]] h Q := by
  refine q_gt s t _ h Q ?_
  unfold q_da
  have hls := hr.1
  have hlt := ht.1
  (try dsimp only); rw [HM.ite_apply]
  by_cases hne : xs.length = ys.length
  · rw [if_neg (by simp [hls, hlt, hne])]
    (try dsimp only); rw [HM.bind_apply]
    refine q_cv (γ := Nat) (fun g c h' => h' = h ∧ c.1 = (((xs.length - g : Nat)) : Int) ∧ g ≤ xs.length ∧ eqL xs ys = eqL (xs.drop (xs.length - g)) (ys.drop (xs.length - g))) (fun g => g) xs.length ⟨rfl, by simp, Nat.le_refl _, by simp⟩ ?_
    rintro g ⟨c, ⟨⟩⟩ h' ⟨rfl, hc, hg, hf⟩
    simp only at hc
    subst hc
    (try dsimp only); rw [HM.ite_apply]
    by_cases hi : xs.length - g < xs.length
    · rw [if_pos (by simp only [decide_eq_true_eq, hls]; omega)]
      obtain ⟨x, hx⟩ : ∃ x, xs[xs.length - g]? = some x := ⟨_, List.getElem?_eq_getElem hi⟩
      obtain ⟨y, hy⟩ : ∃ y, ys[xs.length - g]? = some y := ⟨_, List.getElem?_eq_getElem (by omega)⟩
      rw [filtG_at hx, filtG_at hy] at hf
      (try dsimp only); rw [HM.bind_apply]
      refine q_bi hr hx fun a ha => ?_
      refine ⟨x, by have := ha 0 (.string x) rfl; rwa [Go.H.add_zero] at this, ?_⟩
      (try dsimp only); rw [HM.bind_apply]
      refine q_bi ht hy fun a' ha' => ?_
      refine ⟨y, by have := ha' 0 (.string y) rfl; rwa [Go.H.add_zero] at this, ?_⟩
      refine ⟨38, #[], #[], rfl, Tryz.call38, ?_⟩
      refine q_is x y h' _ ?_
      unfold q_ey
      have fin : ∀ z : Bool, z = (decide (x = plusS) || decide (x = y)) → (if (!z) = true then Q (.bool false) h' else Go.H.Next (fun g (c : Int × Unit) h'' => h'' = h' ∧ c.1 = (((xs.length - g : Nat)) : Int) ∧ g ≤ xs.length ∧ eqL xs ys = eqL (xs.drop (xs.length - g)) (ys.drop (xs.length - g))) (fun g => g) g (IntKind.wrap .i64 ((((xs.length - g : Nat)) : Int) + 1), ()) h') := by
        rintro z rfl
        simp only [eqL] at hf
        have hnext : xs.length - g + 1 = xs.length - (g - 1) := by omega
        rw [hnext] at hf
        cases hz : (decide (x = plusS) || decide (x = y)) with
        | false =>
          rw [hz, Bool.false_and] at hf
          rw [hf] at hq
          rw [if_pos (by rfl)]
          exact hq
        | true =>
          rw [hz, Bool.true_and] at hf
          rw [if_neg (by simp)]
          exact .mk (g - 1) (by omega) ⟨rfl, by simp only; rw [q_al (by omega) (by omega)]; omega, by omega, hf⟩
      refine q_ad (fun z h'' => h'' = h' ∧ z.1 = (decide (x = plusS) || decide (x = y))) ?_ ?_
      · (try dsimp only); rw [HM.ite_apply]
        by_cases h1 : x = plusS
        · rw [if_pos (by simpa [plusS] using h1)]
          exact ⟨rfl, by simp [h1]⟩
        · rw [if_neg (by simpa [plusS] using h1)]
          exact ⟨rfl, by simp [h1]⟩
      rintro ⟨z, ⟨⟩⟩ h'' ⟨rfl, hz⟩
      refine ⟨z, rfl, ?_⟩
      have hfin := fin z hz
      (try dsimp only); rw [HM.ite_apply]
      by_cases hzz : (!z) = true
      · rw [if_pos hzz] at hfin ⊢
        exact hfin
      · rw [if_neg hzz] at hfin ⊢
        exact hfin
    · rw [if_neg (by simp only [decide_eq_true_eq, hls]; omega)]
      simp only [Sum.elim_inl, Sum.elim_inr, HM.pure_apply]
      have h1 : xs.drop (xs.length - g) = [] := by simp; omega
      have h2 : ys.drop (xs.length - g) = [] := by simp; omega
      rw [h1, h2] at hf
      rw [hf] at hq
      exact hq
  · have hfalse : ∀ (xs ys : List ByteArray), xs.length ≠ ys.length → eqL xs ys = false := by
      intro xs
      induction xs with
      | nil => intro ys hh; cases ys with
        | nil => exact absurd rfl hh
        | cons => rfl
      | cons x xs ih => intro ys hh; cases ys with
        | nil => rfl
        | cons y ys => simp only [eqL, ih ys (by simpa using hh), Bool.and_false]
    rw [hfalse xs ys hne] at hq
    rw [if_pos (by simp [hls, hlt]; omega)]
    exact hq
theorem byte_is (b c : UInt8) : ((b.toNat : Int) == (c.toNat : Int)) = decide (b = c) := by
  by_cases h : b = c
  · simp [h]
  · rw [decide_eq_false h]
    simp only [beq_eq_false_iff_ne, ne_eq]
    intro e
    exact h (UInt8.toNat_inj.1 (by omega))
set_option maxRecDepth 100000 in
theorem Match_spec (hs : sat h (old h0 :: R)) (ht : TP h0) {f n : ByteArray} (hfz : f.size ≤ 9223372036854775807) (hnz : n.size ≤ 9223372036854775807) {Q : Value → Heap → Prop}
    (hq : ∀ h', sat h' (old h0 :: R) → Q (.bool (matchB f n)) h') : HCalls Tryz.prog 14 #[.string f, .string n] h Q := by
  refine topic_Match_calls f n h Q ?_
  unfold topic_Match
  refine q_ad (fun x h' => sat h' (old h0 :: R) ∧ x.1 = !(filterOK f && nameOK n)) ?_ ?_
  · refine q_ab (q_gp hs ht hfz fun h1 hs1 => ⟨_, rfl, ?_⟩)
    unfold filtC
    (try dsimp only); rw [HM.ite_apply]
    cases hf : filterOK f with
    | false => rw [if_pos (by rfl)]; exact ⟨hs1, rfl⟩
    | true =>
      rw [if_neg (by simp)]
      refine q_ab (q_c0 hs1 ht hnz fun h2 hs2 => ⟨_, rfl, ?_⟩)
      unfold nameC
      cases hn : nameOK n <;> exact ⟨hs2, rfl⟩
  rintro ⟨x, ⟨⟩⟩ h1 ⟨hs1, hx⟩
  simp only at hx
  subst hx
  unfold matchB at hq
  (try dsimp only); rw [HM.ite_apply]
  cases hok : (filterOK f && nameOK n) with
  | false =>
    rw [hok] at hq
    rw [if_pos (by rfl)]
    exact hq _ hs1
  | true =>
  rw [hok, Bool.true_and] at hq
  rw [if_neg (by simp)]
  rw [Bool.and_eq_true] at hok
  have hsf := q_b1.1 (q_bc hok.1)
  have hsn := q_b1.1 (q_hy hok.2)
  have hgf : filtG (levels f) = true := by
    have := hok.1
    unfold filterOK at this
    rw [Bool.and_eq_true] at this
    exact this.2
  refine q_ad (fun x h' => h' = h1 ∧ x.1 = dollarB f n) ?_ ?_
  · unfold dollarB
    refine ⟨n.get! 0, by decide, get_bang (k := 0) (by omega), ?_⟩
    (try dsimp only); rw [HM.ite_apply]
    have e36 := byte_is (n.get! 0) 36
    by_cases h36 : n.get! 0 = 36
    · rw [if_pos (by rw [show (36 : Int) = ((36 : UInt8).toNat : Int) from rfl, e36, h36]; rfl)]
      refine ⟨0, 1, ⟨rfl, by omega⟩, rfl, ?_⟩
      (try dsimp only); rw [HM.ite_apply]
      by_cases h43 : f.get! 0 = 43
      · rw [if_pos (by simpa using (first_one hsf.2.1 43).2 h43)]
        exact ⟨rfl, by simp [h36, h43]⟩
      · rw [if_neg (by simpa using fun e => h43 ((first_one hsf.2.1 43).1 e))]
        refine ⟨0, 1, ⟨rfl, by omega⟩, rfl, rfl, ?_⟩
        have e35 : decide (f.extract 0 1 = ByteArray.mk #[35]) = decide (f.get! 0 = 35) := by rw [decide_eq_decide]; exact first_one hsf.2.1 35
        simp only [h36, h43, decide_true, decide_false, Bool.true_and, Bool.false_or]
        exact e35
    · rw [if_neg (by rw [show (36 : Int) = ((36 : UInt8).toNat : Int) from rfl, e36]; simpa using h36)]
      exact ⟨rfl, by simp [h36]⟩
  rintro ⟨x, ⟨⟩⟩ h2 ⟨rfl, hx⟩
  simp only at hx
  subst hx
  (try dsimp only); rw [HM.ite_apply]
  cases hdl : dollarB f n with
  | true =>
    rw [hdl] at hq
    rw [if_pos rfl]
    exact hq _ hs1
  | false =>
  rw [hdl, Bool.not_false, Bool.true_and, match_prog _ _ (levels_ne f) hgf] at hq
  rw [if_neg (by simp)]
  refine q_ab (q_eg hs1 ht hsf.2.2.1 fun sf h3 hs3 => ⟨sf, rfl, ?_⟩)
  refine q_ab (q_eg hs3.p1 ht hsn.2.2.1 fun sn h4 hs4 => ⟨sn, rfl, ?_⟩)
  have hrn := hs4.own_row q_et
  have hrf := (hs4.re [2, 0, 1]).own_row q_et
  have hs5 : sat h4 (old h0 :: R) := (hs4.re [0, 2, 1]).drop.drop
  have hlf : (levels f).length ≤ 32 := hsf.2.2.2
  have hln : (levels n).length ≤ 32 := hsn.2.2.2
  have hne : 1 ≤ (levels f).length := by
    have := q_ii f
    omega
  clear hs4 hs3
  generalize levels f = lf at *
  generalize levels n = ln at *
  have hl1 := hrf.1
  have hl2 := hrn.1
  have hw : IntKind.wrap .i64 ((sf.len : Int) - 1) = ((lf.length - 1 : Nat) : Int) := by rw [hl1, q_al (by omega) (by omega)]; omega
  rw [hw]
  obtain ⟨x, hx⟩ : ∃ x, lf[lf.length - 1]? = some x := ⟨_, List.getElem?_eq_getElem (by omega)⟩
  have hall : allR lf = decide (x = hashS) := by unfold allR; rw [hx]; simp
  (try dsimp only); rw [HM.bind_apply]
  refine q_bi hrf hx fun a ha => ?_
  refine ⟨x, by have := ha 0 (.string x) rfl; rwa [Go.H.add_zero] at this, ?_⟩
  refine q_ad (fun x h' => h' = h4 ∧ RowAt eS 1 h4 x.1 (cutR lf)) ?_ ?_
  · unfold cutR
    (try dsimp only); rw [HM.ite_apply]
    by_cases hh : x = hashS
    · rw [if_pos (by simpa [hashS] using hh), if_pos (by rw [hall]; simpa using hh)]
      (try dsimp only); rw [HM.bind_apply]
      exact slice_row hrf (by omega) fun s' hs' => ⟨rfl, hs'⟩
    · rw [if_neg (by simpa [hashS] using hh), if_neg (by rw [hall]; simpa using hh)]
      exact ⟨rfl, hrf⟩
  rintro ⟨sc, ⟨⟩⟩ h5 ⟨rfl, hrc⟩
  simp only at hrc
  have hl3 := hrc.1
  have hcl : (cutR lf).length ≤ 32 := by
    unfold cutR
    split
    · simp; omega
    · exact hlf
  refine q_ad (fun x h' => h' = h5 ∧ x.1 = decide (ln.length < (cutR lf).length ∨ (allR lf = false ∧ (cutR lf).length < ln.length))) ?_ ?_
  · (try dsimp only); rw [HM.ite_apply]
    by_cases hh : ln.length < (cutR lf).length
    · rw [if_pos (by simp only [decide_eq_true_eq]; omega)]
      exact ⟨rfl, by simp [hh]⟩
    · rw [if_neg (by simp only [decide_eq_true_eq]; omega)]
      (try dsimp only); rw [HM.ite_apply]
      by_cases hxh : x = hashS
      · rw [if_neg (by simpa [hashS] using hxh)]
        exact ⟨rfl, by simp [hh, hall, hxh]⟩
      · rw [if_pos (by simpa [hashS] using hxh)]
        refine ⟨rfl, ?_⟩
        simp only [decide_eq_decide, hall, hxh, decide_false, true_and]
        omega
  rintro ⟨y, ⟨⟩⟩ h6 ⟨rfl, hy⟩
  simp only at hy
  subst hy
  unfold matchP at hq
  (try dsimp only); rw [HM.ite_apply]
  by_cases hc : ln.length < (cutR lf).length ∨ (allR lf = false ∧ (cutR lf).length < ln.length)
  · rw [if_pos hc] at hq
    rw [if_pos (by simpa using hc)]
    exact hq _ hs5
  · rw [if_neg hc] at hq
    rw [if_neg (by simpa using hc)]
    (try dsimp only); rw [HM.bind_apply]
    refine slice_row (n := sc.len) hrn (by omega) fun s' hs' => ?_
    rw [hl3] at hs'
    (try dsimp only)
    refine q_ab (EqualFunc_spec hrc hs' (by omega) ⟨_, rfl, ?_⟩)
    exact hq _ hs5
end Go.Proofs.YtidlldnlphdhcaaGreatDoor
namespace Go.Proofs.YtidlldnlphdhcaaGreatDoor
set_option linter.unusedSimpArgs false
set_option linter.unusedVariables false
open Go.Proofs Go.Shelf
def sortedS_ren : Go.Shelf.Ren := ⟨fun n => match n with | 6 => 84 | 8 => 130 | 9 => 131 | 11 => 187 | 13 => 123 | 12 => 188 | 23 => 180 | 24 => 181 | 14 => 229 | 15 => 230 | 16 => 231 | 17 => 232 | 18 => 233 | 19 => 234 | 20 => 235 | 21 => 236 | 22 => 237 | 25 => 260 | 26 => 214 | 27 => 215 | 28 => 261 | 29 => 262 | 30 => 263 | 31 => 271 | n => n, fun n => match n with | 26 => 9 | 28 => 216 | 24 => 43 | 0 => 0 | 3 => 3 | 37 => 263 | 48 => 315 | 50 => 317 | 4 => 4 | 40 => 308 | 39 => 307 | 45 => 180 | 5 => 5 | 9 => 9 | 51 => 343 | 55 => 347 | 57 => 378 | 58 => 361 | 33 => 107 | n => n, fun n => n⟩
theorem sortedS : SlLaysZ.n6 Tryz.prog sortedS_ren where
  mixed := by kernel_rfl
  f6 := ⟨Tryz.f84.name, by kernel_rfl, Tryz.func84.trans (congrArg some (by kernel_rfl))⟩
  f8 := ⟨Tryz.f130.name, by kernel_rfl, Tryz.func130.trans (congrArg some (by kernel_rfl))⟩
  f11 := ⟨Tryz.f187.name, by kernel_rfl, Tryz.func187.trans (congrArg some (by kernel_rfl))⟩
  t0 := Tryz.underlying0
  a0 := Tryz.isAgg0
  z0 := Tryz.sizeOf0
  v0 := Tryz.zeroValue0
  t24 := Tryz.underlying43
  a24 := Tryz.isAgg43
  z24 := Tryz.sizeOf43
  v24 := Tryz.zeroValue43
  t26 := Tryz.underlying9
  a26 := Tryz.isAgg9
  z26 := Tryz.sizeOf9
  v26 := Tryz.zeroValue9
  t28 := Tryz.underlying216
  a28 := Tryz.isAgg216
  z28 := Tryz.sizeOf216
  v28 := Tryz.zeroValue216
  i26 := by kernel_rfl
def sortMS_ren : Go.Shelf.Ren := ⟨fun n => match n with | 6 => 131 | 8 => 123 | 9 => 188 | 19 => 180 | 20 => 181 | 21 => 229 | 22 => 230 | 23 => 231 | 24 => 232 | 25 => 233 | 26 => 234 | 27 => 235 | 28 => 236 | 29 => 237 | 36 => 260 | 31 => 214 | 32 => 215 | 37 => 261 | 38 => 262 | 39 => 263 | 41 => 271 | n => n, fun n => match n with | 27 => 43 | 29 => 9 | 3 => 3 | 32 => 263 | 26 => 43 | 0 => 0 | 44 => 315 | 46 => 317 | 4 => 4 | 36 => 308 | 35 => 307 | 41 => 180 | 5 => 5 | 9 => 9 | 53 => 343 | 57 => 347 | 63 => 378 | 64 => 361 | n => n, fun n => n⟩
theorem sortMS : SlLaysM.n6 Tryz.prog sortMS_ren where
  mixed := by kernel_rfl
  f6 := ⟨Tryz.f131.name, by kernel_rfl, Tryz.func131.trans (congrArg some (by kernel_rfl))⟩
  f8 := Tryz.func123.trans (congrArg some (by kernel_rfl))
  f9 := ⟨Tryz.f188.name, by kernel_rfl, Tryz.func188.trans (congrArg some (by kernel_rfl))⟩
  f19 := Tryz.func180.trans (congrArg some (by kernel_rfl))
  f20 := Tryz.func181.trans (congrArg some (by kernel_rfl))
  f21 := ⟨Tryz.f229.name, by kernel_rfl, Tryz.func229.trans (congrArg some (by kernel_rfl))⟩
  f22 := ⟨Tryz.f230.name, by kernel_rfl, Tryz.func230.trans (congrArg some (by kernel_rfl))⟩
  f23 := ⟨Tryz.f231.name, by kernel_rfl, Tryz.func231.trans (congrArg some (by kernel_rfl))⟩
  f24 := ⟨Tryz.f232.name, by kernel_rfl, Tryz.func232.trans (congrArg some (by kernel_rfl))⟩
  f25 := ⟨Tryz.f233.name, by kernel_rfl, Tryz.func233.trans (congrArg some (by kernel_rfl))⟩
  f26 := ⟨Tryz.f234.name, by kernel_rfl, Tryz.func234.trans (congrArg some (by kernel_rfl))⟩
  f27 := ⟨Tryz.f235.name, by kernel_rfl, Tryz.func235.trans (congrArg some (by kernel_rfl))⟩
  f28 := ⟨Tryz.f236.name, by kernel_rfl, Tryz.func236.trans (congrArg some (by kernel_rfl))⟩
  f29 := ⟨Tryz.f237.name, by kernel_rfl, Tryz.func237.trans (congrArg some (by kernel_rfl))⟩
  f31 := Tryz.func214.trans (congrArg some (by kernel_rfl))
  f32 := Tryz.func215.trans (congrArg some (by kernel_rfl))
  f36 := ⟨Tryz.f260.name, by kernel_rfl, Tryz.func260.trans (congrArg some (by kernel_rfl))⟩
  f37 := ⟨Tryz.f261.name, by kernel_rfl, Tryz.func261.trans (congrArg some (by kernel_rfl))⟩
  f38 := ⟨Tryz.f262.name, by kernel_rfl, Tryz.func262.trans (congrArg some (by kernel_rfl))⟩
  f39 := ⟨Tryz.f263.name, by kernel_rfl, Tryz.func263.trans (congrArg some (by kernel_rfl))⟩
  f41 := ⟨Tryz.f271.name, by kernel_rfl, Tryz.func271.trans (congrArg some (by kernel_rfl))⟩
  t0 := Tryz.underlying0
  a0 := Tryz.isAgg0
  z0 := Tryz.sizeOf0
  v0 := Tryz.zeroValue0
  t3 := Tryz.underlying3
  a3 := Tryz.isAgg3
  z3 := Tryz.sizeOf3
  v3 := Tryz.zeroValue3
  t4 := Tryz.underlying4
  a4 := Tryz.isAgg4
  z4 := Tryz.sizeOf4
  v4 := Tryz.zeroValue4
  t5 := Tryz.underlying5
  a5 := Tryz.isAgg5
  z5 := Tryz.sizeOf5
  v5 := Tryz.zeroValue5
  t9 := Tryz.underlying9
  a9 := Tryz.isAgg9
  z9 := Tryz.sizeOf9
  v9 := Tryz.zeroValue9
  t26 := Tryz.underlying43
  a26 := Tryz.isAgg43
  z26 := Tryz.sizeOf43
  v26 := Tryz.zeroValue43
  t27 := Tryz.underlying43
  a27 := Tryz.isAgg43
  z27 := Tryz.sizeOf43
  v27 := Tryz.zeroValue43
  t29 := Tryz.underlying9
  a29 := Tryz.isAgg9
  z29 := Tryz.sizeOf9
  v29 := Tryz.zeroValue9
  t32 := Tryz.underlying263
  a32 := Tryz.isAgg263
  z32 := Tryz.sizeOf263
  v32 := Tryz.zeroValue263
  t35 := Tryz.underlying307
  a35 := Tryz.isAgg307
  z35 := Tryz.sizeOf307
  v35 := Tryz.zeroValue307
  t36 := Tryz.underlying308
  a36 := Tryz.isAgg308
  z36 := Tryz.sizeOf308
  v36 := Tryz.zeroValue308
  t41 := Tryz.underlying180
  a41 := Tryz.isAgg180
  z41 := Tryz.sizeOf180
  v41 := Tryz.zeroValue180
  t44 := Tryz.underlying315
  a44 := Tryz.isAgg315
  z44 := Tryz.sizeOf315
  v44 := Tryz.zeroValue315
  t46 := Tryz.underlying317
  a46 := Tryz.isAgg317
  z46 := Tryz.sizeOf317
  v46 := Tryz.zeroValue317
  t53 := Tryz.underlying343
  a53 := Tryz.isAgg343
  z53 := Tryz.sizeOf343
  v53 := Tryz.zeroValue343
  t57 := Tryz.underlying347
  a57 := Tryz.isAgg347
  z57 := Tryz.sizeOf347
  v57 := Tryz.zeroValue347
  t63 := Tryz.underlying378
  a63 := Tryz.isAgg378
  z63 := Tryz.sizeOf378
  v63 := Tryz.zeroValue378
  t64 := Tryz.underlying361
  a64 := Tryz.isAgg361
  z64 := Tryz.sizeOf361
  v64 := Tryz.zeroValue361
end Go.Proofs.YtidlldnlphdhcaaGreatDoor
namespace Go.Proofs.YtidlldnlphdhcaaGreatDoor
set_option linter.unusedSimpArgs false
set_option linter.unusedVariables false
open Go.Proofs Go.Shelf
def q_ik : Go.Shelf.Ren := ⟨fun n => match n with | 7 => 165 | 10 => 212 | n => n, fun n => match n with | 23 => 177 | 26 => 9 | 3 => 204 | 28 => 216 | 0 => 0 | 27 => 215 | 33 => 107 | 4 => 4 | n => n, fun n => n⟩
theorem keysSM : SlLaysZ.n7 Tryz.prog q_ik where
  mixed := by kernel_rfl
  f7 := ⟨Tryz.f165.name, by kernel_rfl, Tryz.func165.trans (congrArg some (by kernel_rfl))⟩
  f10 := ⟨Tryz.f212.name, by kernel_rfl, Tryz.func212.trans (congrArg some (by kernel_rfl))⟩
  t0 := Tryz.underlying0
  a0 := Tryz.isAgg0
  z0 := Tryz.sizeOf0
  v0 := Tryz.zeroValue0
  t4 := Tryz.underlying4
  a4 := Tryz.isAgg4
  z4 := Tryz.sizeOf4
  v4 := Tryz.zeroValue4
  t23 := Tryz.underlying177
  a23 := Tryz.isAgg177
  z23 := Tryz.sizeOf177
  v23 := Tryz.zeroValue177
  t26 := Tryz.underlying9
  a26 := Tryz.isAgg9
  z26 := Tryz.sizeOf9
  v26 := Tryz.zeroValue9
  t27 := Tryz.underlying215
  a27 := Tryz.isAgg215
  z27 := Tryz.sizeOf215
  v27 := Tryz.zeroValue215
  t28 := Tryz.underlying216
  a28 := Tryz.isAgg216
  z28 := Tryz.sizeOf216
  v28 := Tryz.zeroValue216
  t33 := Tryz.underlying107
  a33 := Tryz.isAgg107
  z33 := Tryz.sizeOf107
  v33 := Tryz.zeroValue107
end Go.Proofs.YtidlldnlphdhcaaGreatDoor
namespace Go.Proofs.YtidlldnlphdhcaaGreatDoor
open Go.H Go.Proofs Go.Lib
set_option linter.unusedSimpArgs false
set_option linter.unusedVariables false
set_option synthInstance.maxSize 100000
set_option synthInstance.maxHeartbeats 400000
set_option maxRecDepth 100000
abbrev ptr0 (b : Nat) : Value := .pointer (some ⟨b, 0, none⟩)
abbrev MsgT := ByteArray × ByteArray × Int × Unit
abbrev kM : Kind := .agg [.str, .str, .int .i64]
abbrev vM (m : MsgT) : Value := .agg #[.string m.1, .string m.2.1, .int .i64 m.2.2.1]
abbrev encG (m : MsgT) : List Value := [.string m.1, .string m.2.1, .int .i64 m.2.2.1]
abbrev eKS (s : ByteArray) : Value := .string s
def zM : MsgT := (ByteArray.mk #[], ByteArray.mk #[], 0, ())
theorem eG_len : ∀ x : MsgT, (encG x).length = 3 := fun _ => rfl
theorem eG_cell : ∀ x : MsgT, ∀ v ∈ encG x, v.oneCell' = true := fun x v hv => by
  simp only [encG, List.mem_cons, List.not_mem_nil, or_false] at hv
  rcases hv with rfl | rfl | rfl <;> rfl
theorem inj_eKS : ∀ a b : ByteArray, eKS a = eKS b → a = b := fun a b h => by cases h; rfl
def stoA (b : Nat) (most : Int) (l : List (ByteArray × MsgT)) : Asn := exA fun m : Nat => star (cells b #[.int .i64 most, .map (some m)]) (mapA eKS (Kind.val kM) m l)
variable {h h0 : Heap} {R : List Asn}
theorem q_fs {b : Nat} {most : Int} {l : List (ByteArray × MsgT)} : sat h (stoA b most l :: R) ↔ ∃ m : Nat, sat h (cells b #[.int .i64 most, .map (some m)] :: mapA eKS (Kind.val kM) m l :: R) := by
  unfold stoA
  rw [sat.ex_iff]
  constructor
  · rintro ⟨m, hs⟩; exact ⟨m, sat.star_iff.1 hs⟩
  · rintro ⟨m, hs⟩; exact ⟨m, sat.star_iff.2 hs⟩
def mostOf (n : Int) : Int := if 0 < (if 64 < n then 64 else n) then (if 64 < n then 64 else n) else 0
theorem retNew_spec (hs : sat h R) (n : Int) {Q : Value → Heap → Prop} (hq : ∀ b h', sat h' (stoA b (mostOf n) [] :: R) → Q (ptr0 b) h') : HCalls Tryz.prog 29 #[.int .i64 n] h Q := by
  refine retain_New_calls n h Q ?_
  unfold retain_New
  (try dsimp only); rw [HM.bind_apply]
  refine new_map (ek := eKS) (ev := Kind.val kM) hs fun m h1 hs1 => ?_
  refine q_ae hs1 fun b h2 hs2 => ?_
  exact hq b h2 (q_fs.2 ⟨m, hs2⟩)
def setP (most : Int) (l : List (ByteArray × MsgT)) (m : MsgT) : Int × List (ByteArray × MsgT) :=
  if nameOK m.1 = false then (144, l)
  else if m.2.2.1 < 0 ∨ 2 < m.2.2.1 then (155, l)
  else if m.2.1 = ByteArray.mk #[] then (0, mdel l m.1)
  else if mget l m.1 = none ∧ most ≤ l.length then (151, l)
  else (0, mset l m.1 m)
theorem Set_spec {b : Nat} {most : Int} {l : List (ByteArray × MsgT)} {m : MsgT} (hs : sat h (stoA b most l :: old h0 :: R)) (ht : TP h0) (hsz : m.1.size ≤ 9223372036854775807) {Q : Value → Heap → Prop}
    (hq : ∀ h', sat h' (stoA b most (setP most l m).2 :: old h0 :: R) → Q (.int .u8 (setP most l m).1) h') : HCalls Tryz.prog 79 #[ptr0 b, vM m] h Q := by
  refine q_gz (some ⟨b, 0, none⟩) m h Q ?_
  obtain ⟨mb, hs⟩ := q_fs.1 hs
  unfold q_de
  refine q_ae hs fun x h1 hs1 => ?_
  (try dsimp only); rw [HM.ite_apply, if_neg (by simp)]
  refine ⟨m.1, by rw [q_aa]; exact hs1.cell 0, ?_⟩
  refine q_ab (q_c0 (hs1.re [3, 0, 1, 2]) ht hsz fun h2 hs2' => ⟨_, rfl, ?_⟩)
  have hs2 : sat h2 (cells x #[.string m.1, .string m.2.1, .int .i64 m.2.2.1] :: cells b #[.int .i64 most, .map (some mb)] :: mapA eKS (Kind.val kM) mb l :: old h0 :: R) := hs2'.re [1, 2, 3, 0]
  clear hs2' hs1 hs
  have fin : ∀ {h'}, sat h' (cells x #[.string m.1, .string m.2.1, .int .i64 m.2.2.1] :: cells b #[.int .i64 most, .map (some mb)] :: mapA eKS (Kind.val kM) mb l :: old h0 :: R) → sat h' (stoA b most l :: old h0 :: R) := fun hh => q_fs.2 ⟨mb, hh.drop⟩
  unfold setP at hq
  (try dsimp only); rw [HM.ite_apply]
  cases hn : nameOK m.1 with
  | false =>
    rw [if_pos hn] at hq
    rw [if_pos (by simp [nameC, hn])]
    exact hq _ (fin hs2)
  | true =>
  rw [if_neg (by simp [hn])] at hq
  rw [if_neg (by simp [nameC, hn])]
  refine q_ad (fun z h' => h' = h2 ∧ z.1 = decide (m.2.2.1 < 0 ∨ 2 < m.2.2.1)) ?_ ?_
  · refine ⟨m.2.2.1, by rw [q_aa]; exact hs2.cell 2, ?_⟩
    (try dsimp only); rw [HM.ite_apply]
    by_cases h1 : m.2.2.1 < 0
    · rw [if_pos (by simpa using h1)]
      exact ⟨rfl, by simp [h1]⟩
    · rw [if_neg (by simpa using h1)]
      refine ⟨m.2.2.1, by rw [q_aa]; exact hs2.cell 2, rfl, ?_⟩
      simp [h1]
  rintro ⟨z, ⟨⟩⟩ h3 ⟨rfl, hz⟩
  simp only at hz
  subst hz
  (try dsimp only); rw [HM.ite_apply]
  by_cases hqs : m.2.2.1 < 0 ∨ 2 < m.2.2.1
  · rw [if_pos hqs] at hq
    rw [if_pos (by simpa using hqs)]
    exact hq _ (fin hs2)
  rw [if_neg hqs] at hq
  rw [if_neg (by simpa using hqs)]
  refine ⟨m.2.1, by rw [q_aa]; exact hs2.cell 1, ?_⟩
  (try dsimp only); rw [HM.ite_apply]
  by_cases hp : m.2.1 = ByteArray.mk #[]
  · rw [if_pos hp] at hq
    rw [if_pos (by simpa using hp)]
    refine ⟨_, rfl, some mb, by rw [q_aa]; exact hs2.p1.cell 1, ?_⟩
    refine ⟨m.1, by rw [q_aa]; exact hs2.cell 0, ?_⟩
    (try dsimp only); rw [HM.bind_apply]
    refine q_h8 key_str (hs2.re [2, 0, 1]) fun h4 hs4 => ?_
    exact hq _ (q_fs.2 ⟨mb, (hs4.re [1, 2, 0]).drop⟩)
  rw [if_neg hp] at hq
  rw [if_neg (by simpa using hp)]
  refine ⟨_, rfl, some mb, by rw [q_aa]; exact hs2.p1.cell 1, ?_⟩
  refine ⟨m.1, by rw [q_aa]; exact hs2.cell 0, ?_⟩
  (try dsimp only); rw [HM.bind_apply]
  refine q_ap (kind := kM) (z := zM) key_str rfl (hs2.re [2, 0, 1]) ?_
  refine q_ae hs2 fun y h4 hs4' => ?_
  have hs4 : sat h4 (cells y #[.string (ByteArray.mk #[]), .string (ByteArray.mk #[]), .int .i64 0] :: cells x #[.string m.1, .string m.2.1, .int .i64 m.2.2.1] :: cells b #[.int .i64 most, .map (some mb)] :: mapA eKS (Kind.val kM) mb l :: old h0 :: R) := hs4'
  clear hs4'
  (try dsimp only); rw [HM.bind_apply]
  refine q_ap (kind := kM) (z := zM) key_str rfl (hs4.re [3, 0, 1, 2]) ?_
  refine ⟨rfl, ?_⟩
  refine ⟨m.1, by rw [q_aa]; exact hs4.p1.cell 0, rfl, ?_⟩
  refine ⟨some mb, by rw [q_aa]; exact (hs4.re [2, 0, 1]).cell 1, rfl, ?_⟩
  (try dsimp only); rw [HM.bind_apply]
  refine storeN_all' hs4 rfl rfl fun h5 hs5' => ?_
  have hs5 : sat h5 (cells x #[.string m.1, .string m.2.1, .int .i64 m.2.2.1] :: cells b #[.int .i64 most, .map (some mb)] :: mapA eKS (Kind.val kM) mb l :: old h0 :: R) := hs5'.drop
  clear hs5'
  refine q_ad (fun z h' => h' = h5 ∧ z.1 = decide (mget l m.1 = none ∧ most ≤ l.length)) ?_ ?_
  · (try dsimp only); rw [HM.ite_apply]
    cases hg : mget l m.1 with
    | none =>
      rw [if_pos (by rfl)]
      refine ⟨_, rfl, some mb, by rw [q_aa]; exact hs5.p1.cell 1, ?_⟩
      (try dsimp only); rw [HM.bind_apply]
      refine len_map (hs5.re [2, 0, 1]) ?_
      refine ⟨_, rfl, most, by rw [q_aa]; exact hs5.p1.cell 0, rfl, ?_⟩
      simp
    | some v =>
      rw [if_neg (by simp)]
      exact ⟨rfl, by simp⟩
  rintro ⟨z, ⟨⟩⟩ h6 ⟨rfl, hz⟩
  simp only at hz
  subst hz
  (try dsimp only); rw [HM.ite_apply]
  by_cases hc : mget l m.1 = none ∧ most ≤ l.length
  · rw [if_pos hc] at hq
    rw [if_pos (by simpa using hc)]
    exact hq _ (fin hs5)
  rw [if_neg hc] at hq
  rw [if_neg (by simpa using hc)]
  refine ⟨_, rfl, some mb, by rw [q_aa]; exact hs5.p1.cell 1, ?_⟩
  refine ⟨m.1, by rw [q_aa]; exact hs5.cell 0, ?_⟩
  refine q_au (ts := [.str, .str, .int .i64]) m hs5 rfl ?_
  (try dsimp only); rw [HM.bind_apply]
  refine q_fu (x := m) key_str inj_eKS (hs5.re [2, 0, 1]) fun h7 hs7 => ?_
  exact hq _ (q_fs.2 ⟨mb, (hs7.re [1, 2, 0]).drop⟩)
def hitP (l : List (ByteArray × MsgT)) (f : ByteArray) (ns : List ByteArray) : List MsgT := (ns.filter (matchB f)).map fun n => (mget l n).getD zM
theorem Match_st {b : Nat} {most : Int} {l : List (ByteArray × MsgT)} {f : ByteArray} (hs : sat h (stoA b most l :: old h0 :: R)) (ht : TP h0) (hsz : f.size ≤ 9223372036854775807) (hl : l.length ≤ 64) (hk : ∀ p ∈ l, p.1.size ≤ 256) {Q : Value → Heap → Prop}
    (hq : ∀ (sl : Slc) h', sat h' (ownS encG 3 sl (hitP l f (sortS (l.map (·.1)))) :: stoA b most l :: old h0 :: R) → Q (.slice sl.a sl.len sl.cap) h') : HCalls Tryz.prog 110 #[ptr0 b, .string f] h Q := by
  refine q_fe (some ⟨b, 0, none⟩) f h Q ?_
  obtain ⟨mb, hs⟩ := q_fs.1 hs
  unfold q_b9
  (try dsimp only); rw [HM.ite_apply, if_neg (by simp)]
  refine ⟨_, rfl, some mb, by rw [q_aa]; exact hs.cell 1, ?_⟩
  refine q_ab ?_
  refine keysS_call (ρk := q_ik) keysSM (some mb) ?_
  refine ⟨_, rfl, ?_⟩
  have hs2 := (hs.push_cells (T := q_ik.t 23) (cs := #[.map (some mb)]))
  refine q_ab ?_
  refine sortedS_call (ρk := q_ik) (ρs := sortedS_ren) (ρt := sortMS_ren) keysSM sortedS sortMS rfl (enters_of Tryz.func131 (by kernel_rfl) rfl) (enters_of Tryz.func212 (by kernel_rfl) rfl) (hs2.re [2, 0, 1])
    (fun p hp => ?_) (by omega) (hs2.cell 0) fun sl h1 hs3 => ?_
  · have := hk p hp
    unfold maxLen
    omega
  have hs4 := (hs3.re [2, 0, 1, 3, 4]).drop
  clear hs3 hs2 hs
  have hlsort : (sortS (l.map (·.1))).length = l.length := by simp [sortS, List.length_mergeSort]
  have hmem : ∀ n ∈ sortS (l.map (·.1)), n.size ≤ 256 := by
    intro n hn
    unfold sortS at hn
    obtain ⟨x, hx, rfl⟩ := List.mem_map.1 hn
    obtain ⟨y, hy, rfl⟩ := List.mem_map.1 ((List.mergeSort_perm _ _).mem_iff.1 hx)
    obtain ⟨p, hp, rfl⟩ := List.mem_map.1 hy
    exact hk p hp
  generalize sortS (l.map (·.1)) = ns at hs4 hlsort hmem hq
  have hlen := hs4.own_len
  refine ⟨sl, rfl, ?_⟩
  (try dsimp only); rw [HM.bind_apply]
  refine q_cv (γ := Nat) (hb := fun s => by
      repeat' with_reducible first
        | refine @mono_bind _ _ _ _ ?_ (fun _ => ?_)
        | refine @mono_ite _ _ _ _ ?_ ?_
      all_goals infer_instance)
    (fun g c h' => c.2.1 = (((ns.length - g : Nat)) : Int) ∧ g ≤ ns.length ∧ sat h' (ownS encG 3 c.1 (hitP l f (ns.take (ns.length - g))) :: ownS eS 1 sl ns :: cells b #[.int .i64 most, .map (some mb)] :: mapA eKS (Kind.val kM) mb l :: old h0 :: R)) (fun g => g) ns.length
    ⟨by simp, Nat.le_refl _, by
      rw [Nat.sub_self]
      exact q_a3 (hs4.re [0, 2, 1])⟩ ?_
  rintro g ⟨out, c, ⟨⟩⟩ h2 ⟨hc, hg, hs5⟩
  simp only at hc hs5
  subst hc
  (try dsimp only); rw [HM.ite_apply]
  by_cases hi : ns.length - g < ns.length
  · rw [if_pos (by simp only [decide_eq_true_eq, hlen]; omega)]
    obtain ⟨n, hn⟩ : ∃ n, ns[ns.length - g]? = some n := ⟨_, List.getElem?_eq_getElem hi⟩
    have hnz : n.size ≤ 256 := hmem n (List.mem_of_getElem? hn)
    have hw : IntKind.wrap .i64 ((((ns.length - g : Nat)) : Int) + 1) = ((ns.length - (g - 1) : Nat) : Int) := by rw [q_al (by omega) (by omega)]; omega
    have htake : ns.take (ns.length - (g - 1)) = ns.take (ns.length - g) ++ [n] := by
      rw [show ns.length - (g - 1) = ns.length - g + 1 by omega, List.take_add_one, hn]
      rfl
    (try dsimp only); rw [HM.bind_apply]
    refine q_bi (hs5.p1.own_row q_et) hn fun a ha => ?_
    refine ⟨n, by have := ha 0 (.string n) rfl; rwa [Go.H.add_zero] at this, ?_⟩
    refine q_ab (Match_spec (hs5.re [4, 0, 1, 2, 3]) ht hsz (by omega) fun h3 hs6' => ⟨_, rfl, ?_⟩)
    have hs6 : sat h3 (ownS encG 3 out (hitP l f (ns.take (ns.length - g))) :: ownS eS 1 sl ns :: cells b #[.int .i64 most, .map (some mb)] :: mapA eKS (Kind.val kM) mb l :: old h0 :: R) := hs6'.re [1, 2, 3, 4, 0]
    clear hs6' hs5
    refine q_ad (fun z h' => sat h' (ownS encG 3 z.1 (hitP l f (ns.take (ns.length - (g - 1)))) :: ownS eS 1 sl ns :: cells b #[.int .i64 most, .map (some mb)] :: mapA eKS (Kind.val kM) mb l :: old h0 :: R)) ?_ ?_
    · rw [htake]
      unfold hitP
      rw [List.filter_append, List.map_append]
      (try dsimp only); rw [HM.ite_apply]
      cases hm : matchB f n with
      | true =>
        rw [if_pos rfl]
        refine ⟨_, rfl, some mb, by rw [q_aa]; exact (hs6.re [2, 0, 1]).cell 1, ?_⟩
        (try dsimp only); rw [HM.bind_apply]
        refine q_ap (kind := kM) (z := zM) key_str rfl (hs6.re [3, 0, 1, 2]) ?_
        have hsmall : (hitP l f (ns.take (ns.length - g))).length ≤ 64 := by
          unfold hitP
          rw [List.length_map]
          refine Nat.le_trans (List.length_filter_le _ _) ?_
          rw [List.length_take]
          omega
        refine app_new (x := (mget l n).getD zM) eG_len eG_cell rfl hs6 (by decide) (by decide) (by omega) fun s' h4 hs7 => ?_
        simp only [List.filter_cons, hm, if_true, List.filter_nil, List.map_cons, List.map_nil]
        exact hs7
      | false =>
        rw [if_neg (by simp)]
        simp only [List.filter_cons, hm, Bool.false_eq_true, if_false, List.filter_nil, List.map_nil, List.append_nil]
        exact hs6
    rintro ⟨z, ⟨⟩⟩ h4 hs7
    simp only [Sum.elim_inl, Sum.elim_inr, HM.pure_apply]
    exact .mk (g - 1) (by omega) ⟨by simp only [hw], by omega, hs7⟩
  · rw [if_neg (by simp only [decide_eq_true_eq, hlen]; omega)]
    rw [List.take_of_length_le (by omega)] at hs5
    exact hq out h2 (((q_fs.2 ⟨mb, hs5.re [2, 3, 0, 1]⟩).re [2, 1, 0]).drop.p1.re [1, 0])
end Go.Proofs.YtidlldnlphdhcaaGreatDoor
namespace Go.Proofs.YtidlldnlphdhcaaGreatDoor
open Go.H Go.Proofs Go.Lib
set_option linter.unusedSimpArgs false
set_option linter.unusedVariables false
set_option synthInstance.maxSize 100000
set_option synthInstance.maxHeartbeats 400000
set_option maxRecDepth 100000
variable {h h0 : Heap} {R : List Asn}
def restR (L : List MsgT) (k : ByteArray) : List MsgT := L.filter fun m => decide (m.1 ≠ k)
def setR (most : Int) (L : List MsgT) (m : MsgT) : Int × List MsgT :=
  if nameOK m.1 = false then (144, L)
  else if m.2.2.1 < 0 ∨ 2 < m.2.2.1 then (155, L)
  else if m.2.1.size = 0 then (0, restR L m.1)
  else if (restR L m.1).length = L.length ∧ most ≤ (restR L m.1).length then (151, L)
  else (0, insS ltS (·.1) m (restR L m.1))
def getR (L : List MsgT) (k : ByteArray) : Option MsgT := L.find? fun m => decide (m.1 = k)
def hitR (L : List MsgT) (f : ByteArray) : List MsgT := L.filter fun m => matchB f m.1
end Go.Proofs.YtidlldnlphdhcaaGreatDoor
namespace Go.Proofs.YtidlldnlphdhcaaGreatDoor
open Go.H Go.Proofs Go.Lib
set_option linter.unusedSimpArgs false
set_option linter.unusedVariables false
set_option synthInstance.maxSize 100000
set_option synthInstance.maxHeartbeats 400000
set_option maxRecDepth 100000
structure Sto (most : Int) (l : List (ByteArray × MsgT)) (L : List MsgT) : Prop where
  rel : Rel ltS (fun m : MsgT => m.1) l L
  len : (l.length : Int) ≤ most
  small : ∀ p ∈ l, p.1.size ≤ 256
theorem Sto.nil {most : Int} (h : 0 ≤ most) : Sto most [] [] := ⟨Rel.nil, by simpa using h, by simp⟩
variable {most : Int} {l : List (ByteArray × MsgT)} {L : List MsgT}
theorem Sto.lenL (h : Sto most l L) (hm : most ≤ 64) : l.length ≤ 64 ∧ L.length ≤ 64 := by
  have := h.len
  have := h.rel.len
  omega
theorem Sto.get (h : Sto most l L) (k : ByteArray) : mget l k = getR L k := h.rel.get ordS k
theorem empty_size (x : ByteArray) : x = ByteArray.mk #[] ↔ x.size = 0 := by
  constructor
  · rintro rfl; rfl
  · intro h0
    refine data_inj ?_
    have : x.data.toList.length = 0 := by rw [Array.length_toList]; exact h0
    rw [List.length_eq_zero_iff.1 this]
theorem rest_len {k : ByteArray} : (restR L k).length = L.length ↔ getR L k = none := by
  unfold restR getR
  rw [List.length_filter_eq_length_iff, List.find?_eq_none]
  constructor
  · intro h x hx; simpa using h x hx
  · intro h x hx; simpa using h x hx
theorem Sto.set (h : Sto most l L) (m : MsgT) : (setP most l m).1 = (setR most L m).1 ∧ Sto most (setP most l m).2 (setR most L m).2 := by
  unfold setP setR
  by_cases h1 : nameOK m.1 = false
  · rw [if_pos h1, if_pos h1]; exact ⟨rfl, h⟩
  rw [if_neg h1, if_neg h1]
  have hsz : m.1.size ≤ 256 := q_hl (q_hy (by simpa using h1))
  by_cases h2 : m.2.2.1 < 0 ∨ 2 < m.2.2.1
  · rw [if_pos h2, if_pos h2]; exact ⟨rfl, h⟩
  rw [if_neg h2, if_neg h2]
  by_cases h3 : m.2.1 = ByteArray.mk #[]
  · rw [if_pos h3, if_pos ((empty_size _).1 h3)]
    refine ⟨rfl, h.rel.del m.1, ?_, fun p hp => ?_⟩
    · have := h.len
      have h4 : (mdel l m.1).length ≤ l.length := by rw [q_bh h.rel.nd]; exact List.length_filter_le _ _
      simp only
      omega
    · rw [q_bh h.rel.nd] at hp
      exact h.small p (List.mem_filter.1 hp).1
  rw [if_neg h3, if_neg (fun e => h3 ((empty_size _).2 e))]
  have hget := h.get m.1
  have hll := h.rel.len
  by_cases h4 : mget l m.1 = none
  · have h5 := rest_len.2 (hget ▸ h4)
    by_cases h6 : most ≤ l.length
    · rw [if_pos ⟨h4, h6⟩, if_pos ⟨h5, by rw [h5]; omega⟩]; exact ⟨rfl, h⟩
    · rw [if_neg (fun e => h6 e.2), if_neg (fun e => h6 (by have := e.2; rw [h5] at this; omega))]
      refine ⟨rfl, h.rel.set ordS m, ?_, fun p hp => ?_⟩
      · rw [q_d0 _ _ _ h4]
        simp only [List.length_append, List.length_cons, List.length_nil]
        omega
      · rw [q_d0 _ _ _ h4] at hp
        rcases List.mem_append.1 hp with hp | hp
        · exact h.small p hp
        · rw [List.mem_singleton.1 hp]; exact hsz
  · have h5 : ¬ (restR L m.1).length = L.length := fun e => h4 (hget.trans (rest_len.1 e))
    rw [if_neg (fun e => h4 e.1), if_neg (fun e => h5 e.1)]
    have hp := mset_perm (l := l) (k := m.1) (x := m)
    refine ⟨rfl, h.rel.set ordS m, ?_, fun p hpm => ?_⟩
    · have h6 := hp.length_eq
      have hlt : (mdel l m.1).length < l.length := by
        rw [q_bh h.rel.nd]
        refine Nat.lt_of_le_of_ne (List.length_filter_le _ _) fun e => ?_
        rw [List.length_filter_eq_length_iff] at e
        refine h4 ((q_a7 _ _).2 fun hm => ?_)
        obtain ⟨q, hq, e2⟩ := List.mem_map.1 hm
        have := e q hq
        simp [e2] at this
      have := h.len
      simp only [List.length_cons] at h6
      simp only
      omega
    · rcases List.mem_cons.1 (hp.mem_iff.1 hpm) with rfl | hpm
      · exact hsz
      · rw [q_bh h.rel.nd] at hpm
        exact h.small p (List.mem_filter.1 hpm).1
theorem Sto.hit (h : Sto most l L) (f : ByteArray) : hitP l f (sortS (l.map (·.1))) = hitR L f := by
  unfold hitP hitR
  rw [h.rel.sorted]
  have : ∀ T : List MsgT, (∀ m ∈ T, m ∈ L) → (List.filter (matchB f) (T.map fun m => m.1)).map (fun n => (mget l n).getD zM) = T.filter fun m => matchB f m.1 := by
    intro T
    induction T with
    | nil => intro _; rfl
    | cons m T ih =>
      intro hT
      have ih := ih fun m hm => hT m (List.mem_cons_of_mem _ hm)
      rw [List.map_cons, List.filter_cons, List.filter_cons]
      split
      · rw [List.map_cons, ih, h.rel.of_mem ordS (hT m (List.mem_cons_self ..))]
        rfl
      · exact ih
  exact this L fun _ hm => hm
end Go.Proofs.YtidlldnlphdhcaaGreatDoor
namespace Go.Proofs.YtidlldnlphdhcaaGreatDoor
set_option linter.unusedSimpArgs false
set_option linter.unusedVariables false
open Go.H Go.Proofs Go.Shelf
def keysI_ren : Go.Shelf.Ren := ⟨fun n => match n with | 7 => 267 | 10 => 272 | n => n, fun n => match n with | 23 => 73 | 26 => 3 | 3 => 4 | 28 => 123 | 0 => 0 | 27 => 122 | 33 => 196 | 4 => 4 | n => n, fun n => n⟩
theorem keysI : SlLaysZI.n7 Tryz.prog keysI_ren where
  mixed := by kernel_rfl
  f7 := ⟨Tryz.f267.name, by kernel_rfl, Tryz.func267.trans (congrArg some (by kernel_rfl))⟩
  f10 := ⟨Tryz.f272.name, by kernel_rfl, Tryz.func272.trans (congrArg some (by kernel_rfl))⟩
  t0 := Tryz.underlying0
  a0 := Tryz.isAgg0
  z0 := Tryz.sizeOf0
  v0 := Tryz.zeroValue0
  t4 := Tryz.underlying4
  a4 := Tryz.isAgg4
  z4 := Tryz.sizeOf4
  v4 := Tryz.zeroValue4
  t23 := Tryz.underlying73
  a23 := Tryz.isAgg73
  z23 := Tryz.sizeOf73
  v23 := Tryz.zeroValue73
  t26 := Tryz.underlying3
  a26 := Tryz.isAgg3
  z26 := Tryz.sizeOf3
  v26 := Tryz.zeroValue3
  t27 := Tryz.underlying122
  a27 := Tryz.isAgg122
  z27 := Tryz.sizeOf122
  v27 := Tryz.zeroValue122
  t28 := Tryz.underlying123
  a28 := Tryz.isAgg123
  z28 := Tryz.sizeOf123
  v28 := Tryz.zeroValue123
  t33 := Tryz.underlying196
  a33 := Tryz.isAgg196
  z33 := Tryz.sizeOf196
  v33 := Tryz.zeroValue196
def sortedI_ren : Go.Shelf.Ren := ⟨fun n => match n with | 6 => 40 | 8 => 75 | 9 => 76 | 11 => 121 | 13 => 123 | 12 => 122 | 23 => 180 | 24 => 181 | 14 => 171 | 15 => 172 | 16 => 173 | 17 => 174 | 18 => 175 | 19 => 176 | 20 => 177 | 21 => 178 | 22 => 179 | 25 => 213 | 26 => 214 | 27 => 215 | 28 => 216 | 29 => 217 | 30 => 218 | 31 => 252 | n => n, fun n => match n with | 26 => 3 | 28 => 123 | 24 => 64 | 0 => 0 | 3 => 3 | 37 => 263 | 48 => 315 | 50 => 317 | 4 => 4 | 40 => 308 | 39 => 307 | 45 => 180 | 5 => 5 | 9 => 9 | 51 => 343 | 55 => 347 | 57 => 378 | 58 => 361 | 33 => 196 | n => n, fun n => n⟩
theorem sortedI : SlLaysZI.n6 Tryz.prog sortedI_ren where
  mixed := by kernel_rfl
  f6 := ⟨Tryz.f40.name, by kernel_rfl, Tryz.func40.trans (congrArg some (by kernel_rfl))⟩
  f8 := ⟨Tryz.f75.name, by kernel_rfl, Tryz.func75.trans (congrArg some (by kernel_rfl))⟩
  f11 := ⟨Tryz.f121.name, by kernel_rfl, Tryz.func121.trans (congrArg some (by kernel_rfl))⟩
  t0 := Tryz.underlying0
  a0 := Tryz.isAgg0
  z0 := Tryz.sizeOf0
  v0 := Tryz.zeroValue0
  t24 := Tryz.underlying64
  a24 := Tryz.isAgg64
  z24 := Tryz.sizeOf64
  v24 := Tryz.zeroValue64
  t26 := Tryz.underlying3
  a26 := Tryz.isAgg3
  z26 := Tryz.sizeOf3
  v26 := Tryz.zeroValue3
  t28 := Tryz.underlying123
  a28 := Tryz.isAgg123
  z28 := Tryz.sizeOf123
  v28 := Tryz.zeroValue123
  i26 := by kernel_rfl
def sortMI_ren : Go.Shelf.Ren := ⟨fun n => match n with | 5 => 76 | 8 => 123 | 7 => 122 | 19 => 180 | 20 => 181 | 10 => 171 | 11 => 172 | 12 => 173 | 13 => 174 | 14 => 175 | 15 => 176 | 16 => 177 | 17 => 178 | 18 => 179 | 30 => 213 | 31 => 214 | 32 => 215 | 33 => 216 | 34 => 217 | 35 => 218 | 40 => 252 | n => n, fun n => match n with | 23 => 64 | 25 => 3 | 3 => 3 | 32 => 263 | 22 => 64 | 0 => 0 | 44 => 315 | 46 => 317 | 4 => 4 | 36 => 308 | 35 => 307 | 41 => 180 | 5 => 5 | 9 => 9 | 53 => 343 | 57 => 347 | 63 => 378 | 64 => 361 | n => n, fun n => n⟩
theorem sortMI : SlLaysM.n5 Tryz.prog sortMI_ren where
  mixed := by kernel_rfl
  f5 := ⟨Tryz.f76.name, by kernel_rfl, Tryz.func76.trans (congrArg some (by kernel_rfl))⟩
  f7 := ⟨Tryz.f122.name, by kernel_rfl, Tryz.func122.trans (congrArg some (by kernel_rfl))⟩
  f8 := Tryz.func123.trans (congrArg some (by kernel_rfl))
  f10 := ⟨Tryz.f171.name, by kernel_rfl, Tryz.func171.trans (congrArg some (by kernel_rfl))⟩
  f11 := ⟨Tryz.f172.name, by kernel_rfl, Tryz.func172.trans (congrArg some (by kernel_rfl))⟩
  f12 := ⟨Tryz.f173.name, by kernel_rfl, Tryz.func173.trans (congrArg some (by kernel_rfl))⟩
  f13 := ⟨Tryz.f174.name, by kernel_rfl, Tryz.func174.trans (congrArg some (by kernel_rfl))⟩
  f14 := ⟨Tryz.f175.name, by kernel_rfl, Tryz.func175.trans (congrArg some (by kernel_rfl))⟩
  f15 := ⟨Tryz.f176.name, by kernel_rfl, Tryz.func176.trans (congrArg some (by kernel_rfl))⟩
  f16 := ⟨Tryz.f177.name, by kernel_rfl, Tryz.func177.trans (congrArg some (by kernel_rfl))⟩
  f17 := ⟨Tryz.f178.name, by kernel_rfl, Tryz.func178.trans (congrArg some (by kernel_rfl))⟩
  f18 := ⟨Tryz.f179.name, by kernel_rfl, Tryz.func179.trans (congrArg some (by kernel_rfl))⟩
  f19 := Tryz.func180.trans (congrArg some (by kernel_rfl))
  f20 := Tryz.func181.trans (congrArg some (by kernel_rfl))
  f30 := ⟨Tryz.f213.name, by kernel_rfl, Tryz.func213.trans (congrArg some (by kernel_rfl))⟩
  f31 := Tryz.func214.trans (congrArg some (by kernel_rfl))
  f32 := Tryz.func215.trans (congrArg some (by kernel_rfl))
  f33 := ⟨Tryz.f216.name, by kernel_rfl, Tryz.func216.trans (congrArg some (by kernel_rfl))⟩
  f34 := ⟨Tryz.f217.name, by kernel_rfl, Tryz.func217.trans (congrArg some (by kernel_rfl))⟩
  f35 := ⟨Tryz.f218.name, by kernel_rfl, Tryz.func218.trans (congrArg some (by kernel_rfl))⟩
  f40 := ⟨Tryz.f252.name, by kernel_rfl, Tryz.func252.trans (congrArg some (by kernel_rfl))⟩
  t0 := Tryz.underlying0
  a0 := Tryz.isAgg0
  z0 := Tryz.sizeOf0
  v0 := Tryz.zeroValue0
  t3 := Tryz.underlying3
  a3 := Tryz.isAgg3
  z3 := Tryz.sizeOf3
  v3 := Tryz.zeroValue3
  t4 := Tryz.underlying4
  a4 := Tryz.isAgg4
  z4 := Tryz.sizeOf4
  v4 := Tryz.zeroValue4
  t5 := Tryz.underlying5
  a5 := Tryz.isAgg5
  z5 := Tryz.sizeOf5
  v5 := Tryz.zeroValue5
  t9 := Tryz.underlying9
  a9 := Tryz.isAgg9
  z9 := Tryz.sizeOf9
  v9 := Tryz.zeroValue9
  t22 := Tryz.underlying64
  a22 := Tryz.isAgg64
  z22 := Tryz.sizeOf64
  v22 := Tryz.zeroValue64
  t23 := Tryz.underlying64
  a23 := Tryz.isAgg64
  z23 := Tryz.sizeOf64
  v23 := Tryz.zeroValue64
  t25 := Tryz.underlying3
  a25 := Tryz.isAgg3
  z25 := Tryz.sizeOf3
  v25 := Tryz.zeroValue3
  t32 := Tryz.underlying263
  a32 := Tryz.isAgg263
  z32 := Tryz.sizeOf263
  v32 := Tryz.zeroValue263
  t35 := Tryz.underlying307
  a35 := Tryz.isAgg307
  z35 := Tryz.sizeOf307
  v35 := Tryz.zeroValue307
  t36 := Tryz.underlying308
  a36 := Tryz.isAgg308
  z36 := Tryz.sizeOf308
  v36 := Tryz.zeroValue308
  t41 := Tryz.underlying180
  a41 := Tryz.isAgg180
  z41 := Tryz.sizeOf180
  v41 := Tryz.zeroValue180
  t44 := Tryz.underlying315
  a44 := Tryz.isAgg315
  z44 := Tryz.sizeOf315
  v44 := Tryz.zeroValue315
  t46 := Tryz.underlying317
  a46 := Tryz.isAgg317
  z46 := Tryz.sizeOf317
  v46 := Tryz.zeroValue317
  t53 := Tryz.underlying343
  a53 := Tryz.isAgg343
  z53 := Tryz.sizeOf343
  v53 := Tryz.zeroValue343
  t57 := Tryz.underlying347
  a57 := Tryz.isAgg347
  z57 := Tryz.sizeOf347
  v57 := Tryz.zeroValue347
  t63 := Tryz.underlying378
  a63 := Tryz.isAgg378
  z63 := Tryz.sizeOf378
  v63 := Tryz.zeroValue378
  t64 := Tryz.underlying361
  a64 := Tryz.isAgg361
  z64 := Tryz.sizeOf361
  v64 := Tryz.zeroValue361
end Go.Proofs.YtidlldnlphdhcaaGreatDoor
namespace Go.Proofs.YtidlldnlphdhcaaGreatDoor
set_option linter.unusedSimpArgs false
open Go.H Go.Proofs
set_option linter.unusedVariables false
set_option synthInstance.maxSize 100000
set_option synthInstance.maxHeartbeats 400000
theorem eI_len (x : Int) : (eI x).length = 1 := rfl
theorem Used_spec {h : Heap} {R : List Asn} {b : Nat} {s : PoolS} (hs : sat h (poolA b s :: R)) {Q : Value → Heap → Prop}
    (hq : ∀ (sl : Slc) h', sat h' (ownS eI 1 sl (sortI s.used) :: poolA b s :: R) → Q (.slice sl.a sl.len sl.cap) h') : HCalls Tryz.prog 251 #[at0 b] h Q := by
  refine ids_Pool_Used_calls _ h Q ?_
  obtain ⟨m, hok, hs'⟩ := q_a9.1 hs
  have c2 : cellH h ⟨b, 2, none⟩ = some (.map (some m)) := hs'.cell 2
  unfold q_gb
  simp [c2]
  refine keysI_call (ρk := keysI_ren) keysI (some m) ?_
  simp only [un_any]
  have hs2 := (hs'.push_cells (T := keysI_ren.t 23) (cs := #[.map (some m)]))
  have hk := hok.range
  have hl := hok.len
  have hm := hok.most64
  refine sortedI_call (ρk := keysI_ren) (ρs := sortedI_ren) (ρt := sortMI_ren) keysI sortedI sortMI rfl (enters_of Tryz.func76 (by kernel_rfl) rfl) (enters_of Tryz.func272 (by kernel_rfl) rfl) hs2.p2
    (fun p hp => ?_) ?_ (hs2.cell 0) fun sl h' hs3 => ?_
  · obtain ⟨k, hk', rfl⟩ := List.mem_map.1 hp
    have := hk k hk'
    simp [Lit.wf, IntKind.min, IntKind.max, IntKind.bits, IntKind.signed]
    omega
  · simp [asMap]; omega
  · simp only [un_slc, HM.pure_apply]
    refine hq sl h' ?_
    have e : (asMap s.used).map (·.1) = s.used := by simp [asMap, Function.comp_def]
    rw [e] at hs3
    exact (q_a9.2 ⟨m, hok, (hs3.p3.p3.drop.p2.p1)⟩).p1
end Go.Proofs.YtidlldnlphdhcaaGreatDoor
