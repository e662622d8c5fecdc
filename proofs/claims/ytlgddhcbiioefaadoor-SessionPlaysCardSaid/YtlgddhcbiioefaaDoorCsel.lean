/-
  Csel: contracts: the list of the sessions; sets as maps.
-/
import Derived.Test.YtlgddhcbiioefaaDoorCses
import Derived.Test.YtlgddhcbiioefaaDoorKses
import Derived.Test.YtlgddhcbiioefaaDoorHx
namespace Go.Proofs.YtlgddhcbiioefaaDoor
open Go.H Go.Proofs
set_option linter.unusedSimpArgs false
set_option linter.unusedVariables false
set_option synthInstance.maxSize 100000
set_option synthInstance.maxHeartbeats 400000

abbrev InT := Int × ByteArray × Bool × Bool
abbrev encN (x : InT) : List Value := [.int .i64 x.1, .string x.2.1, .bool x.2.2.1, .bool x.2.2.2]
def infoOf (s : SesS) : InT := (s.id, s.client, s.keep, s.on)

theorem nodup_of_map {α β : Type} (f : α → β) {l : List α} (hn : (l.map f).Nodup) : l.Nodup :=
  List.Pairwise.of_map f (fun a b hne hab => hne (congrArg f hab)) hn
def AllIn (xs ys : List InT) : Prop := ∀ x ∈ xs, x ∈ ys
theorem eN_len (x : InT) : (encN x).length = 4 := rfl
theorem eN_cell (x : InT) : ∀ v ∈ encN x, v.oneCell' = true := by
  intro v hv; simp at hv; rcases hv with rfl | rfl | rfl | rfl <;> rfl

theorem perm_of_keys {α β : Type} {f : α → β} {l1 l2 : List α} (hm : (l1.map f).Perm (l2.map f)) (hn : (l2.map f).Nodup) (hs : ∀ x ∈ l1, x ∈ l2) : l1.Perm l2 := by
  have hn1 : (l1.map f).Nodup := hm.nodup_iff.2 hn
  refine (List.perm_ext_iff_of_nodup (nodup_of_map f hn1) (nodup_of_map f hn)).2 fun y => ⟨hs y, fun hy => ?_⟩
  obtain ⟨x, hx, he⟩ := List.mem_map.1 (hm.mem_iff.2 (List.mem_map_of_mem hy))
  have hx2 := hs x hx
  have : x = y := by
    obtain ⟨a, b, rfl⟩ := List.append_of_mem hy
    rw [List.map_append, List.map_cons, List.nodup_append] at hn
    rcases List.mem_append.1 hx2 with h | h
    · exact absurd he (hn.2.2 _ (List.mem_map_of_mem h) _ (List.mem_cons_self ..))
    · rcases List.mem_cons.1 h with h | h
      · exact h
      · have h3 := (List.nodup_cons.1 hn.2.1).1
        rw [← he] at h3
        exact absurd (List.mem_map_of_mem h) h3
  exact this ▸ hx

theorem List_spec {h : Heap} {R : List Asn} {b : Nat} {last : Int} {L : List (Nat × SesS)} (hs : sat h (tabA b last L :: R)) (hl1 : last < 4611686018427387904) (hid : ∀ p ∈ L, 0 ≤ p.2.id ∧ p.2.id ≤ last) (hlen : L.length ≤ 32) {Q : Value → Heap → Prop}
    (hq : ∀ (sl : Slc) (xs : List InT) h', xs.map (·.1) = sortI (L.map (·.2.id)) → xs.Perm (L.map fun p => infoOf p.2) → sat h' (ownS encN 4 sl xs :: tabA b last L :: R) → Q (.slice sl.a sl.len sl.cap) h') :
    HCalls Tryd.prog 20 #[at0 b] h Q := by
  refine session_Table_List_calls _ h Q ?_
  obtain ⟨m, hs⟩ := tabA_iff.1 hs
  have c1 : cellH h ⟨b, 1, none⟩ = some (.map (some m)) := hs.cell 1
  have hidn : (L.map (·.2.id)).Nodup := by
    have := hs.p1.map_nodup
    rw [List.map_map] at this
    exact this
  unfold session_Table_List
  simp [c1]
  refine keysI_call (ρk := keysS_ren) keysS (some m) ?_
  simp only [un_any]
  have hs2 := (hs.push_cells (T := keysS_ren.t 23) (cs := #[.map (some m)]))
  refine sortedI_call (ρk := keysS_ren) (ρs := sortedI_ren) (ρt := sortMI_ren) keysS sortedI sortMI rfl (enters_of Tryd.func85 (by kernel_rfl) rfl) (enters_of Tryd.func86 (by kernel_rfl) rfl) hs2.p2
    (fun p hp => ?_) ?_ (hs2.cell 0) fun sl h' hs3 => ?_
  · obtain ⟨q, hq', rfl⟩ := List.mem_map.1 hp
    have := hid q hq'
    simp [Lit.wf, IntKind.min, IntKind.max, IntKind.bits, IntKind.signed, sesE]
    omega
  · simp; omega
  · have e0 : (L.map sesE).map (·.1) = L.map (·.2.id) := by rw [List.map_map]; rfl
    rw [e0] at hs3
    simp only [un_slc]
    have hs4 := (hs3.re [2, 0, 1]).drop
    clear hs2 hs3
    have hlsort : (sortI (L.map (·.2.id))).length = L.length := by simp [sortI, List.length_mergeSort]
    have hsl := hs4.own_len
    rw [hlsort] at hsl
    refine loop_gx (γ := Nat × List InT) (hb := fun s => by
      repeat' with_reducible first
        | refine @mono_bind _ _ _ _ ?_ (fun _ => ?_)
        | refine @mono_ite _ _ _ _ ?_ ?_
      all_goals infer_instance)
      (fun g c h'' => c.2.1 = (g.1 : Int) ∧ g.1 ≤ L.length ∧ g.2.map (·.1) = (sortI (L.map (·.2.id))).take g.1 ∧ AllIn g.2 (L.map fun p => infoOf p.2) ∧
        sat h'' (ownS encN 4 c.1 g.2 :: ownS eI 1 sl (sortI (L.map (·.2.id))) :: mapA eKI eVP m (L.map sesE) :: cells b #[.int .i64 last, .map (some m)] :: bigA (fun p => sesA p.1 p.2) L :: R))
      (fun g => L.length - g.1) (0, []) ⟨rfl, Nat.zero_le _, rfl, fun x hx => (by simp at hx), ownS_nil hs4⟩ ?_
    rintro ⟨i, xs⟩ ⟨out, c, ⟨⟩⟩ h1 ⟨hc, hi, hx1, hx2, hs5⟩
    simp only at hc hi hx1 hx2 hs5
    subst hc
    have next : IntKind.wrap .i64 ((i : Int) + 1) = ((i + 1 : Nat) : Int) := by rw [wrap_id (by omega) (by omega)]; rfl
    simp
    by_cases hlt : i < L.length
    · rw [if_pos (by omega)]
      have hlt' : i < (sortI (L.map (·.2.id))).length := by omega
      refine idx_row (hs5.p1.own_row (by intro x; rfl)) (List.getElem?_eq_getElem hlt') fun a ha => ?_
      generalize hk : (sortI (L.map (·.2.id)))[i] = k at ha
      have e1 : cellH h1 a = some (.int .i64 k) := by simpa [Go.H.add_zero] using ha 0 _ rfl
      have d1 : cellH h1 ⟨b, 1, none⟩ = some (.map (some m)) := by rw [(hs5.re [3, 0, 1, 2]).cell]; rfl
      have hkm : k ∈ L.map (·.2.id) := by
        have := List.getElem_mem hlt'
        rw [hk] at this
        exact (List.mergeSort_perm _ _).mem_iff.1 this
      obtain ⟨p, hp, hpk⟩ := List.mem_map.1 hkm
      simp [e1, d1]
      refine lookup_map kI (kind := .one .ptr) (z := none) rfl (hs5.re [2, 0, 1]) ?_
      have hg : mget (L.map sesE) k = some (some ⟨p.1, 0, none⟩) := by
        obtain ⟨l1, l2, rfl⟩ := List.append_of_mem hp
        cases hgg : mget ((l1 ++ p :: l2).map sesE) k with
        | none =>
          have := (mget_none_iff _ _).1 hgg
          exact absurd (by rw [List.map_map]; exact hkm) this
        | some v =>
          obtain ⟨q, hq', e⟩ := List.mem_map.1 (mget_mem hgg)
          have e2 : q.2.id = k := congrArg Prod.fst e
          have e3 : some ⟨q.1, 0, none⟩ = v := congrArg Prod.snd e
          have hqp : sesE q = sesE p := by
            have hnd := (hs5.re [2, 0, 1]).map_nodup
            have hA : sesE q ∈ (l1 ++ p :: l2).map sesE := List.mem_map_of_mem hq'
            have hB : sesE p ∈ (l1 ++ p :: l2).map sesE := List.mem_map_of_mem hp
            obtain ⟨u1, u2, hu⟩ := List.append_of_mem hB
            rw [hu] at hA hnd
            rw [List.map_append, List.map_cons, List.nodup_append] at hnd
            have hsame : (sesE q).1 = (sesE p).1 := e2.trans hpk.symm
            rcases List.mem_append.1 hA with h | h
            · exact absurd hsame (hnd.2.2 _ (List.mem_map_of_mem h) _ (List.mem_cons_self ..))
            · rcases List.mem_cons.1 h with h | h
              · exact h
              · have h3 := (List.nodup_cons.1 hnd.2.1).1
                rw [← hsame] at h3
                exact absurd (List.mem_map_of_mem h) h3
          have := congrArg Prod.snd hqp
          rw [← e3]
          exact congrArg some this
      rw [hg]
      simp
      obtain ⟨R', hs6⟩ := bigA_mem hp (hs5.re [4, 0, 1, 2, 3])
      obtain ⟨ob, ib, hs7⟩ := sesA_iff.1 hs6
      refine loadN_of (ts := [.int .i64, .str, .bool, .bool]) (p.2.id, p.2.client, p.2.keep, p.2.on, ()) (fun j v hv => ?_) ?_
      · rw [add_own, hs7.cell]
        match j, hv with
        | 0, hv => exact hv
        | 1, hv => exact hv
        | 2, hv => exact hv
        | 3, hv => exact hv
        | j + 4, hv => cases (show (none : Option Value) = some v from hv)
      · try simp only [HM.bind_apply]
        refine app_new (x := infoOf p.2) eN_len eN_cell rfl hs5 (by decide) (by decide) ?_ fun out2 h2 hs8 => ?_
        · have : xs.length = i := by
            have := congrArg List.length hx1
            simp at this
            omega
          omega
        · refine .mk (i + 1, xs ++ [infoOf p.2]) (by simp only []; omega) ⟨next, by simp only []; omega, ?_, fun x hx => ?_, hs8⟩
          · simp only [List.map_append, List.map_cons, List.map_nil, hx1]
            rw [List.take_succ_eq_append_getElem hlt', hk, ← hpk]
            rfl
          · rcases List.mem_append.1 hx with h | h
            · exact hx2 x h
            · rw [List.mem_singleton.1 h]
              exact List.mem_map_of_mem hp
    · rw [if_neg (by omega)]
      rw [List.take_of_length_le (by omega)] at hx1
      refine hq out xs h1 hx1 (perm_of_keys (f := (·.1)) ?_ ?_ hx2) ?_
      · rw [hx1, List.map_map]
        exact List.mergeSort_perm _ _
      · rw [List.map_map]
        exact hidn
      · exact ((tabA_iff.2 ⟨m, hs5.re [3, 2, 4, 0, 1]⟩).re [2, 1, 0]).drop

end Go.Proofs.YtlgddhcbiioefaaDoor
