/-
  C13u: contracts: Used, the document's pool, equal.
-/
import Derived.Test.YthedaikdfhopoaaC13
import Derived.Test.YthedaikdfhopoaaK13
namespace Go.Proofs.Ythedaikdfhopoaa
open Go.H Go.Proofs
set_option linter.unusedVariables false
set_option synthInstance.maxSize 100000
set_option synthInstance.maxHeartbeats 400000

theorem eI_len (x : Int) : (eI x).length = 1 := rfl
theorem eI_cell (x : Int) : ∀ v ∈ eI x, v.oneCell' = true := by intro v hv; simp at hv; subst hv; rfl

theorem Used_spec {h : Heap} {R : List Asn} {b : Nat} {s : PoolS} (hs : sat h (poolA b s :: R)) {Q : Value → Heap → Prop}
    (hq : ∀ (sl : Slc) h', sat h' (ownS eI 1 sl (sortI s.used) :: poolA b s :: R) → Q (.slice sl.a sl.len sl.cap) h') : HCalls Try.prog 18 #[at0 b] h Q := by
  refine ids_Pool_Used_calls _ h Q ?_
  obtain ⟨m, hok, hs'⟩ := poolA_iff.1 hs
  have c2 : cellH h ⟨b, 2, none⟩ = some (.map (some m)) := hs'.cell 2
  unfold ids_Pool_Used
  simp [c2]
  refine keysI_call (ρk := keysI_ren) keysI (some m) ?_
  simp only [un_any]
  have hs2 := (hs'.push_cells (T := keysI_ren.t 23) (cs := #[.map (some m)]))
  have hk := hok.range
  have hl := hok.len
  have hm := hok.most64
  refine sortedI_call (ρk := keysI_ren) (ρs := sortedI_ren) (ρt := sortMI_ren) keysI sortedI sortMI rfl (enters_of Try.func24 (by kernel_rfl) rfl) (enters_of Try.func25 (by kernel_rfl) rfl) hs2.p2
    (fun p hp => ?_) ?_ (hs2.cell 0) fun sl h' hs3 => ?_
  · obtain ⟨k, hk', rfl⟩ := List.mem_map.1 hp
    have := hk k hk'
    simp [Lit.wf, IntKind.min, IntKind.max, IntKind.bits, IntKind.signed]
    omega
  · simp [asMap]; omega
  · simp only [un_slc, HM.pure_apply]
    refine hq sl h' ?_
    have e : (asMap s.used).map (·.1) = s.used := by simp [asMap, Function.comp_def]
    rw [e] at hs3
    exact (poolA_iff.2 ⟨m, hok, (hs3.p3.p3.drop.p2.p1)⟩).p1

theorem equal_spec {h : Heap} {R : List Asn} {s t : Slc} {xs ys : List Int} (hx : RowAt eI 1 h s xs) (hy : RowAt eI 1 h t ys) (hb : xs.length ≤ 4611686018427387904) {Q : Value → Heap → Prop}
    (hq : Q (.bool (decide (xs = ys))) h) : HCalls Try.prog 17 #[.slice s.a s.len s.cap, .slice t.a t.len t.cap] h Q := by
  refine law13_equal_calls s t h Q ?_
  unfold law13_equal
  simp
  have h1 := hx.1
  have h2 := hy.1
  by_cases hl : xs.length = ys.length
  · rw [if_pos (by omega)]
    refine loop_gh (γ := Nat) (fun i c h' => h' = h ∧ c.1 = (i : Int) ∧ i ≤ xs.length ∧ xs.take i = ys.take i) (fun i => xs.length - i) 0 ⟨rfl, rfl, Nat.zero_le _, by simp⟩ ?_
    rintro i ⟨c, ⟨⟩⟩ h' ⟨rfl, hc, hi, he⟩
    simp only at hc
    subst hc
    simp
    have next : IntKind.wrap .i64 ((i : Int) + 1) = ((i + 1 : Nat) : Int) := by rw [wrap_id (by omega) (by omega)]; rfl
    by_cases hlt : i < xs.length
    · have hlt' : i < ys.length := by omega
      rw [if_pos (by omega)]
      refine idx_row hx (List.getElem?_eq_getElem hlt) fun a ha => ?_
      have c0 : cellH h' a = some (.int .i64 xs[i]) := by simpa [Go.H.add_zero] using ha 0 _ rfl
      simp [c0]
      refine idx_row hy (List.getElem?_eq_getElem hlt') fun a' ha' => ?_
      have c1 : cellH h' a' = some (.int .i64 ys[i]) := by simpa [Go.H.add_zero] using ha' 0 _ rfl
      simp [c1]
      by_cases hxy : xs[i] = ys[i]
      · simp [hxy]
        refine ⟨i + 1, by omega, next, by omega, ?_⟩
        rw [List.take_succ_eq_append_getElem hlt, List.take_succ_eq_append_getElem hlt', he, hxy]
      · simp [hxy]
        have : ¬ xs = ys := fun e => hxy (by simp [e])
        simpa [this] using hq
    · rw [if_neg (by omega)]
      have e : xs = ys := by
        rw [List.take_of_length_le (by omega), List.take_of_length_le (by omega)] at he
        exact he
      simpa [e] using hq
  · have : ¬ xs = ys := fun e => hl (by rw [e])
    rw [if_neg (by omega)]
    simpa [this] using hq

end Go.Proofs.Ythedaikdfhopoaa
