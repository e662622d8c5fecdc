/-
  Cw18: contracts: wakes of law 18.
-/
import Derived.Test.YtnmighfcpeifeaaDoorCses
namespace Go.Proofs.YtnmighfcpeifeaaDoor
open Go.H Go.Proofs
set_option linter.unusedSimpArgs false
set_option linter.unusedVariables false
set_option synthInstance.maxSize 100000
set_option synthInstance.maxHeartbeats 400000

theorem good_c : goodName (ByteArray.mk #[99]) := ⟨by decide +kernel, by decide, by decide⟩

theorem one_split {α : Type} {l1 l2 : List α} {p x : α} (h : [x] = l1 ++ p :: l2) : l1 = [] ∧ p = x ∧ l2 = [] := by
  cases l1 with
  | nil => cases h; exact ⟨rfl, rfl, rfl⟩
  | cons a l1 => cases l1 <;> simp at h

theorem wakes18_spec {h h0 : Heap} {R : List Asn} (hs : sat h (old h0 :: R)) (ht : U8 h0) {Q : Value → Heap → Prop} (hq : ∀ h', sat h' (old h0 :: R) → Q (.bool true) h') : HCalls Tryd.prog 12 #[] h Q := by
  refine law18_wakes_calls h Q ?_
  unfold law18_wakes
  refine bind_call1 (sesNew_spec hs fun b h1 hs1 => ⟨some ⟨b, 0, none⟩, rfl, ?_⟩)
  refine bind_callN (Begin_spec hs1 ht (by decide) (by decide) (by decide) (by simp) (fun hb => absurd good_c hb) (fun _ _ hl => absurd hl (by simp)) (fun _ _ l1 p l2 he => absurd he.symm (by simp)) (fun _ L0 hL nb h2 hs2 => ⟨(1, false, 0, ()), rfl, ?_⟩))
  have hL0 : L0 = [] := by
    rcases hL with ⟨-, -, rfl⟩ | ⟨hc, -⟩
    · rfl
    · cases hc
  subst hL0
  clear hL
  have hs2' : sat h2 (tabA b 1 [(nb, newS 1 (ByteArray.mk #[99]) true)] :: old h0 :: R) := hs2
  refine bind_call1 (End_spec (k := 1) hs2' (fun hn => absurd rfl (hn _ (List.mem_cons_self ..))) (fun p hp _ hoff => ?_) (fun l1 p l2 he hi hon hk h3 hs3 => ⟨false, rfl, ?_⟩) (fun l1 p l2 he hi hon hk h3 hs3 => ?_))
  · have := List.mem_singleton.1 hp
    subst this
    cases hoff
  · obtain ⟨rfl, rfl, rfl⟩ := one_split he
    have hs3' : sat h3 (tabA b 1 [(nb, { newS 1 (ByteArray.mk #[99]) true with on := false, out := { (newS 1 (ByteArray.mk #[99]) true).out with on := false } })] :: old h0 :: R) := hs3
    refine bind_callN (Begin_spec hs3' ht (by decide) (by decide) (by decide) (fun p hp => ?_) (fun hb => absurd good_c hb) (fun _ hn _ => absurd rfl (hn _ (List.mem_cons_self ..))) (fun _ _ l1 p l2 he hc h4 hs4 => ?_) (fun _ L0 hL nb' h4 hs4 => ?_))
    · have := List.mem_singleton.1 hp
      subst this
      exact Int.le_refl _
    · obtain ⟨rfl, rfl, rfl⟩ := one_split he
      refine ⟨(1, true, 0, ()), rfl, ?_⟩
      have hs4' : sat h4 (tabA b 1 [(nb, { newS 1 (ByteArray.mk #[99]) false with out := { (newS 1 (ByteArray.mk #[99]) true).out with on := false } })] :: old h0 :: R) := hs4
      refine bind_call1 (End_spec (k := 1) hs4' (fun hn => absurd rfl (hn _ (List.mem_cons_self ..))) (fun p hp _ hoff => ?_) (fun l1 p l2 he hi hon hk h3 hs3 => ?_) (fun l1 p l2 he hi hon hk h5 hs5 => ⟨true, rfl, ?_⟩))
      · have := List.mem_singleton.1 hp
        subst this
        cases hoff
      · obtain ⟨rfl, rfl, rfl⟩ := one_split he
        cases hk
      · obtain ⟨rfl, rfl, rfl⟩ := one_split he
        refine bind_callN (Begin_spec (L := []) hs5 ht (by decide) (by decide) (by decide) (by simp) (fun hb => absurd good_c hb) (fun _ _ hl => absurd hl (by simp)) (fun _ _ l1 p l2 he => absurd he.symm (by simp)) (fun _ L0 hL nb h6 hs6 => ⟨(2, false, 0, ()), rfl, ?_⟩))
        simp
        exact hq h6 hs6.drop
    · rcases hL with ⟨hn, -, -⟩ | ⟨hc, -⟩
      · exact absurd rfl (hn _ (List.mem_cons_self ..))
      · cases hc
  · obtain ⟨rfl, rfl, rfl⟩ := one_split he
    cases hk

end Go.Proofs.YtnmighfcpeifeaaDoor
