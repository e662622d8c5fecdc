/-
  C18: contracts: wakes of law 18; calls on a nil table.
-/
import Derived.Test.YtlgddhcbiioefaaDoorCses
namespace Go.Proofs.YtlgddhcbiioefaaDoor
open Go.H Go.Proofs
set_option linter.unusedSimpArgs false
set_option linter.unusedVariables false
set_option synthInstance.maxSize 100000
set_option synthInstance.maxHeartbeats 400000

theorem good_c : goodName (ByteArray.mk #[99]) := ⟨by decide +kernel, by decide, by decide⟩

theorem one_split {α : Type} {l1 l2 : List α} {p x : α} (h : [x] = l1 ++ p :: l2) : l1 = [] ∧ p = x ∧ l2 = [] := by
  cases l1 with
  | nil => cases h; exact ⟨rfl, rfl, rfl⟩
  | cons a l1 => cases l1 <;> simp at h

theorem wakes18_spec {h h0 : Heap} {R : List Asn} (hs : sat h (old h0 :: R)) (ht : U8 h0) {Q : Value → Heap → Prop} (hq : ∀ h', sat h' (old h0 :: R) → Q (.bool true) h') : HCalls Tryd.prog 14 #[] h Q := by
  refine law18_wakes_calls h Q ?_
  unfold law18_wakes
  refine bind_call1 (sesNew_spec hs fun b h1 hs1 => ⟨some ⟨b, 0, none⟩, rfl, ?_⟩)
  refine bind_callN (Begin_spec hs1 ht (by decide) (by decide) (by decide) (by simp) (fun hb => absurd good_c hb) (fun _ _ hl => absurd hl (by simp)) (fun _ _ l1 p l2 he => absurd he.symm (by simp)) (fun _ L0 hL nb h2 hs2 => ⟨(1, false, 0, ()), rfl, ?_⟩))
  have hL0 : L0 = [] := by
    rcases hL with ⟨-, -, rfl⟩ | ⟨hc, -⟩
    · rfl
    · cases hc
  subst hL0
  clear hL
  have hs2' : sat h2 (tabA b 1 [(nb, newS 1 (ByteArray.mk #[99]) true)] :: old h0 :: R) := hs2
  refine bind_call1 (End_spec (k := 1) hs2' (fun hn => absurd rfl (hn _ (List.mem_cons_self ..))) (fun p hp _ hoff => ?_) (fun l1 p l2 he hi hon hk h3 hs3 => ⟨false, rfl, ?_⟩) (fun l1 p l2 he hi hon hk h3 hs3 => ?_))
  · have := List.mem_singleton.1 hp
    subst this
    cases hoff
  · obtain ⟨rfl, rfl, rfl⟩ := one_split he
    have hs3' : sat h3 (tabA b 1 [(nb, { newS 1 (ByteArray.mk #[99]) true with on := false, out := { (newS 1 (ByteArray.mk #[99]) true).out with on := false } })] :: old h0 :: R) := hs3
    refine bind_callN (Begin_spec hs3' ht (by decide) (by decide) (by decide) (fun p hp => ?_) (fun hb => absurd good_c hb) (fun _ hn _ => absurd rfl (hn _ (List.mem_cons_self ..))) (fun _ _ l1 p l2 he hc h4 hs4 => ?_) (fun _ L0 hL nb' h4 hs4 => ?_))
    · have := List.mem_singleton.1 hp
      subst this
      exact Int.le_refl _
    · obtain ⟨rfl, rfl, rfl⟩ := one_split he
      refine ⟨(1, true, 0, ()), rfl, ?_⟩
      have hs4' : sat h4 (tabA b 1 [(nb, { newS 1 (ByteArray.mk #[99]) false with out := { (newS 1 (ByteArray.mk #[99]) true).out with on := false } })] :: old h0 :: R) := hs4
      refine bind_call1 (End_spec (k := 1) hs4' (fun hn => absurd rfl (hn _ (List.mem_cons_self ..))) (fun p hp _ hoff => ?_) (fun l1 p l2 he hi hon hk h3 hs3 => ?_) (fun l1 p l2 he hi hon hk h5 hs5 => ⟨true, rfl, ?_⟩))
      · have := List.mem_singleton.1 hp
        subst this
        cases hoff
      · obtain ⟨rfl, rfl, rfl⟩ := one_split he
        cases hk
      · obtain ⟨rfl, rfl, rfl⟩ := one_split he
        refine bind_callN (Begin_spec (L := []) hs5 ht (by decide) (by decide) (by decide) (by simp) (fun hb => absurd good_c hb) (fun _ _ hl => absurd hl (by simp)) (fun _ _ l1 p l2 he => absurd he.symm (by simp)) (fun _ L0 hL nb h6 hs6 => ⟨(2, false, 0, ()), rfl, ?_⟩))
        simp
        exact hq h6 hs6.drop
    · rcases hL with ⟨hn, -, -⟩ | ⟨hc, -⟩
      · exact absurd rfl (hn _ (List.mem_cons_self ..))
      · cases hc
  · obtain ⟨rfl, rfl, rfl⟩ := one_split he
    cases hk

/-! ### nil -/

theorem at_nil {h : Heap} {k : Int} {Q : Value → Heap → Prop} (hq : Q (.pointer none) h) : HCalls Tryd.prog 49 #[.pointer none, .int .i64 k] h Q := by
  refine session_Table_at_calls none k h Q ?_
  unfold session_Table_at
  simpa using hq
theorem of_nil {h : Heap} {c : ByteArray} {Q : Value → Heap → Prop} (hq : Q (.pointer none) h) : HCalls Tryd.prog 46 #[.pointer none, .string c] h Q := by
  refine session_Table_of_calls none c h Q ?_
  unfold session_Table_of
  simpa using hq
theorem info_nil {h : Heap} {R : List Asn} (hs : sat h R) {Q : Value → Heap → Prop} (hq : ∀ h', sat h' R → Q (.tuple #[.agg #[.int .i64 0, .string (ByteArray.mk #[]), .bool false, .bool false], .bool false]) h') : HCalls Tryd.prog 57 #[.pointer none] h Q := by
  refine session_info_calls none h Q ?_
  unfold session_info
  refine new_cells hs fun b h1 hs1 => ?_
  simp only [HM.ite_apply, Option.isNone_none, if_true]
  refine storeN_all' hs1 rfl rfl fun h2 hs2 => ?_
  refine loadN_cells (ts := [.int .i64, .str, .bool, .bool]) (0, ByteArray.mk #[], false, false, ()) hs2 rfl ?_
  exact hq h2 hs2.drop
theorem Find_nil {h : Heap} {R : List Asn} (hs : sat h R) {c : ByteArray} {Q : Value → Heap → Prop} (hq : ∀ h', sat h' R → Q (.tuple #[.agg #[.int .i64 0, .string (ByteArray.mk #[]), .bool false, .bool false], .bool false]) h') : HCalls Tryd.prog 21 #[.pointer none, .string c] h Q := by
  refine session_Table_Find_calls none c h Q ?_
  unfold session_Table_Find
  refine new_cells hs fun b h1 hs1 => ?_
  refine bind_call1 (of_nil ⟨none, rfl, ?_⟩)
  refine bind_callN (info_nil hs1 fun h2 hs2 => ⟨((0, ByteArray.mk #[], false, false, ()), false, ()), rfl, ?_⟩)
  refine storeN_all' hs2 rfl rfl fun h3 hs3 => ?_
  refine loadN_cells (ts := [.int .i64, .str, .bool, .bool]) (0, ByteArray.mk #[], false, false, ()) hs3 rfl ?_
  exact hq h3 hs3.drop
theorem Get_nil {h : Heap} {R : List Asn} (hs : sat h R) {k : Int} {Q : Value → Heap → Prop} (hq : ∀ h', sat h' R → Q (.tuple #[.agg #[.int .i64 0, .string (ByteArray.mk #[]), .bool false, .bool false], .bool false]) h') : HCalls Tryd.prog 22 #[.pointer none, .int .i64 k] h Q := by
  refine session_Table_Get_calls none k h Q ?_
  unfold session_Table_Get
  refine new_cells hs fun b h1 hs1 => ?_
  refine bind_call1 (at_nil ⟨none, rfl, ?_⟩)
  refine bind_callN (info_nil hs1 fun h2 hs2 => ⟨((0, ByteArray.mk #[], false, false, ()), false, ()), rfl, ?_⟩)
  refine storeN_all' hs2 rfl rfl fun h3 hs3 => ?_
  refine loadN_cells (ts := [.int .i64, .str, .bool, .bool]) (0, ByteArray.mk #[], false, false, ()) hs3 rfl ?_
  exact hq h3 hs3.drop
theorem End_nil {h : Heap} {k : Int} {Q : Value → Heap → Prop} (hq : Q (.bool false) h) : HCalls Tryd.prog 17 #[.pointer none, .int .i64 k] h Q := by
  refine session_Table_End_calls none k h Q ?_
  unfold session_Table_End
  refine bind_call1 (at_nil ⟨none, rfl, ?_⟩)
  simpa using hq
theorem Out_nil {h : Heap} {k : Int} {Q : Value → Heap → Prop} (hq : Q (.pointer none) h) : HCalls Tryd.prog 15 #[.pointer none, .int .i64 k] h Q := by
  refine session_Table_Out_calls none k h Q ?_
  unfold session_Table_Out
  refine bind_call1 (at_nil ⟨none, rfl, ?_⟩)
  simpa using hq
theorem In_nil {h : Heap} {k : Int} {Q : Value → Heap → Prop} (hq : Q (.pointer none) h) : HCalls Tryd.prog 23 #[.pointer none, .int .i64 k] h Q := by
  refine session_Table_In_calls none k h Q ?_
  unfold session_Table_In
  refine bind_call1 (at_nil ⟨none, rfl, ?_⟩)
  simpa using hq
theorem List_nil {h : Heap} {Q : Value → Heap → Prop} (hq : Q (.slice none 0 0) h) : HCalls Tryd.prog 20 #[.pointer none] h Q := by
  refine session_Table_List_calls none h Q ?_
  unfold session_Table_List
  simpa using hq

theorem SessionNil_spec {h h0 : Heap} (ht : U8 h0) {a k : Int} {c : ByteArray} {clean keep : Bool} (hsz : c.size ≤ 9223372036854775807) (hs : sat h [old h0]) {Q : Value → Heap → Prop}
    (hq : ∀ h' R, sat h' (old h0 :: R) → Q (.bool true) h') : HCalls Tryd.prog 5 #[.agg #[.int .i64 a, .string c, .bool clean, .bool keep, .int .i64 k]] h Q := by
  refine law18_SessionNil_calls (a, c, clean, keep, k, ()) h Q ?_
  unfold law18_SessionNil
  refine new_cells hs fun ab h1 hs1 => ?_
  have hA : ∀ {h' : Heap} {R : List Asn}, sat h' (cells ab #[.int .i64 a, .string c, .bool clean, .bool keep, .int .i64 k] :: R) →
      cellH h' ⟨ab, 1, none⟩ = some (.string c) ∧ cellH h' ⟨ab, 2, none⟩ = some (.bool clean) ∧ cellH h' ⟨ab, 3, none⟩ = some (.bool keep) ∧ cellH h' ⟨ab, 4, none⟩ = some (.int .i64 k) :=
    fun hs' => ⟨hs'.cell 1, hs'.cell 2, hs'.cell 3, hs'.cell 4⟩
  refine ⟨c, by rw [add_own]; exact (hA hs1).1, clean, by rw [add_own]; exact (hA hs1).2.1, keep, by rw [add_own]; exact (hA hs1).2.2.1, ?_⟩
  refine bind_callN (Begin_nil hs1.p1 ht hsz fun h2 hs2 => ⟨(0, false, 128, ()), rfl, ?_⟩)
  refine ⟨c, by rw [add_own]; exact (hA hs2.p1).1, ?_⟩
  refine bind_callN (Find_nil hs2 fun h3 hs3 => ⟨((0, ByteArray.mk #[], false, false, ()), false, ()), rfl, ?_⟩)
  refine new_cells hs3 fun b1 h4 hs4 => ?_
  refine storeN_all' hs4 rfl rfl fun h5 hs5 => ?_
  refine ⟨k, by rw [add_own]; exact (hA hs5.p2).2.2.2, ?_⟩
  refine bind_callN (Get_nil hs5 fun h6 hs6 => ⟨((0, ByteArray.mk #[], false, false, ()), false, ()), rfl, ?_⟩)
  refine new_cells hs6 fun b2 h7 hs7 => ?_
  refine storeN_all' hs7 rfl rfl fun h8 hs8 => ?_
  simp only [HM.bind_apply]
  refine wakes18_spec hs8.p2 ht fun h9 hs9 => ⟨true, rfl, ?_⟩
  have hc := (hA (hs9.re [3, 0, 1, 2])).2.2.2
  simp [add_own, hc]
  refine End_nil ?_
  simp [hc]
  refine Out_nil ?_
  simp [hc]
  refine In_nil ?_
  simp
  refine List_nil ?_
  simp
  exact hq _ _ hs9

end Go.Proofs.YtlgddhcbiioefaaDoor
