/-
  L16n: the law TagsNil over heaps.
-/
import Derived.Test.YtlgddhcbiioefaaDoorCtxt
namespace Go.Proofs.YtlgddhcbiioefaaDoor
open Go.H Go.Proofs
set_option linter.unusedSimpArgs false
set_option linter.unusedVariables false

theorem tList_nil {h : Heap} {Q : Value → Heap → Prop} (hq : Q (.slice none 0 0) h) : HCalls Tryd.prog 39 #[.pointer none] h Q := by
  refine tags_Set_List_calls none h Q ?_
  unfold tags_Set_List
  simpa using hq

theorem TagsNil_spec {h : Heap} {R : List Asn} {t : TagT} (hs : sat h R) {Q : Value → Heap → Prop} (hq : ∀ h', sat h' R → Q (.bool true) h') :
    HCalls Tryd.prog 9 #[e2 t] h Q := by
  obtain ⟨u, v⟩ := t
  refine law16_TagsNil_calls (u, v, ()) h Q ?_
  unfold law16_TagsNil
  refine new_cells hs fun tb h1 hs1 => ?_
  refine loadN_cells (ts := [.int .i64, .int .i64]) (u, v, ()) hs1 rfl ?_
  refine bind_callN (Add_nil (t := (u, v)) hs1 fun h2 hs2 => ⟨(false, 128, ()), rfl, ?_⟩)
  refine bind_cut (fun x h' => x.1 = true ∧ sat h' R) ?_ ?_
  · refine bind_call1 (wakes16_spec hs2 fun h3 hs3 => ⟨true, rfl, ?_⟩)
    (try dsimp only); rw [HM.ite_apply, if_pos (by rfl), HM.ite_apply, if_pos (by rfl), HM.ite_apply, if_pos (by rfl)]
    refine loadN_cells (ts := [.int .i64, .int .i64]) (u, v, ()) hs3 rfl ?_
    refine bind_call1 (Has_nil (t := (u, v)) hs3 fun h4 hs4 => ⟨false, rfl, ?_⟩)
    (try dsimp only); rw [HM.ite_apply, if_pos (by rfl)]
    refine bind_call1 (Len_nil ⟨0, rfl, ?_⟩)
    (try dsimp only); rw [HM.ite_apply, if_pos (by rfl)]
    refine bind_call1 (tList_nil ⟨⟨none, 0, 0⟩, rfl, ?_⟩)
    exact ⟨rfl, hs4.drop⟩
  · rintro ⟨x, ⟨⟩⟩ h6 ⟨rfl, hs6⟩
    exact hq h6 hs6

end Go.Proofs.YtlgddhcbiioefaaDoor
