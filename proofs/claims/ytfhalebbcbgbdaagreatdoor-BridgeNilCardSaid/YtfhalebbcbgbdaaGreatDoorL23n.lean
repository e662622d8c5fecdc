/-
  L23n: law BridgeNil over heaps.
-/
import Derived.Test.YtfhalebbcbgbdaaGreatDoorCbrg
import Derived.Test.YtfhalebbcbgbdaaGreatDoorCpk
namespace Go.Proofs.YtfhalebbcbgbdaaGreatDoor
open Go.H Go.Proofs Go.Lib
set_option linter.unusedSimpArgs false
set_option linter.unusedVariables false
set_option synthInstance.maxSize 100000
set_option synthInstance.maxHeartbeats 400000
set_option maxRecDepth 100000

variable {h h0 : Heap} {R : List Asn}

abbrev LbU := Int × Int × Int × Int × Unit
abbrev MgU := ByteArray × ByteArray × Int × Bool × ByteArray × Unit
abbrev cLb (a b c d : Int) : Array Value := #[.int .i64 a, .int .i64 b, .int .i64 c, .int .i64 d]
abbrev cMg (m : MgU) : Array Value := #[.string m.1, .string m.2.1, .int .i64 m.2.2.1, .bool m.2.2.2.1, .string m.2.2.2.2.1]

theorem labels_spec (hs : sat h R) {a b c d : Int} {Q : Value → Heap → Prop} (hq : ∀ h', sat h' R → Q (.tuple #[.agg (cLb a b c d), .agg (cLb a b c d)]) h') : HCalls Tryz.prog 14 #[.agg (cLb a b c d)] h Q := by
  refine law23_labels_calls (a, b, c, d, ()) h Q ?_
  unfold law23_labels
  refine new_cells hs fun x1 h1 hs1 => ?_
  refine new_cells hs1 fun x2 h2 hs2 => ?_
  refine new_cells hs2 fun x3 h3 hs3 => ?_
  have g : ∀ {h' : Heap} {R' : List Asn}, sat h' (cells x1 (cLb a b c d) :: R') → cellH h' ⟨x1, 0, none⟩ = some (.int .i64 a) ∧ cellH h' ⟨x1, 1, none⟩ = some (.int .i64 b) ∧ cellH h' ⟨x1, 2, none⟩ = some (.int .i64 c) ∧ cellH h' ⟨x1, 3, none⟩ = some (.int .i64 d) := fun hs' => ⟨hs'.cell 0, hs'.cell 1, hs'.cell 2, hs'.cell 3⟩
  obtain ⟨g0, g1, g2, g3⟩ := g hs3.p2
  refine ⟨a, by rw [add_own]; exact g0, b, by rw [add_own]; exact g1, c, by rw [add_own]; exact g2, d, by rw [add_own]; exact g3, a, by rw [add_own]; exact g0, b, by rw [add_own]; exact g1, c, by rw [add_own]; exact g2, d, by rw [add_own]; exact g3, ?_⟩
  (try dsimp only); rw [HM.bind_apply]
  refine storeN_all' hs3.p1 rfl rfl fun h4 hs4 => ?_
  have hs4' : sat h4 (cells x1 (cLb a b c d) :: cells x2 (cLb a b c d) :: cells x3 (cLb 0 0 0 0) :: R) := hs4.p2
  clear hs4 hs3 hs2 hs1 g0 g1 g2 g3
  obtain ⟨g0, g1, g2, g3⟩ := g hs4'
  refine ⟨d, by rw [add_own]; exact g3, rfl, c, by rw [add_own]; exact g2, rfl, b, by rw [add_own]; exact g1, rfl, a, by rw [add_own]; exact g0, rfl, ?_⟩
  (try dsimp only); rw [HM.bind_apply]
  refine storeN_all' hs4'.p2 rfl rfl fun h5 hs5 => ?_
  have hs5' : sat h5 (cells x2 (cLb a b c d) :: cells x3 (cLb a b c d) :: cells x1 (cLb a b c d) :: R) := hs5.re [2, 0, 1]
  refine loadN_cells (ts := [.int .i64, .int .i64, .int .i64, .int .i64]) (a, b, c, d, ()) hs5' rfl ?_
  refine loadN_cells (ts := [.int .i64, .int .i64, .int .i64, .int .i64]) (a, b, c, d, ()) hs5'.p1 rfl ?_
  exact hq h5 hs5'.drop.drop.drop

theorem SendB_nil (hs : sat h R) {m : MgU} {Q : Value → Heap → Prop} (hq : ∀ h', sat h' R → Q (.tuple #[.slice none 0 0, .int .u8 128]) h') : HCalls Tryz.prog 23 #[.pointer none, .agg (cMg m)] h Q := by
  refine bridge_Bridge_Send_calls none m h Q ?_
  unfold bridge_Bridge_Send
  refine new_cells hs fun x1 h1 hs1 => ?_
  (try dsimp only); rw [HM.ite_apply, if_pos (by rfl)]
  exact hq h1 hs1.drop
theorem AnswerB_nil (hs : sat h R) {p : Pk} {Q : Value → Heap → Prop} (hq : ∀ h', sat h' R → Q (.tuple #[.slice none 0 0, .int .u8 128]) h') : HCalls Tryz.prog 18 #[.pointer none, Pk_v p] h Q := by
  refine bridge_Bridge_Answer_calls none p h Q ?_
  unfold bridge_Bridge_Answer
  refine new_cells hs fun x1 h1 hs1 => ?_
  (try dsimp only); rw [HM.ite_apply, if_pos (by rfl)]
  exact hq h1 hs1.drop
theorem EndB_nil {Q : Value → Heap → Prop} (hq : Q (.tuple #[]) h) : HCalls Tryz.prog 22 #[.pointer none] h Q := by
  refine bridge_Bridge_End_calls none h Q ?_
  unfold bridge_Bridge_End
  rw [HM.bind_apply, HM.ite_apply, if_neg (by simp)]
  exact hq
theorem BeginB_nil {Q : Value → Heap → Prop} (hq : Q (.slice none 0 0) h) : HCalls Tryz.prog 20 #[.pointer none] h Q := by
  refine bridge_Bridge_Begin_calls none h Q ?_
  unfold bridge_Bridge_Begin
  rw [HM.ite_apply, if_pos (by rfl)]
  exact hq
theorem LeftB_nil {Q : Value → Heap → Prop} (hq : Q (.slice none 0 0) h) : HCalls Tryz.prog 26 #[.pointer none] h Q := by
  refine bridge_Bridge_Left_calls none h Q ?_
  unfold bridge_Bridge_Left
  rw [HM.ite_apply, if_pos (by rfl)]
  exact hq
theorem RouteB_nil (hs : sat h R) {a b c d : Int} {m : MgU} {Q : Value → Heap → Prop} (hq : ∀ h', sat h' R → Q (.slice none 0 0) h') : HCalls Tryz.prog 16 #[.pointer none, .agg (cLb a b c d), .agg (cMg m)] h Q := by
  refine bridge_Bridge_Route_calls none (a, b, c, d, ()) m h Q ?_
  unfold bridge_Bridge_Route
  refine new_cells hs fun x1 h1 hs1 => ?_
  refine new_cells hs1 fun x2 h2 hs2 => ?_
  (try dsimp only); rw [HM.bind_apply, HM.ite_apply, if_pos (by rfl)]
  (try dsimp only); rw [HM.pure_apply, HM.ite_apply, if_pos (by rfl)]
  exact hq h2 hs2.drop.drop

theorem BridgeNil_spec (hs : sat h (old h0 :: R)) (ht : TP h0) {a b c d : Int} {m : MgU} {Q : Value → Heap → Prop} (hq : ∀ h' R', sat h' (old h0 :: R') → Q (.bool true) h') :
    HCalls Tryz.prog 6 #[.agg (cLb a b c d), .agg (cMg m)] h Q := by
  refine law23_BridgeNil_calls (a, b, c, d, ()) m h Q ?_
  unfold law23_BridgeNil
  refine new_cells hs fun x1 h1 hs1 => ?_
  refine new_cells hs1 fun x2 h2 hs2 => ?_
  refine loadN_cells (ts := [.int .i64, .int .i64, .int .i64, .int .i64]) (a, b, c, d, ()) hs2.p1 rfl ?_
  refine bind_callN (labels_spec hs2 fun h3 hs3 => ⟨((a, b, c, d, ()), (a, b, c, d, ()), ()), rfl, ?_⟩)
  refine new_cells hs3 fun x5 h4 hs4 => ?_
  refine new_cells hs4 fun x6 h5 hs5 => ?_
  (try dsimp only); rw [HM.bind_apply]
  refine storeN_all' hs5.p1 rfl rfl fun h6 hs6 => ?_
  (try dsimp only); rw [HM.bind_apply]
  refine storeN_all' hs6.p1 rfl rfl fun h7 hs7' => ?_
  have hs7 : sat h7 (cells x2 (cMg m) :: cells x5 (cLb a b c d) :: old h0 :: cells x6 (cLb a b c d) :: cells x1 (cLb a b c d) :: R) := hs7'.re [2, 1, 4, 0, 3]
  clear hs7' hs6 hs5 hs4 hs3 hs2 hs1
  refine loadN_cells (ts := [.str, .str, .int .i64, .bool, .str]) m hs7 rfl ?_
  refine bind_callN (SendB_nil (m := m) hs7 fun h8 hs8 => ⟨(⟨none, 0, 0⟩, 128, ()), rfl, ?_⟩)
  refine bind_callN (AnswerB_nil (p := Pk_a 4 1 0) hs8 fun h9 hs9 => ⟨(⟨none, 0, 0⟩, 128, ()), rfl, ?_⟩)
  refine bind_callN (EndB_nil ⟨(), rfl, ?_⟩)
  refine bind_call1 (wakes23_spec hs9.p2 ht fun h10 hs10 => ⟨true, rfl, ?_⟩)
  (try dsimp only); rw [HM.ite_apply, if_pos rfl, HM.ite_apply, if_pos (by rfl), HM.ite_apply, if_pos (by rfl)]
  refine loadN_cells (ts := [.int .i64, .int .i64, .int .i64, .int .i64]) (a, b, c, d, ()) hs10.p2 rfl ?_
  refine loadN_cells (ts := [.str, .str, .int .i64, .bool, .str]) m hs10.p1 rfl ?_
  refine bind_call1 (RouteB_nil (m := m) hs10 fun h11 hs11 => ⟨⟨none, 0, 0⟩, rfl, ?_⟩)
  (try dsimp only); rw [HM.ite_apply, if_pos (by rfl)]
  refine bind_call1 (BeginB_nil ⟨⟨none, 0, 0⟩, rfl, ?_⟩)
  (try dsimp only); rw [HM.ite_apply, if_pos (by rfl)]
  refine bind_call1 (LeftB_nil ⟨⟨none, 0, 0⟩, rfl, ?_⟩)
  exact hq h11 _ hs11

end Go.Proofs.YtfhalebbcbgbdaaGreatDoor
