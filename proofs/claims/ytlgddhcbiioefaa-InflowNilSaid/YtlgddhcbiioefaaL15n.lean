/-
  L15n: the law InflowNil over heaps.
-/
import Derived.Test.YtlgddhcbiioefaaC15
namespace Go.Proofs.Ytlgddhcbiioefaa
open Go.H Go.Proofs
set_option linter.unusedSimpArgs false
set_option linter.unusedVariables false
set_option synthInstance.maxSize 100000
set_option synthInstance.maxHeartbeats 400000

theorem InflowNil_spec {h h0 : Heap} {a q id why : Int} {cl : Bool} (hs : sat h [old h0]) {Q : Value → Heap → Prop}
    (hq : ∀ h' R, sat h' (old h0 :: R) → Q (.bool true) h') : HCalls Try.prog 5 #[.agg #[.int .i64 a, .int .i64 q, .int .i64 id, .int .u8 why, .bool cl]] h Q := by
  refine law15_InflowNil_calls (a, q, id, why, cl, ()) h Q ?_
  unfold law15_InflowNil
  refine new_cells hs fun ab h1 hs1 => ?_
  refine loadN_cells (a, q, id, why, cl, ()) hs1 rfl ?_
  refine bind_callN (made_spec hs1 a q id why cl fun h2 hs2 => ⟨(Pk_m (kOf a) q id, Pk_m (kOf a) q id, ()), rfl, ?_⟩)
  refine new_cells hs2 fun b1 h3 hs3 => ?_
  refine new_cells hs3 fun b2 h4 hs4 => ?_
  refine storeN_all' hs4.p1 rfl rfl fun h5 hs5 => ?_
  refine storeN_all' hs5.p1 rfl rfl fun h6 hs6 => ?_
  refine loadN_cells (Pk_m (kOf a) q id) hs6.p1 rfl ?_
  have c3 : cellH h6 ⟨ab, 3, none⟩ = some (.int .u8 why) := hs6.p2.cell 3
  refine ⟨why, by rw [add_own]; exact c3, ?_⟩
  refine bind_callN (infTake_nil (p := Pk_m (kOf a) q id) hs6 fun h7 hs7 => ⟨(false, ⟨none, 0, 0⟩, 128, ()), rfl, ?_⟩)
  simp
  refine wakes15_spec hs7 fun h8 hs8 => ?_
  simp
  refine loadN_cells (Pk_m (kOf a) q id) hs8.p1 rfl ?_
  refine infFresh_nil (p := Pk_m (kOf a) q id) hs8 fun h9 hs9 => ?_
  simp
  refine infOpen_nil ?_
  simp
  have c2 : cellH h9 ⟨ab, 2, none⟩ = some (.int .i64 id) := hs9.p2.cell 2
  simp [add_own, c2]
  refine infClaim_nil ?_
  simp
  exact hq _ _ hs9.drop.drop.drop

end Go.Proofs.Ytlgddhcbiioefaa
