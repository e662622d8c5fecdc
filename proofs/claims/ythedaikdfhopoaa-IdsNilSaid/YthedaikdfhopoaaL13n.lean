/-
  L13n: the law IdsNil over heaps.
-/
import Derived.Test.YthedaikdfhopoaaC13
import Derived.Test.YthedaikdfhopoaaHw
namespace Go.Proofs.Ythedaikdfhopoaa
open Go.H Go.Proofs

theorem Used_nil {h : Heap} {Q : Value → Heap → Prop} (hq : Q (.slice none 0 0) h) : HCalls Try.prog 18 #[.pointer none] h Q := by
  refine ids_Pool_Used_calls _ h Q ?_
  unfold ids_Pool_Used
  simpa using hq

theorem IdsNil_spec {h : Heap} {R : List Asn} {k : Int} (hs : sat h R) {Q : Value → Heap → Prop}
    (hq : ∀ h', sat h' R → Q (.bool true) h') : HCalls Try.prog 6 #[.int .i64 k] h Q := by
  refine law13_IdsNil_calls k h Q ?_
  unfold law13_IdsNil
  simp
  refine Take_nil ?_
  simp
  refine wakes_spec hs fun h1 hs1 => ?_
  simp
  refine Claim_nil ?_
  simp
  refine Free_nil ?_
  simp
  refine Used_nil ?_
  simp
  refine Left_nil ?_
  simp
  exact hq _ hs1

end Go.Proofs.Ythedaikdfhopoaa
