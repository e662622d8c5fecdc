/-
  R13: readers of the arguments of aqueductlaw13's laws.
-/
import Derived.Test.YthedaikdfhopoaaHo
import Derived.Test.YthedaikdfhopoaaProg
import Derived.KernelRfl
namespace Go.Proofs.Ythedaikdfhopoaa
open Go.H Go.Proofs

abbrev goodA (x : Int × Int × Int) : Prop := (Lit.int .i64 x.1).wf = true ∧ (Lit.int .i64 x.2.1).wf = true ∧ (Lit.int .i64 x.2.2).wf = true

section
variable {H : Type} {ec : TypeId × Value → H} {w : World} {base : Nat} {sp : Nat → Bool} {held : Bool}
theorem rd_Act : RdOK ec Try.prog w base sp held 38 (fun x : Int × Int × Int => [.int .i64 x.1, .int .i64 x.2.1, .int .i64 x.2.2]) goodA :=
  rd_struct3 Try.underlying38 (by kernel_rfl) (by rfl) (by kernel_rfl) (by kernel_rfl) (rd_int Try.underlying3) (rd_int Try.underlying3) (rd_int Try.underlying3)
theorem rd_Acts : RdOK ec Try.prog w base sp held 34 (fun x : Slc × List (Int × Int × Int) => [.slice x.1.a x.1.len x.1.cap]) (GoodS (fun x : Int × Int × Int => [.int .i64 x.1, .int .i64 x.2.1, .int .i64 x.2.2]) 3 w.heap goodA) :=
  rd_slice Try.underlying34 (by kernel_rfl) rd_Act
end

end Go.Proofs.Ythedaikdfhopoaa
