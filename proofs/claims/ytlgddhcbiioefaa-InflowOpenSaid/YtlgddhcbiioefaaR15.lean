/-
  R15: readers of the arguments of aqueductlaw15's laws.
-/
import Derived.Test.YtlgddhcbiioefaaHo
import Derived.Test.YtlgddhcbiioefaaProg
import Derived.KernelRfl
namespace Go.Proofs.Ytlgddhcbiioefaa
set_option linter.unusedSimpArgs false
set_option linter.unusedVariables false
open Go.H Go.Proofs

abbrev goodT (x : Int × Int × Int × Int × Bool) : Prop := (Lit.int .i64 x.1).wf = true ∧ (Lit.int .i64 x.2.1).wf = true ∧ (Lit.int .i64 x.2.2.1).wf = true ∧ (Lit.int .u8 x.2.2.2.1).wf = true ∧ True

section
variable {H : Type} {ec : TypeId × Value → H} {w : World} {base : Nat} {sp : Nat → Bool} {held : Bool}
theorem rd_Act : RdOK ec Try.prog w base sp held 26 (fun x : Int × Int × Int × Int × Bool => [.int .i64 x.1, .int .i64 x.2.1, .int .i64 x.2.2.1, .int .u8 x.2.2.2.1, .bool x.2.2.2.2]) goodT :=
  rd_struct5 Try.underlying26 (by kernel_rfl) (by rfl) (by kernel_rfl) (by kernel_rfl) (by kernel_rfl) (by kernel_rfl) (rd_int Try.underlying3) (rd_int Try.underlying3) (rd_int Try.underlying3) (rd_int Try.underlying5) (rd_bool Try.underlying4)
theorem rd_Acts : RdOK ec Try.prog w base sp held 22 (fun x : Slc × List (Int × Int × Int × Int × Bool) => [.slice x.1.a x.1.len x.1.cap]) (GoodS (fun x : Int × Int × Int × Int × Bool => [.int .i64 x.1, .int .i64 x.2.1, .int .i64 x.2.2.1, .int .u8 x.2.2.2.1, .bool x.2.2.2.2]) 5 w.heap goodT) :=
  rd_slice Try.underlying22 (by kernel_rfl) rd_Act
end

end Go.Proofs.Ytlgddhcbiioefaa
