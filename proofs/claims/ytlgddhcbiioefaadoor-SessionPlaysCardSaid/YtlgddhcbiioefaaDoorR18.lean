/-
  R18: readers of the arguments of aqueductlaw18's laws.
-/
import Derived.Test.YtlgddhcbiioefaaDoorHo
import Derived.Test.YtlgddhcbiioefaaDoorProg
import Derived.KernelRfl
namespace Go.Proofs.YtlgddhcbiioefaaDoor
set_option linter.unusedSimpArgs false
set_option linter.unusedVariables false
open Go.H Go.Proofs

abbrev good18 (x : Int × ByteArray × Bool × Bool × Int) : Prop := (Lit.int .i64 x.1).wf = true ∧ x.2.1.size ≤ maxLen ∧ True ∧ True ∧ (Lit.int .i64 x.2.2.2.2).wf = true

section
variable {H : Type} {ec : TypeId × Value → H} {w : World} {base : Nat} {sp : Nat → Bool} {held : Bool}
theorem rd_Act18 : RdOK ec Tryd.prog w base sp held 54 (fun x : Int × ByteArray × Bool × Bool × Int => [.int .i64 x.1, .string x.2.1, .bool x.2.2.1, .bool x.2.2.2.1, .int .i64 x.2.2.2.2]) good18 :=
  rd_struct5 Tryd.underlying54 (by kernel_rfl) (by rfl) (by kernel_rfl) (by kernel_rfl) (by kernel_rfl) (by kernel_rfl) (rd_int Tryd.underlying3) (rd_str Tryd.underlying9) (rd_bool Tryd.underlying4) (rd_bool Tryd.underlying4) (rd_int Tryd.underlying3)
theorem rd_Acts18 : RdOK ec Tryd.prog w base sp held 51 (fun x : Slc × List (Int × ByteArray × Bool × Bool × Int) => [.slice x.1.a x.1.len x.1.cap]) (GoodS (fun x : Int × ByteArray × Bool × Bool × Int => [.int .i64 x.1, .string x.2.1, .bool x.2.2.1, .bool x.2.2.2.1, .int .i64 x.2.2.2.2]) 5 w.heap good18) :=
  rd_slice Tryd.underlying51 (by kernel_rfl) rd_Act18
end

end Go.Proofs.YtlgddhcbiioefaaDoor
