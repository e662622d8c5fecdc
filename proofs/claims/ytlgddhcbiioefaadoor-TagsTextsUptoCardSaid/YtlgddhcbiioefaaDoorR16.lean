/-
  R16: readers of the arguments of aqueductlaw16's laws.
-/
import Derived.Test.YtlgddhcbiioefaaDoorHo
import Derived.Test.YtlgddhcbiioefaaDoorProg
import Derived.KernelRfl
namespace Go.Proofs.YtlgddhcbiioefaaDoor
set_option linter.unusedSimpArgs false
set_option linter.unusedVariables false
open Go.H Go.Proofs

abbrev good16 (x : Int × Int) : Prop := (Lit.int .i64 x.1).wf = true ∧ (Lit.int .i64 x.2).wf = true

abbrev good16L (x : (Int × Int) × Int × Int) : Prop := good16 x.1 ∧ (Lit.int .i64 x.2.1).wf = true ∧ (Lit.int .i64 x.2.2).wf = true

section
variable {H : Type} {ec : TypeId × Value → H} {w : World} {base : Nat} {sp : Nat → Bool} {held : Bool}
theorem rd_Tag16 : RdOK ec Tryd.prog w base sp held 104 (fun x : Int × Int => [.int .i64 x.1, .int .i64 x.2]) good16 :=
  rd_struct2 Tryd.underlying104 (by kernel_rfl) (by rfl) (by kernel_rfl) (rd_int Tryd.underlying3) (rd_int Tryd.underlying2)
theorem rd_Tags16 : RdOK ec Tryd.prog w base sp held 99 (fun x : Slc × List (Int × Int) => [.slice x.1.a x.1.len x.1.cap]) (GoodS (fun x : Int × Int => [.int .i64 x.1, .int .i64 x.2]) 2 w.heap good16) :=
  rd_slice Tryd.underlying99 (by kernel_rfl) rd_Tag16
theorem rd_Label16 : RdOK ec Tryd.prog w base sp held 125 (fun x : (Int × Int) × Int × Int => [.int .i64 x.1.1, .int .i64 x.1.2, .int .i64 x.2.1, .int .i64 x.2.2]) good16L :=
  rd_struct3 Tryd.underlying125 (by kernel_rfl) (by rfl) (by kernel_rfl) (by kernel_rfl) rd_Tag16 (rd_int Tryd.underlying3) (rd_int Tryd.underlying3)
end

end Go.Proofs.YtlgddhcbiioefaaDoor
