/-
  The shallow forms of functions of the program, written by gen.py; each is held against the program by the kernel.
-/
import Derived.Test.YtmdagnoknmfhcaaDoorSg
import Derived.Test.YtmdagnoknmfhcaaDoorProg
import Derived.KernelRfl
namespace Go.Proofs.YtmdagnoknmfhcaaDoor
open Go.H Go.Proofs
set_option linter.unusedVariables false
set_option linter.unusedSimpArgs false
set_option maxRecDepth 100000
set_option maxHeartbeats 4000000

/-- (*strings.Builder).WriteString -/
def strings_Builder_WriteString (p0 : Option Addr) (p1 : ByteArray) : HM (Int × Value × Unit) :=
  HM.bind (α := Unit) (HM.callN Tryd.prog [] 86 #[.pointer p0]) fun (x1 : Unit) =>
  HM.bind (α := Addr) (HM.nonnil p0) fun (x2 : Addr) =>
  HM.bind (α := Slc) (HM.load1 .slc (Addr.add x2 1)) fun (x3 : Slc) =>
  HM.bind (α := Slc) (HM.append 5 1 1 #[.int .u8 0] x3 (ByteArray.size p1) (srcStr p1)) fun (x4 : Slc) =>
  HM.bind (α := Addr) (HM.nonnil p0) fun (x5 : Addr) =>
  HM.bind (α := Unit) (HM.store1 (Addr.add x5 1) (.slice x4.a x4.len x4.cap)) fun (_ : Unit) =>
  HM.pure (((ByteArray.size p1 : Nat) : Int), .nilIface, ())

theorem strings_Builder_WriteString_den (p0 : Option Addr) (p1 : ByteArray) : denFn Tryd.prog [86] 19 [0, 1, 4, 5] [0, 1] Tryd.f52.results.toList [.one (.int .i64), .one .any] (bodyOf Tryd.f52) [Kind.val (.one .ptr) p0, Kind.val (.one .str) p1] = strings_Builder_WriteString p0 p1 := by kernel_rfl
theorem strings_Builder_WriteString_calls (p0 : Option Addr) (p1 : ByteArray) (h : Heap) (Q : Value → Heap → Prop) (hh : strings_Builder_WriteString p0 p1 h fun x h' => Q (.tuple #[.int .i64 x.1, x.2.1]) h') :
    HCalls Tryd.prog 52 #[.pointer p0, .string p1] h Q := by
  rw [← strings_Builder_WriteString_den] at hh
  exact calls_of_den Tryd.func52 (by kernel_rfl) Tryd.ntmps52 (by kernel_rfl) (fun f hf => by
      rcases List.mem_cons.1 hf with rfl | hf
      · exact Tryd.call86
      cases hf) orders hh

end Go.Proofs.YtmdagnoknmfhcaaDoor
