/-
  The shallow forms of functions of the program, written by gen.py; each is held against the program by the kernel.
-/
import Derived.Test.YtlgddhcbiioefaaHj
import Derived.Test.YtlgddhcbiioefaaProg
import Derived.KernelRfl
namespace Go.Proofs.Ytlgddhcbiioefaa
open Go.H Go.Proofs
set_option linter.unusedVariables false
set_option linter.unusedSimpArgs false
set_option maxRecDepth 100000

theorem orders : Try.prog.follows .mixedOrders = true := by kernel_rfl

/-- aqueduct/aqueductlaw15.InflowOnce -/
def law15_InflowOnce (p0 : Slc) (p1 : Int) : HM (Bool × Unit) :=
  HM.bind (α := Option Addr) (HM.call1 Try.prog (.one .ptr) 6 #[.int .i64 64]) fun (x1 : Option Addr) =>
  HM.req (65535 ≠ (0 : Int)) <|
  HM.bind (α := Slc) (HM.slice p0 none (some (if 60 < (((p0.len : Nat) : Int) : Int) then 60 else ((p0.len : Nat) : Int))) none 5) fun (x2 : Slc) =>
  HM.bind (α := (Int × Int × Unit) ⊕ (Bool × Unit)) (HM.loop (σ := Int × Int × Unit) (τ := (Int × Int × Unit) ⊕ (Bool × Unit)) (fun (x4 : Int × Int × Unit) =>
  HM.ite (decide (x4.2.1 < (((x2.len : Nat) : Int) : Int))) (
  HM.bind (α := (Int × Unit) ⊕ ((Int × Int × Unit) ⊕ ((Int × Int × Unit) ⊕ (Bool × Unit)))) (HM.bind (α := Addr) (HM.idx x2.a x2.len x4.2.1 5) fun (x6 : Addr) =>
  HM.bind (α := Int × Int × Int × Int × Bool × Unit) (HM.loadN [.int .i64, .int .i64, .int .i64, .int .u8, .bool] x6) fun (x7 : Int × Int × Int × Int × Bool × Unit) =>
  HM.bind (α := Nat) (HM.new (.cells #[.int .i64 0, .int .i64 0, .int .i64 0, .int .u8 0, .bool false] 26)) fun (x8 : Nat) =>
  HM.bind (α := Unit) (HM.storeN ⟨x8, 0, none⟩ [.int .i64 x7.1, .int .i64 x7.2.1, .int .i64 x7.2.2.1, .int .u8 x7.2.2.2.1, .bool x7.2.2.2.2.1]) fun (_ : Unit) =>
  HM.bind (α := Int × Int × Int × Int × Bool × Unit) (HM.loadN [.int .i64, .int .i64, .int .i64, .int .u8, .bool] ⟨x8, 0, none⟩) fun (x9 : Int × Int × Int × Int × Bool × Unit) =>
  HM.bind (α := (Int × Bool × Bool × Int × Int × ByteArray × ByteArray × Int × Slc × Slc × ByteArray × Bool × Int × Bool × ByteArray × ByteArray × Int × Bool × Slc × Bool × Bool × ByteArray × ByteArray × Bool × Slc × Slc × Unit) × (Int × Bool × Bool × Int × Int × ByteArray × ByteArray × Int × Slc × Slc × ByteArray × Bool × Int × Bool × ByteArray × ByteArray × Int × Bool × Slc × Bool × Bool × ByteArray × ByteArray × Bool × Slc × Slc × Unit) × Unit) (HM.callN Try.prog [.agg [.int .i64, .bool, .bool, .int .i64, .int .i64, .str, .str, .int .u8, .slc, .slc, .str, .bool, .int .i64, .bool, .str, .str, .int .i64, .bool, .slc, .bool, .bool, .str, .str, .bool, .slc, .slc], .agg [.int .i64, .bool, .bool, .int .i64, .int .i64, .str, .str, .int .i64, .slc, .slc, .str, .bool, .int .i64, .bool, .str, .str, .int .i64, .bool, .slc, .bool, .bool, .str, .str, .bool, .slc, .slc]] 7 #[.agg #[.int .i64 x9.1, .int .i64 x9.2.1, .int .i64 x9.2.2.1, .int .u8 x9.2.2.2.1, .bool x9.2.2.2.2.1]]) fun (x10 : (Int × Bool × Bool × Int × Int × ByteArray × ByteArray × Int × Slc × Slc × ByteArray × Bool × Int × Bool × ByteArray × ByteArray × Int × Bool × Slc × Bool × Bool × ByteArray × ByteArray × Bool × Slc × Slc × Unit) × (Int × Bool × Bool × Int × Int × ByteArray × ByteArray × Int × Slc × Slc × ByteArray × Bool × Int × Bool × ByteArray × ByteArray × Int × Bool × Slc × Bool × Bool × ByteArray × ByteArray × Bool × Slc × Slc × Unit) × Unit) =>
  HM.bind (α := Nat) (HM.new (.cells #[.int .i64 0, .bool false, .bool false, .int .i64 0, .int .i64 0, .string (ByteArray.mk #[]), .string (ByteArray.mk #[]), .int .u8 0, .slice none 0 0, .slice none 0 0, .string (ByteArray.mk #[]), .bool false, .int .i64 0, .bool false, .string (ByteArray.mk #[]), .string (ByteArray.mk #[]), .int .i64 0, .bool false, .slice none 0 0, .bool false, .bool false, .string (ByteArray.mk #[]), .string (ByteArray.mk #[]), .bool false, .slice none 0 0, .slice none 0 0] 36)) fun (x11 : Nat) =>
  HM.bind (α := Nat) (HM.new (.cells #[.int .i64 0, .bool false, .bool false, .int .i64 0, .int .i64 0, .string (ByteArray.mk #[]), .string (ByteArray.mk #[]), .int .i64 0, .slice none 0 0, .slice none 0 0, .string (ByteArray.mk #[]), .bool false, .int .i64 0, .bool false, .string (ByteArray.mk #[]), .string (ByteArray.mk #[]), .int .i64 0, .bool false, .slice none 0 0, .bool false, .bool false, .string (ByteArray.mk #[]), .string (ByteArray.mk #[]), .bool false, .slice none 0 0, .slice none 0 0] 43)) fun (x12 : Nat) =>
  HM.bind (α := Unit) (HM.storeN ⟨x11, 0, none⟩ [.int .i64 x10.1.1, .bool x10.1.2.1, .bool x10.1.2.2.1, .int .i64 x10.1.2.2.2.1, .int .i64 x10.1.2.2.2.2.1, .string x10.1.2.2.2.2.2.1, .string x10.1.2.2.2.2.2.2.1, .int .u8 x10.1.2.2.2.2.2.2.2.1, .slice x10.1.2.2.2.2.2.2.2.2.1.a x10.1.2.2.2.2.2.2.2.2.1.len x10.1.2.2.2.2.2.2.2.2.1.cap, .slice x10.1.2.2.2.2.2.2.2.2.2.1.a x10.1.2.2.2.2.2.2.2.2.2.1.len x10.1.2.2.2.2.2.2.2.2.2.1.cap, .string x10.1.2.2.2.2.2.2.2.2.2.2.1, .bool x10.1.2.2.2.2.2.2.2.2.2.2.2.1, .int .i64 x10.1.2.2.2.2.2.2.2.2.2.2.2.2.1, .bool x10.1.2.2.2.2.2.2.2.2.2.2.2.2.2.1, .string x10.1.2.2.2.2.2.2.2.2.2.2.2.2.2.2.1, .string x10.1.2.2.2.2.2.2.2.2.2.2.2.2.2.2.2.1, .int .i64 x10.1.2.2.2.2.2.2.2.2.2.2.2.2.2.2.2.2.1, .bool x10.1.2.2.2.2.2.2.2.2.2.2.2.2.2.2.2.2.2.1, .slice x10.1.2.2.2.2.2.2.2.2.2.2.2.2.2.2.2.2.2.2.1.a x10.1.2.2.2.2.2.2.2.2.2.2.2.2.2.2.2.2.2.2.1.len x10.1.2.2.2.2.2.2.2.2.2.2.2.2.2.2.2.2.2.2.1.cap, .bool x10.1.2.2.2.2.2.2.2.2.2.2.2.2.2.2.2.2.2.2.2.1, .bool x10.1.2.2.2.2.2.2.2.2.2.2.2.2.2.2.2.2.2.2.2.2.1, .string x10.1.2.2.2.2.2.2.2.2.2.2.2.2.2.2.2.2.2.2.2.2.2.1, .string x10.1.2.2.2.2.2.2.2.2.2.2.2.2.2.2.2.2.2.2.2.2.2.2.1, .bool x10.1.2.2.2.2.2.2.2.2.2.2.2.2.2.2.2.2.2.2.2.2.2.2.2.1, .slice x10.1.2.2.2.2.2.2.2.2.2.2.2.2.2.2.2.2.2.2.2.2.2.2.2.2.1.a x10.1.2.2.2.2.2.2.2.2.2.2.2.2.2.2.2.2.2.2.2.2.2.2.2.2.1.len x10.1.2.2.2.2.2.2.2.2.2.2.2.2.2.2.2.2.2.2.2.2.2.2.2.2.1.cap, .slice x10.1.2.2.2.2.2.2.2.2.2.2.2.2.2.2.2.2.2.2.2.2.2.2.2.2.2.1.a x10.1.2.2.2.2.2.2.2.2.2.2.2.2.2.2.2.2.2.2.2.2.2.2.2.2.2.1.len x10.1.2.2.2.2.2.2.2.2.2.2.2.2.2.2.2.2.2.2.2.2.2.2.2.2.2.1.cap]) fun (_ : Unit) =>
  HM.bind (α := Unit) (HM.storeN ⟨x12, 0, none⟩ [.int .i64 x10.2.1.1, .bool x10.2.1.2.1, .bool x10.2.1.2.2.1, .int .i64 x10.2.1.2.2.2.1, .int .i64 x10.2.1.2.2.2.2.1, .string x10.2.1.2.2.2.2.2.1, .string x10.2.1.2.2.2.2.2.2.1, .int .i64 x10.2.1.2.2.2.2.2.2.2.1, .slice x10.2.1.2.2.2.2.2.2.2.2.1.a x10.2.1.2.2.2.2.2.2.2.2.1.len x10.2.1.2.2.2.2.2.2.2.2.1.cap, .slice x10.2.1.2.2.2.2.2.2.2.2.2.1.a x10.2.1.2.2.2.2.2.2.2.2.2.1.len x10.2.1.2.2.2.2.2.2.2.2.2.1.cap, .string x10.2.1.2.2.2.2.2.2.2.2.2.2.1, .bool x10.2.1.2.2.2.2.2.2.2.2.2.2.2.1, .int .i64 x10.2.1.2.2.2.2.2.2.2.2.2.2.2.2.1, .bool x10.2.1.2.2.2.2.2.2.2.2.2.2.2.2.2.1, .string x10.2.1.2.2.2.2.2.2.2.2.2.2.2.2.2.2.1, .string x10.2.1.2.2.2.2.2.2.2.2.2.2.2.2.2.2.2.1, .int .i64 x10.2.1.2.2.2.2.2.2.2.2.2.2.2.2.2.2.2.2.1, .bool x10.2.1.2.2.2.2.2.2.2.2.2.2.2.2.2.2.2.2.2.1, .slice x10.2.1.2.2.2.2.2.2.2.2.2.2.2.2.2.2.2.2.2.2.1.a x10.2.1.2.2.2.2.2.2.2.2.2.2.2.2.2.2.2.2.2.2.1.len x10.2.1.2.2.2.2.2.2.2.2.2.2.2.2.2.2.2.2.2.2.1.cap, .bool x10.2.1.2.2.2.2.2.2.2.2.2.2.2.2.2.2.2.2.2.2.2.1, .bool x10.2.1.2.2.2.2.2.2.2.2.2.2.2.2.2.2.2.2.2.2.2.2.1, .string x10.2.1.2.2.2.2.2.2.2.2.2.2.2.2.2.2.2.2.2.2.2.2.2.1, .string x10.2.1.2.2.2.2.2.2.2.2.2.2.2.2.2.2.2.2.2.2.2.2.2.2.1, .bool x10.2.1.2.2.2.2.2.2.2.2.2.2.2.2.2.2.2.2.2.2.2.2.2.2.2.1, .slice x10.2.1.2.2.2.2.2.2.2.2.2.2.2.2.2.2.2.2.2.2.2.2.2.2.2.2.1.a x10.2.1.2.2.2.2.2.2.2.2.2.2.2.2.2.2.2.2.2.2.2.2.2.2.2.2.1.len x10.2.1.2.2.2.2.2.2.2.2.2.2.2.2.2.2.2.2.2.2.2.2.2.2.2.2.1.cap, .slice x10.2.1.2.2.2.2.2.2.2.2.2.2.2.2.2.2.2.2.2.2.2.2.2.2.2.2.2.1.a x10.2.1.2.2.2.2.2.2.2.2.2.2.2.2.2.2.2.2.2.2.2.2.2.2.2.2.2.1.len x10.2.1.2.2.2.2.2.2.2.2.2.2.2.2.2.2.2.2.2.2.2.2.2.2.2.2.2.1.cap]) fun (_ : Unit) =>
  HM.bind (α := Bool × Unit) (HM.bind (α := Int) (HM.load1 (.int .i64) (Addr.add ⟨x11, 0, none⟩ 0)) fun (x13 : Int) =>
  HM.ite (x13 == 3) (
  HM.bind (α := Int) (HM.load1 (.int .i64) (Addr.add ⟨x11, 0, none⟩ 3)) fun (x14 : Int) =>
  HM.ite (x14 == 2) (
  HM.bind (α := Int) (HM.load1 (.int .i64) (Addr.add ⟨x11, 0, none⟩ 4)) fun (x15 : Int) =>
  HM.pure (x15 == (IntKind.wrap .i64 (1 + (Int.tmod (if 0 < (p1 : Int) then p1 else 0) 65535))), ())) (
  HM.pure (false, ()))) (
  HM.pure (false, ()))) fun (x16 : Bool × Unit) =>
  HM.ite x16.1 (
  HM.bind (α := Int × Bool × Bool × Int × Int × ByteArray × ByteArray × Int × Slc × Slc × ByteArray × Bool × Int × Bool × ByteArray × ByteArray × Int × Bool × Slc × Bool × Bool × ByteArray × ByteArray × Bool × Slc × Slc × Unit) (HM.loadN [.int .i64, .bool, .bool, .int .i64, .int .i64, .str, .str, .int .u8, .slc, .slc, .str, .bool, .int .i64, .bool, .str, .str, .int .i64, .bool, .slc, .bool, .bool, .str, .str, .bool, .slc, .slc] ⟨x11, 0, none⟩) fun (x17 : Int × Bool × Bool × Int × Int × ByteArray × ByteArray × Int × Slc × Slc × ByteArray × Bool × Int × Bool × ByteArray × ByteArray × Int × Bool × Slc × Bool × Bool × ByteArray × ByteArray × Bool × Slc × Slc × Unit) =>
  HM.bind (α := Bool × Slc × Int × Unit) (HM.callN Try.prog [.one .bool, .one .slc, .one (.int .u8)] 8 #[.pointer x1, .agg #[.int .i64 x17.1, .bool x17.2.1, .bool x17.2.2.1, .int .i64 x17.2.2.2.1, .int .i64 x17.2.2.2.2.1, .string x17.2.2.2.2.2.1, .string x17.2.2.2.2.2.2.1, .int .u8 x17.2.2.2.2.2.2.2.1, .slice x17.2.2.2.2.2.2.2.2.1.a x17.2.2.2.2.2.2.2.2.1.len x17.2.2.2.2.2.2.2.2.1.cap, .slice x17.2.2.2.2.2.2.2.2.2.1.a x17.2.2.2.2.2.2.2.2.2.1.len x17.2.2.2.2.2.2.2.2.2.1.cap, .string x17.2.2.2.2.2.2.2.2.2.2.1, .bool x17.2.2.2.2.2.2.2.2.2.2.2.1, .int .i64 x17.2.2.2.2.2.2.2.2.2.2.2.2.1, .bool x17.2.2.2.2.2.2.2.2.2.2.2.2.2.1, .string x17.2.2.2.2.2.2.2.2.2.2.2.2.2.2.1, .string x17.2.2.2.2.2.2.2.2.2.2.2.2.2.2.2.1, .int .i64 x17.2.2.2.2.2.2.2.2.2.2.2.2.2.2.2.2.1, .bool x17.2.2.2.2.2.2.2.2.2.2.2.2.2.2.2.2.2.1, .slice x17.2.2.2.2.2.2.2.2.2.2.2.2.2.2.2.2.2.2.1.a x17.2.2.2.2.2.2.2.2.2.2.2.2.2.2.2.2.2.2.1.len x17.2.2.2.2.2.2.2.2.2.2.2.2.2.2.2.2.2.2.1.cap, .bool x17.2.2.2.2.2.2.2.2.2.2.2.2.2.2.2.2.2.2.2.1, .bool x17.2.2.2.2.2.2.2.2.2.2.2.2.2.2.2.2.2.2.2.2.1, .string x17.2.2.2.2.2.2.2.2.2.2.2.2.2.2.2.2.2.2.2.2.2.1, .string x17.2.2.2.2.2.2.2.2.2.2.2.2.2.2.2.2.2.2.2.2.2.2.1, .bool x17.2.2.2.2.2.2.2.2.2.2.2.2.2.2.2.2.2.2.2.2.2.2.2.1, .slice x17.2.2.2.2.2.2.2.2.2.2.2.2.2.2.2.2.2.2.2.2.2.2.2.2.1.a x17.2.2.2.2.2.2.2.2.2.2.2.2.2.2.2.2.2.2.2.2.2.2.2.2.1.len x17.2.2.2.2.2.2.2.2.2.2.2.2.2.2.2.2.2.2.2.2.2.2.2.2.1.cap, .slice x17.2.2.2.2.2.2.2.2.2.2.2.2.2.2.2.2.2.2.2.2.2.2.2.2.2.1.a x17.2.2.2.2.2.2.2.2.2.2.2.2.2.2.2.2.2.2.2.2.2.2.2.2.2.1.len x17.2.2.2.2.2.2.2.2.2.2.2.2.2.2.2.2.2.2.2.2.2.2.2.2.2.1.cap], .int .u8 0]) fun (x18 : Bool × Slc × Int × Unit) =>
  HM.bind (α := Int × Unit) (HM.ite x18.1 (
  HM.pure (IntKind.wrap .i64 (x4.1 + 1), ())) (
  HM.pure (x4.1, ()))) fun (x19 : Int × Unit) =>
  HM.bind (α := Bool × Unit) (HM.ite (!(x18.2.2.1 == 0)) (
  HM.ite (!(x18.2.2.1 == 147)) (
  HM.pure (true, ())) (
  HM.ite (x18.2.2.1 == 0) (
  HM.ite (!(((x18.2.1.len : Nat) : Int) == 1)) (
  HM.pure (true, ())) (
  HM.bind (α := Addr) (HM.idx x18.2.1.a x18.2.1.len 0 26) fun (x20 : Addr) =>
  HM.bind (α := Int) (HM.load1 (.int .i64) (Addr.add x20 0)) fun (x21 : Int) =>
  HM.ite (!(x21 == 5)) (
  HM.pure (true, ())) (
  HM.bind (α := Addr) (HM.idx x18.2.1.a x18.2.1.len 0 26) fun (x22 : Addr) =>
  HM.bind (α := Int) (HM.load1 (.int .i64) (Addr.add x22 4)) fun (x23 : Int) =>
  HM.ite (!(x23 == (IntKind.wrap .i64 (1 + (Int.tmod (if 0 < (p1 : Int) then p1 else 0) 65535))))) (
  HM.pure (true, ())) (
  HM.ite (decide (1 < (x19.1 : Int))) (
  HM.pure (true, ())) (
  HM.ite (x18.2.2.1 == 0) (
  HM.pure (!(x19.1 == 1), ())) (
  HM.pure (false, ()))))))) (
  HM.ite (decide (1 < (x19.1 : Int))) (
  HM.pure (true, ())) (
  HM.ite (x18.2.2.1 == 0) (
  HM.pure (!(x19.1 == 1), ())) (
  HM.pure (false, ())))))) (
  HM.ite (x18.2.2.1 == 0) (
  HM.ite (!(((x18.2.1.len : Nat) : Int) == 1)) (
  HM.pure (true, ())) (
  HM.bind (α := Addr) (HM.idx x18.2.1.a x18.2.1.len 0 26) fun (x24 : Addr) =>
  HM.bind (α := Int) (HM.load1 (.int .i64) (Addr.add x24 0)) fun (x25 : Int) =>
  HM.ite (!(x25 == 5)) (
  HM.pure (true, ())) (
  HM.bind (α := Addr) (HM.idx x18.2.1.a x18.2.1.len 0 26) fun (x26 : Addr) =>
  HM.bind (α := Int) (HM.load1 (.int .i64) (Addr.add x26 4)) fun (x27 : Int) =>
  HM.ite (!(x27 == (IntKind.wrap .i64 (1 + (Int.tmod (if 0 < (p1 : Int) then p1 else 0) 65535))))) (
  HM.pure (true, ())) (
  HM.ite (decide (1 < (x19.1 : Int))) (
  HM.pure (true, ())) (
  HM.ite (x18.2.2.1 == 0) (
  HM.pure (!(x19.1 == 1), ())) (
  HM.pure (false, ()))))))) (
  HM.ite (decide (1 < (x19.1 : Int))) (
  HM.pure (true, ())) (
  HM.ite (x18.2.2.1 == 0) (
  HM.pure (!(x19.1 == 1), ())) (
  HM.pure (false, ())))))) fun (x28 : Bool × Unit) =>
  HM.ite x28.1 (
  HM.pure (.inr (.inr (.inr (false, ()))))) (
  HM.pure (.inl (x19.1, ())))) (
  HM.bind (α := Bool × Unit) (HM.bind (α := Int) (HM.load1 (.int .i64) (Addr.add ⟨x11, 0, none⟩ 0)) fun (x29 : Int) =>
  HM.ite (x29 == 6) (
  HM.bind (α := Int) (HM.load1 (.int .i64) (Addr.add ⟨x11, 0, none⟩ 4)) fun (x30 : Int) =>
  HM.pure (x30 == (IntKind.wrap .i64 (1 + (Int.tmod (if 0 < (p1 : Int) then p1 else 0) 65535))), ())) (
  HM.pure (false, ()))) fun (x31 : Bool × Unit) =>
  HM.bind (α := Int × Bool × Bool × Int × Int × ByteArray × ByteArray × Int × Slc × Slc × ByteArray × Bool × Int × Bool × ByteArray × ByteArray × Int × Bool × Slc × Bool × Bool × ByteArray × ByteArray × Bool × Slc × Slc × Unit) (HM.loadN [.int .i64, .bool, .bool, .int .i64, .int .i64, .str, .str, .int .u8, .slc, .slc, .str, .bool, .int .i64, .bool, .str, .str, .int .i64, .bool, .slc, .bool, .bool, .str, .str, .bool, .slc, .slc] ⟨x11, 0, none⟩) fun (x32 : Int × Bool × Bool × Int × Int × ByteArray × ByteArray × Int × Slc × Slc × ByteArray × Bool × Int × Bool × ByteArray × ByteArray × Int × Bool × Slc × Bool × Bool × ByteArray × ByteArray × Bool × Slc × Slc × Unit) =>
  HM.bind (α := Int) (HM.load1 (.int .u8) (Addr.add ⟨x8, 0, none⟩ 3)) fun (x33 : Int) =>
  HM.bind (α := Bool × Slc × Int × Unit) (HM.callN Try.prog [.one .bool, .one .slc, .one (.int .u8)] 8 #[.pointer x1, .agg #[.int .i64 x32.1, .bool x32.2.1, .bool x32.2.2.1, .int .i64 x32.2.2.2.1, .int .i64 x32.2.2.2.2.1, .string x32.2.2.2.2.2.1, .string x32.2.2.2.2.2.2.1, .int .u8 x32.2.2.2.2.2.2.2.1, .slice x32.2.2.2.2.2.2.2.2.1.a x32.2.2.2.2.2.2.2.2.1.len x32.2.2.2.2.2.2.2.2.1.cap, .slice x32.2.2.2.2.2.2.2.2.2.1.a x32.2.2.2.2.2.2.2.2.2.1.len x32.2.2.2.2.2.2.2.2.2.1.cap, .string x32.2.2.2.2.2.2.2.2.2.2.1, .bool x32.2.2.2.2.2.2.2.2.2.2.2.1, .int .i64 x32.2.2.2.2.2.2.2.2.2.2.2.2.1, .bool x32.2.2.2.2.2.2.2.2.2.2.2.2.2.1, .string x32.2.2.2.2.2.2.2.2.2.2.2.2.2.2.1, .string x32.2.2.2.2.2.2.2.2.2.2.2.2.2.2.2.1, .int .i64 x32.2.2.2.2.2.2.2.2.2.2.2.2.2.2.2.2.1, .bool x32.2.2.2.2.2.2.2.2.2.2.2.2.2.2.2.2.2.1, .slice x32.2.2.2.2.2.2.2.2.2.2.2.2.2.2.2.2.2.2.1.a x32.2.2.2.2.2.2.2.2.2.2.2.2.2.2.2.2.2.2.1.len x32.2.2.2.2.2.2.2.2.2.2.2.2.2.2.2.2.2.2.1.cap, .bool x32.2.2.2.2.2.2.2.2.2.2.2.2.2.2.2.2.2.2.2.1, .bool x32.2.2.2.2.2.2.2.2.2.2.2.2.2.2.2.2.2.2.2.2.1, .string x32.2.2.2.2.2.2.2.2.2.2.2.2.2.2.2.2.2.2.2.2.2.1, .string x32.2.2.2.2.2.2.2.2.2.2.2.2.2.2.2.2.2.2.2.2.2.2.1, .bool x32.2.2.2.2.2.2.2.2.2.2.2.2.2.2.2.2.2.2.2.2.2.2.2.1, .slice x32.2.2.2.2.2.2.2.2.2.2.2.2.2.2.2.2.2.2.2.2.2.2.2.2.1.a x32.2.2.2.2.2.2.2.2.2.2.2.2.2.2.2.2.2.2.2.2.2.2.2.2.1.len x32.2.2.2.2.2.2.2.2.2.2.2.2.2.2.2.2.2.2.2.2.2.2.2.2.1.cap, .slice x32.2.2.2.2.2.2.2.2.2.2.2.2.2.2.2.2.2.2.2.2.2.2.2.2.2.1.a x32.2.2.2.2.2.2.2.2.2.2.2.2.2.2.2.2.2.2.2.2.2.2.2.2.2.1.len x32.2.2.2.2.2.2.2.2.2.2.2.2.2.2.2.2.2.2.2.2.2.2.2.2.2.1.cap], .int .u8 x33]) fun (x34 : Bool × Slc × Int × Unit) =>
  HM.bind (α := (Int × Unit) ⊕ ((Int × Unit) ⊕ ((Int × Int × Unit) ⊕ ((Int × Int × Unit) ⊕ (Bool × Unit))))) (HM.ite x31.1 (
  HM.bind (α := Bool × Unit) (HM.ite (!(((x34.2.1.len : Nat) : Int) == 1)) (
  HM.pure (true, ())) (
  HM.bind (α := Addr) (HM.idx x34.2.1.a x34.2.1.len 0 26) fun (x36 : Addr) =>
  HM.bind (α := Int) (HM.load1 (.int .u8) (Addr.add x36 7)) fun (x37 : Int) =>
  HM.pure (!((x37 == 0) == (x4.1 == 1)), ()))) fun (x38 : Bool × Unit) =>
  HM.ite x38.1 (
  HM.pure (.inr (.inr (.inr (.inr (false, ())))))) (
  HM.pure (.inl (0, ())))) (
  HM.pure (.inl (x4.1, ())))) (Sum.elim (fun (x35 : Int × Unit) =>
  HM.pure (.inl (x35.1, ()))) HM.pure))) (Sum.elim (fun (x5 : Int × Unit) =>
  HM.pure (.inl (x5.1, IntKind.wrap .i64 (x4.2.1 + 1), ()))) HM.pure)) (
  HM.pure (.inr (.inl (x4.1, x4.2.1, ()))))) (0, 0, ())) (Sum.elim (fun (x3 : Int × Int × Unit) =>
  HM.bind (α := Bool) (HM.call1 Try.prog (.one .bool) 9 #[]) fun (x39 : Bool) =>
  HM.pure (x39, ())) HM.pure)

theorem law15_InflowOnce_den (p0 : Slc) (p1 : Int) : denFn Try.prog [6, 7, 8, 9] 138 [0, 1, 4, 5, 6, 8, 9, 11, 12, 13, 14, 16, 27, 28, 29, 30, 51, 59, 103, 122, 135] [0, 1, 5, 6, 8, 9, 11, 12, 13, 14, 16, 27, 28, 29, 30, 51, 59, 103, 122, 135] Try.f3.results.toList [.one .bool] (bodyOf Try.f3) [Kind.val (.one .slc) p0, Kind.val (.one (.int .i64)) p1] = law15_InflowOnce p0 p1 := by kernel_rfl
theorem law15_InflowOnce_calls (p0 : Slc) (p1 : Int) (h : Heap) (Q : Value → Heap → Prop) (hh : law15_InflowOnce p0 p1 h fun x h' => Q (.bool x.1) h') :
    HCalls Try.prog 3 #[.slice p0.a p0.len p0.cap, .int .i64 p1] h Q := by
  rw [← law15_InflowOnce_den] at hh
  exact calls_of_den Try.func3 (by kernel_rfl) Try.ntmps3 (by kernel_rfl) (fun f hf => by
      rcases List.mem_cons.1 hf with rfl | hf
      · exact Try.call6
      rcases List.mem_cons.1 hf with rfl | hf
      · exact Try.call7
      rcases List.mem_cons.1 hf with rfl | hf
      · exact Try.call8
      rcases List.mem_cons.1 hf with rfl | hf
      · exact Try.call9
      cases hf) orders hh

/-- aqueduct/aqueductlaw15.InflowOpen -/
def law15_InflowOpen (p0 : Int) (p1 : Slc) : HM (Bool × Unit) :=
  HM.bind (α := Option Addr) (HM.call1 Try.prog (.one .ptr) 6 #[.int .i64 p0]) fun (x1 : Option Addr) =>
  HM.bind (α := Nat) (HM.new (.map #[] 0)) fun (x2 : Nat) =>
  HM.bind (α := Slc) (HM.slice p1 none (some (if 100 < (((p1.len : Nat) : Int) : Int) then 100 else ((p1.len : Nat) : Int))) none 5) fun (x3 : Slc) =>
  HM.bind (α := (Int × Unit) ⊕ (Bool × Unit)) (HM.loop (σ := Int × Unit) (τ := (Int × Unit) ⊕ (Bool × Unit)) (fun (x5 : Int × Unit) =>
  HM.ite (decide (x5.1 < (((x3.len : Nat) : Int) : Int))) (
  HM.bind (α := Addr) (HM.idx x3.a x3.len x5.1 5) fun (x6 : Addr) =>
  HM.bind (α := Int × Int × Int × Int × Bool × Unit) (HM.loadN [.int .i64, .int .i64, .int .i64, .int .u8, .bool] x6) fun (x7 : Int × Int × Int × Int × Bool × Unit) =>
  HM.bind (α := Nat) (HM.new (.cells #[.int .i64 0, .int .i64 0, .int .i64 0, .int .u8 0, .bool false] 26)) fun (x8 : Nat) =>
  HM.bind (α := Unit) (HM.storeN ⟨x8, 0, none⟩ [.int .i64 x7.1, .int .i64 x7.2.1, .int .i64 x7.2.2.1, .int .u8 x7.2.2.2.1, .bool x7.2.2.2.2.1]) fun (_ : Unit) =>
  HM.bind (α := Int × Int × Int × Int × Bool × Unit) (HM.loadN [.int .i64, .int .i64, .int .i64, .int .u8, .bool] ⟨x8, 0, none⟩) fun (x9 : Int × Int × Int × Int × Bool × Unit) =>
  HM.bind (α := (Int × Bool × Bool × Int × Int × ByteArray × ByteArray × Int × Slc × Slc × ByteArray × Bool × Int × Bool × ByteArray × ByteArray × Int × Bool × Slc × Bool × Bool × ByteArray × ByteArray × Bool × Slc × Slc × Unit) × (Int × Bool × Bool × Int × Int × ByteArray × ByteArray × Int × Slc × Slc × ByteArray × Bool × Int × Bool × ByteArray × ByteArray × Int × Bool × Slc × Bool × Bool × ByteArray × ByteArray × Bool × Slc × Slc × Unit) × Unit) (HM.callN Try.prog [.agg [.int .i64, .bool, .bool, .int .i64, .int .i64, .str, .str, .int .u8, .slc, .slc, .str, .bool, .int .i64, .bool, .str, .str, .int .i64, .bool, .slc, .bool, .bool, .str, .str, .bool, .slc, .slc], .agg [.int .i64, .bool, .bool, .int .i64, .int .i64, .str, .str, .int .i64, .slc, .slc, .str, .bool, .int .i64, .bool, .str, .str, .int .i64, .bool, .slc, .bool, .bool, .str, .str, .bool, .slc, .slc]] 7 #[.agg #[.int .i64 x9.1, .int .i64 x9.2.1, .int .i64 x9.2.2.1, .int .u8 x9.2.2.2.1, .bool x9.2.2.2.2.1]]) fun (x10 : (Int × Bool × Bool × Int × Int × ByteArray × ByteArray × Int × Slc × Slc × ByteArray × Bool × Int × Bool × ByteArray × ByteArray × Int × Bool × Slc × Bool × Bool × ByteArray × ByteArray × Bool × Slc × Slc × Unit) × (Int × Bool × Bool × Int × Int × ByteArray × ByteArray × Int × Slc × Slc × ByteArray × Bool × Int × Bool × ByteArray × ByteArray × Int × Bool × Slc × Bool × Bool × ByteArray × ByteArray × Bool × Slc × Slc × Unit) × Unit) =>
  HM.bind (α := Nat) (HM.new (.cells #[.int .i64 0, .bool false, .bool false, .int .i64 0, .int .i64 0, .string (ByteArray.mk #[]), .string (ByteArray.mk #[]), .int .u8 0, .slice none 0 0, .slice none 0 0, .string (ByteArray.mk #[]), .bool false, .int .i64 0, .bool false, .string (ByteArray.mk #[]), .string (ByteArray.mk #[]), .int .i64 0, .bool false, .slice none 0 0, .bool false, .bool false, .string (ByteArray.mk #[]), .string (ByteArray.mk #[]), .bool false, .slice none 0 0, .slice none 0 0] 36)) fun (x11 : Nat) =>
  HM.bind (α := Nat) (HM.new (.cells #[.int .i64 0, .bool false, .bool false, .int .i64 0, .int .i64 0, .string (ByteArray.mk #[]), .string (ByteArray.mk #[]), .int .i64 0, .slice none 0 0, .slice none 0 0, .string (ByteArray.mk #[]), .bool false, .int .i64 0, .bool false, .string (ByteArray.mk #[]), .string (ByteArray.mk #[]), .int .i64 0, .bool false, .slice none 0 0, .bool false, .bool false, .string (ByteArray.mk #[]), .string (ByteArray.mk #[]), .bool false, .slice none 0 0, .slice none 0 0] 43)) fun (x12 : Nat) =>
  HM.bind (α := Unit) (HM.storeN ⟨x11, 0, none⟩ [.int .i64 x10.1.1, .bool x10.1.2.1, .bool x10.1.2.2.1, .int .i64 x10.1.2.2.2.1, .int .i64 x10.1.2.2.2.2.1, .string x10.1.2.2.2.2.2.1, .string x10.1.2.2.2.2.2.2.1, .int .u8 x10.1.2.2.2.2.2.2.2.1, .slice x10.1.2.2.2.2.2.2.2.2.1.a x10.1.2.2.2.2.2.2.2.2.1.len x10.1.2.2.2.2.2.2.2.2.1.cap, .slice x10.1.2.2.2.2.2.2.2.2.2.1.a x10.1.2.2.2.2.2.2.2.2.2.1.len x10.1.2.2.2.2.2.2.2.2.2.1.cap, .string x10.1.2.2.2.2.2.2.2.2.2.2.1, .bool x10.1.2.2.2.2.2.2.2.2.2.2.2.1, .int .i64 x10.1.2.2.2.2.2.2.2.2.2.2.2.2.1, .bool x10.1.2.2.2.2.2.2.2.2.2.2.2.2.2.1, .string x10.1.2.2.2.2.2.2.2.2.2.2.2.2.2.2.1, .string x10.1.2.2.2.2.2.2.2.2.2.2.2.2.2.2.2.1, .int .i64 x10.1.2.2.2.2.2.2.2.2.2.2.2.2.2.2.2.2.1, .bool x10.1.2.2.2.2.2.2.2.2.2.2.2.2.2.2.2.2.2.1, .slice x10.1.2.2.2.2.2.2.2.2.2.2.2.2.2.2.2.2.2.2.1.a x10.1.2.2.2.2.2.2.2.2.2.2.2.2.2.2.2.2.2.2.1.len x10.1.2.2.2.2.2.2.2.2.2.2.2.2.2.2.2.2.2.2.1.cap, .bool x10.1.2.2.2.2.2.2.2.2.2.2.2.2.2.2.2.2.2.2.2.1, .bool x10.1.2.2.2.2.2.2.2.2.2.2.2.2.2.2.2.2.2.2.2.2.1, .string x10.1.2.2.2.2.2.2.2.2.2.2.2.2.2.2.2.2.2.2.2.2.2.1, .string x10.1.2.2.2.2.2.2.2.2.2.2.2.2.2.2.2.2.2.2.2.2.2.2.1, .bool x10.1.2.2.2.2.2.2.2.2.2.2.2.2.2.2.2.2.2.2.2.2.2.2.2.1, .slice x10.1.2.2.2.2.2.2.2.2.2.2.2.2.2.2.2.2.2.2.2.2.2.2.2.2.1.a x10.1.2.2.2.2.2.2.2.2.2.2.2.2.2.2.2.2.2.2.2.2.2.2.2.2.1.len x10.1.2.2.2.2.2.2.2.2.2.2.2.2.2.2.2.2.2.2.2.2.2.2.2.2.1.cap, .slice x10.1.2.2.2.2.2.2.2.2.2.2.2.2.2.2.2.2.2.2.2.2.2.2.2.2.2.1.a x10.1.2.2.2.2.2.2.2.2.2.2.2.2.2.2.2.2.2.2.2.2.2.2.2.2.2.1.len x10.1.2.2.2.2.2.2.2.2.2.2.2.2.2.2.2.2.2.2.2.2.2.2.2.2.2.1.cap]) fun (_ : Unit) =>
  HM.bind (α := Unit) (HM.storeN ⟨x12, 0, none⟩ [.int .i64 x10.2.1.1, .bool x10.2.1.2.1, .bool x10.2.1.2.2.1, .int .i64 x10.2.1.2.2.2.1, .int .i64 x10.2.1.2.2.2.2.1, .string x10.2.1.2.2.2.2.2.1, .string x10.2.1.2.2.2.2.2.2.1, .int .i64 x10.2.1.2.2.2.2.2.2.2.1, .slice x10.2.1.2.2.2.2.2.2.2.2.1.a x10.2.1.2.2.2.2.2.2.2.2.1.len x10.2.1.2.2.2.2.2.2.2.2.1.cap, .slice x10.2.1.2.2.2.2.2.2.2.2.2.1.a x10.2.1.2.2.2.2.2.2.2.2.2.1.len x10.2.1.2.2.2.2.2.2.2.2.2.1.cap, .string x10.2.1.2.2.2.2.2.2.2.2.2.2.1, .bool x10.2.1.2.2.2.2.2.2.2.2.2.2.2.1, .int .i64 x10.2.1.2.2.2.2.2.2.2.2.2.2.2.2.1, .bool x10.2.1.2.2.2.2.2.2.2.2.2.2.2.2.2.1, .string x10.2.1.2.2.2.2.2.2.2.2.2.2.2.2.2.2.1, .string x10.2.1.2.2.2.2.2.2.2.2.2.2.2.2.2.2.2.1, .int .i64 x10.2.1.2.2.2.2.2.2.2.2.2.2.2.2.2.2.2.2.1, .bool x10.2.1.2.2.2.2.2.2.2.2.2.2.2.2.2.2.2.2.2.1, .slice x10.2.1.2.2.2.2.2.2.2.2.2.2.2.2.2.2.2.2.2.2.1.a x10.2.1.2.2.2.2.2.2.2.2.2.2.2.2.2.2.2.2.2.2.1.len x10.2.1.2.2.2.2.2.2.2.2.2.2.2.2.2.2.2.2.2.2.1.cap, .bool x10.2.1.2.2.2.2.2.2.2.2.2.2.2.2.2.2.2.2.2.2.2.1, .bool x10.2.1.2.2.2.2.2.2.2.2.2.2.2.2.2.2.2.2.2.2.2.2.1, .string x10.2.1.2.2.2.2.2.2.2.2.2.2.2.2.2.2.2.2.2.2.2.2.2.1, .string x10.2.1.2.2.2.2.2.2.2.2.2.2.2.2.2.2.2.2.2.2.2.2.2.2.1, .bool x10.2.1.2.2.2.2.2.2.2.2.2.2.2.2.2.2.2.2.2.2.2.2.2.2.2.1, .slice x10.2.1.2.2.2.2.2.2.2.2.2.2.2.2.2.2.2.2.2.2.2.2.2.2.2.2.1.a x10.2.1.2.2.2.2.2.2.2.2.2.2.2.2.2.2.2.2.2.2.2.2.2.2.2.2.1.len x10.2.1.2.2.2.2.2.2.2.2.2.2.2.2.2.2.2.2.2.2.2.2.2.2.2.2.1.cap, .slice x10.2.1.2.2.2.2.2.2.2.2.2.2.2.2.2.2.2.2.2.2.2.2.2.2.2.2.2.1.a x10.2.1.2.2.2.2.2.2.2.2.2.2.2.2.2.2.2.2.2.2.2.2.2.2.2.2.2.1.len x10.2.1.2.2.2.2.2.2.2.2.2.2.2.2.2.2.2.2.2.2.2.2.2.2.2.2.2.1.cap]) fun (_ : Unit) =>
  HM.bind (α := Int × Bool × Bool × Int × Int × ByteArray × ByteArray × Int × Slc × Slc × ByteArray × Bool × Int × Bool × ByteArray × ByteArray × Int × Bool × Slc × Bool × Bool × ByteArray × ByteArray × Bool × Slc × Slc × Unit) (HM.loadN [.int .i64, .bool, .bool, .int .i64, .int .i64, .str, .str, .int .u8, .slc, .slc, .str, .bool, .int .i64, .bool, .str, .str, .int .i64, .bool, .slc, .bool, .bool, .str, .str, .bool, .slc, .slc] ⟨x11, 0, none⟩) fun (x13 : Int × Bool × Bool × Int × Int × ByteArray × ByteArray × Int × Slc × Slc × ByteArray × Bool × Int × Bool × ByteArray × ByteArray × Int × Bool × Slc × Bool × Bool × ByteArray × ByteArray × Bool × Slc × Slc × Unit) =>
  HM.bind (α := Int) (HM.load1 (.int .u8) (Addr.add ⟨x8, 0, none⟩ 3)) fun (x14 : Int) =>
  HM.bind (α := Bool × Slc × Int × Unit) (HM.callN Try.prog [.one .bool, .one .slc, .one (.int .u8)] 8 #[.pointer x1, .agg #[.int .i64 x13.1, .bool x13.2.1, .bool x13.2.2.1, .int .i64 x13.2.2.2.1, .int .i64 x13.2.2.2.2.1, .string x13.2.2.2.2.2.1, .string x13.2.2.2.2.2.2.1, .int .u8 x13.2.2.2.2.2.2.2.1, .slice x13.2.2.2.2.2.2.2.2.1.a x13.2.2.2.2.2.2.2.2.1.len x13.2.2.2.2.2.2.2.2.1.cap, .slice x13.2.2.2.2.2.2.2.2.2.1.a x13.2.2.2.2.2.2.2.2.2.1.len x13.2.2.2.2.2.2.2.2.2.1.cap, .string x13.2.2.2.2.2.2.2.2.2.2.1, .bool x13.2.2.2.2.2.2.2.2.2.2.2.1, .int .i64 x13.2.2.2.2.2.2.2.2.2.2.2.2.1, .bool x13.2.2.2.2.2.2.2.2.2.2.2.2.2.1, .string x13.2.2.2.2.2.2.2.2.2.2.2.2.2.2.1, .string x13.2.2.2.2.2.2.2.2.2.2.2.2.2.2.2.1, .int .i64 x13.2.2.2.2.2.2.2.2.2.2.2.2.2.2.2.2.1, .bool x13.2.2.2.2.2.2.2.2.2.2.2.2.2.2.2.2.2.1, .slice x13.2.2.2.2.2.2.2.2.2.2.2.2.2.2.2.2.2.2.1.a x13.2.2.2.2.2.2.2.2.2.2.2.2.2.2.2.2.2.2.1.len x13.2.2.2.2.2.2.2.2.2.2.2.2.2.2.2.2.2.2.1.cap, .bool x13.2.2.2.2.2.2.2.2.2.2.2.2.2.2.2.2.2.2.2.1, .bool x13.2.2.2.2.2.2.2.2.2.2.2.2.2.2.2.2.2.2.2.2.1, .string x13.2.2.2.2.2.2.2.2.2.2.2.2.2.2.2.2.2.2.2.2.2.1, .string x13.2.2.2.2.2.2.2.2.2.2.2.2.2.2.2.2.2.2.2.2.2.2.1, .bool x13.2.2.2.2.2.2.2.2.2.2.2.2.2.2.2.2.2.2.2.2.2.2.2.1, .slice x13.2.2.2.2.2.2.2.2.2.2.2.2.2.2.2.2.2.2.2.2.2.2.2.2.1.a x13.2.2.2.2.2.2.2.2.2.2.2.2.2.2.2.2.2.2.2.2.2.2.2.2.1.len x13.2.2.2.2.2.2.2.2.2.2.2.2.2.2.2.2.2.2.2.2.2.2.2.2.1.cap, .slice x13.2.2.2.2.2.2.2.2.2.2.2.2.2.2.2.2.2.2.2.2.2.2.2.2.2.1.a x13.2.2.2.2.2.2.2.2.2.2.2.2.2.2.2.2.2.2.2.2.2.2.2.2.2.1.len x13.2.2.2.2.2.2.2.2.2.2.2.2.2.2.2.2.2.2.2.2.2.2.2.2.2.1.cap], .int .u8 x14]) fun (x15 : Bool × Slc × Int × Unit) =>
  HM.bind (α := (Unit) ⊕ ((Int × Unit) ⊕ ((Int × Unit) ⊕ (Bool × Unit)))) (HM.ite (!(x15.2.2.1 == 0)) (
  HM.bind (α := Bool × Unit) (HM.ite x15.1 (
  HM.pure (true, ())) (
  HM.pure (decide (0 < (((x15.2.1.len : Nat) : Int) : Int)), ()))) fun (x17 : Bool × Unit) =>
  HM.ite x17.1 (
  HM.pure (.inr (.inr (.inr (false, ()))))) (
  HM.pure (.inl ()))) (
  HM.bind (α := Int) (HM.load1 (.int .i64) (Addr.add ⟨x11, 0, none⟩ 0)) fun (x18 : Int) =>
  HM.bind (α := Unit) (HM.ite (x18 == 6) (
  HM.bind (α := Int) (HM.load1 (.int .i64) (Addr.add ⟨x11, 0, none⟩ 4)) fun (x20 : Int) =>
  HM.bind (α := Unit) (HM.mapDel (Instr.sameNow (.int .i64)) (some x2) (.int .i64 x20)) fun (_ : Unit) =>
  HM.pure ()) (
  HM.bind (α := Bool × Unit) (HM.bind (α := Int) (HM.load1 (.int .i64) (Addr.add ⟨x11, 0, none⟩ 3)) fun (x21 : Int) =>
  HM.ite (x21 == 2) (
  HM.ite x15.1 (
  HM.bind (α := Int) (HM.load1 (.int .u8) (Addr.add ⟨x8, 0, none⟩ 3)) fun (x22 : Int) =>
  HM.pure (decide (x22 < (128 : Int)), ())) (
  HM.pure (false, ()))) (
  HM.pure (false, ()))) fun (x23 : Bool × Unit) =>
  HM.bind (α := Unit) (HM.ite x23.1 (
  HM.bind (α := Int) (HM.load1 (.int .i64) (Addr.add ⟨x11, 0, none⟩ 4)) fun (x25 : Int) =>
  HM.bind (α := Unit) (HM.mapSet (Instr.sameNow (.int .i64)) (some x2) (.int .i64 x25) (.bool true)) fun (_ : Unit) =>
  HM.pure ()) (
  HM.pure ())) fun (x24 : Unit) =>
  HM.pure ())) fun (x19 : Unit) =>
  HM.pure (.inl ()))) (Sum.elim (fun (x16 : Unit) =>
  HM.bind (α := Slc) (HM.call1 Try.prog (.one .slc) 10 #[.pointer x1]) fun (x26 : Slc) =>
  HM.bind (α := Bool × Unit) (HM.bind (α := Int) (HM.mapLen (some x2)) fun (x27 : Int) =>
  HM.ite (!(((x26.len : Nat) : Int) == x27)) (
  HM.pure (true, ())) (
  HM.pure (decide ((if 1 < ((if 64 < (p0 : Int) then 64 else p0) : Int) then (if 64 < (p0 : Int) then 64 else p0) else 1) < (((x26.len : Nat) : Int) : Int)), ()))) fun (x28 : Bool × Unit) =>
  HM.ite x28.1 (
  HM.pure (.inr (.inr (false, ())))) (
  HM.bind (α := (Int × Unit) ⊕ ((Int × Unit) ⊕ ((Int × Unit) ⊕ (Bool × Unit)))) (HM.loop (σ := Int × Unit) (τ := (Int × Unit) ⊕ ((Int × Unit) ⊕ ((Int × Unit) ⊕ (Bool × Unit)))) (fun (x30 : Int × Unit) =>
  HM.ite (decide (x30.1 < (((x26.len : Nat) : Int) : Int))) (
  HM.bind (α := Addr) (HM.idx x26.a x26.len x30.1 1) fun (x31 : Addr) =>
  HM.bind (α := Int) (HM.load1 (.int .i64) x31) fun (x32 : Int) =>
  HM.bind (α := Bool × Bool) (HM.lookup (Instr.sameNow (.int .i64)) (.bool false) (.one .bool) (some x2) (.int .i64 x32)) fun (x33 : Bool × Bool) =>
  HM.ite (!x33.1) (
  HM.pure (.inr (.inr (.inr (.inr (false, ())))))) (
  HM.pure (.inl (IntKind.wrap .i64 (x30.1 + 1), ())))) (
  HM.pure (.inr (.inl (x30.1, ()))))) (0, ())) (Sum.elim (fun (x29 : Int × Unit) =>
  HM.pure (.inl (IntKind.wrap .i64 (x5.1 + 1), ()))) HM.pure))) HM.pure)) (
  HM.pure (.inr (.inl (x5.1, ()))))) (0, ())) (Sum.elim (fun (x4 : Int × Unit) =>
  HM.bind (α := Bool) (HM.call1 Try.prog (.one .bool) 9 #[]) fun (x34 : Bool) =>
  HM.pure (x34, ())) HM.pure)

theorem law15_InflowOpen_den (p0 : Int) (p1 : Slc) : denFn Try.prog [6, 7, 8, 10, 9] 103 [0, 1, 4, 5, 6, 8, 9, 11, 12, 13, 14, 16, 24, 25, 26, 27, 44, 52, 53, 60, 89, 90, 91, 92, 93, 99] [0, 1, 5, 6, 8, 9, 11, 12, 13, 14, 16, 24, 25, 26, 27, 44, 52, 53, 60, 89, 90, 91, 92, 93, 99] Try.f4.results.toList [.one .bool] (bodyOf Try.f4) [Kind.val (.one (.int .i64)) p0, Kind.val (.one .slc) p1] = law15_InflowOpen p0 p1 := by kernel_rfl
theorem law15_InflowOpen_calls (p0 : Int) (p1 : Slc) (h : Heap) (Q : Value → Heap → Prop) (hh : law15_InflowOpen p0 p1 h fun x h' => Q (.bool x.1) h') :
    HCalls Try.prog 4 #[.int .i64 p0, .slice p1.a p1.len p1.cap] h Q := by
  rw [← law15_InflowOpen_den] at hh
  exact calls_of_den Try.func4 (by kernel_rfl) Try.ntmps4 (by kernel_rfl) (fun f hf => by
      rcases List.mem_cons.1 hf with rfl | hf
      · exact Try.call6
      rcases List.mem_cons.1 hf with rfl | hf
      · exact Try.call7
      rcases List.mem_cons.1 hf with rfl | hf
      · exact Try.call8
      rcases List.mem_cons.1 hf with rfl | hf
      · exact Try.call10
      rcases List.mem_cons.1 hf with rfl | hf
      · exact Try.call9
      cases hf) orders hh

/-- aqueduct/aqueductlaw15.InflowNil -/
def law15_InflowNil (p0 : Int × Int × Int × Int × Bool × Unit) : HM (Bool × Unit) :=
  HM.bind (α := Nat) (HM.new (.cells #[.int .i64 p0.1, .int .i64 p0.2.1, .int .i64 p0.2.2.1, .int .u8 p0.2.2.2.1, .bool p0.2.2.2.2.1] 26)) fun (x1 : Nat) =>
  HM.bind (α := Int × Int × Int × Int × Bool × Unit) (HM.loadN [.int .i64, .int .i64, .int .i64, .int .u8, .bool] ⟨x1, 0, none⟩) fun (x2 : Int × Int × Int × Int × Bool × Unit) =>
  HM.bind (α := (Int × Bool × Bool × Int × Int × ByteArray × ByteArray × Int × Slc × Slc × ByteArray × Bool × Int × Bool × ByteArray × ByteArray × Int × Bool × Slc × Bool × Bool × ByteArray × ByteArray × Bool × Slc × Slc × Unit) × (Int × Bool × Bool × Int × Int × ByteArray × ByteArray × Int × Slc × Slc × ByteArray × Bool × Int × Bool × ByteArray × ByteArray × Int × Bool × Slc × Bool × Bool × ByteArray × ByteArray × Bool × Slc × Slc × Unit) × Unit) (HM.callN Try.prog [.agg [.int .i64, .bool, .bool, .int .i64, .int .i64, .str, .str, .int .u8, .slc, .slc, .str, .bool, .int .i64, .bool, .str, .str, .int .i64, .bool, .slc, .bool, .bool, .str, .str, .bool, .slc, .slc], .agg [.int .i64, .bool, .bool, .int .i64, .int .i64, .str, .str, .int .i64, .slc, .slc, .str, .bool, .int .i64, .bool, .str, .str, .int .i64, .bool, .slc, .bool, .bool, .str, .str, .bool, .slc, .slc]] 7 #[.agg #[.int .i64 x2.1, .int .i64 x2.2.1, .int .i64 x2.2.2.1, .int .u8 x2.2.2.2.1, .bool x2.2.2.2.2.1]]) fun (x3 : (Int × Bool × Bool × Int × Int × ByteArray × ByteArray × Int × Slc × Slc × ByteArray × Bool × Int × Bool × ByteArray × ByteArray × Int × Bool × Slc × Bool × Bool × ByteArray × ByteArray × Bool × Slc × Slc × Unit) × (Int × Bool × Bool × Int × Int × ByteArray × ByteArray × Int × Slc × Slc × ByteArray × Bool × Int × Bool × ByteArray × ByteArray × Int × Bool × Slc × Bool × Bool × ByteArray × ByteArray × Bool × Slc × Slc × Unit) × Unit) =>
  HM.bind (α := Nat) (HM.new (.cells #[.int .i64 0, .bool false, .bool false, .int .i64 0, .int .i64 0, .string (ByteArray.mk #[]), .string (ByteArray.mk #[]), .int .u8 0, .slice none 0 0, .slice none 0 0, .string (ByteArray.mk #[]), .bool false, .int .i64 0, .bool false, .string (ByteArray.mk #[]), .string (ByteArray.mk #[]), .int .i64 0, .bool false, .slice none 0 0, .bool false, .bool false, .string (ByteArray.mk #[]), .string (ByteArray.mk #[]), .bool false, .slice none 0 0, .slice none 0 0] 36)) fun (x4 : Nat) =>
  HM.bind (α := Nat) (HM.new (.cells #[.int .i64 0, .bool false, .bool false, .int .i64 0, .int .i64 0, .string (ByteArray.mk #[]), .string (ByteArray.mk #[]), .int .i64 0, .slice none 0 0, .slice none 0 0, .string (ByteArray.mk #[]), .bool false, .int .i64 0, .bool false, .string (ByteArray.mk #[]), .string (ByteArray.mk #[]), .int .i64 0, .bool false, .slice none 0 0, .bool false, .bool false, .string (ByteArray.mk #[]), .string (ByteArray.mk #[]), .bool false, .slice none 0 0, .slice none 0 0] 43)) fun (x5 : Nat) =>
  HM.bind (α := Unit) (HM.storeN ⟨x4, 0, none⟩ [.int .i64 x3.1.1, .bool x3.1.2.1, .bool x3.1.2.2.1, .int .i64 x3.1.2.2.2.1, .int .i64 x3.1.2.2.2.2.1, .string x3.1.2.2.2.2.2.1, .string x3.1.2.2.2.2.2.2.1, .int .u8 x3.1.2.2.2.2.2.2.2.1, .slice x3.1.2.2.2.2.2.2.2.2.1.a x3.1.2.2.2.2.2.2.2.2.1.len x3.1.2.2.2.2.2.2.2.2.1.cap, .slice x3.1.2.2.2.2.2.2.2.2.2.1.a x3.1.2.2.2.2.2.2.2.2.2.1.len x3.1.2.2.2.2.2.2.2.2.2.1.cap, .string x3.1.2.2.2.2.2.2.2.2.2.2.1, .bool x3.1.2.2.2.2.2.2.2.2.2.2.2.1, .int .i64 x3.1.2.2.2.2.2.2.2.2.2.2.2.2.1, .bool x3.1.2.2.2.2.2.2.2.2.2.2.2.2.2.1, .string x3.1.2.2.2.2.2.2.2.2.2.2.2.2.2.2.1, .string x3.1.2.2.2.2.2.2.2.2.2.2.2.2.2.2.2.1, .int .i64 x3.1.2.2.2.2.2.2.2.2.2.2.2.2.2.2.2.2.1, .bool x3.1.2.2.2.2.2.2.2.2.2.2.2.2.2.2.2.2.2.1, .slice x3.1.2.2.2.2.2.2.2.2.2.2.2.2.2.2.2.2.2.2.1.a x3.1.2.2.2.2.2.2.2.2.2.2.2.2.2.2.2.2.2.2.1.len x3.1.2.2.2.2.2.2.2.2.2.2.2.2.2.2.2.2.2.2.1.cap, .bool x3.1.2.2.2.2.2.2.2.2.2.2.2.2.2.2.2.2.2.2.2.1, .bool x3.1.2.2.2.2.2.2.2.2.2.2.2.2.2.2.2.2.2.2.2.2.1, .string x3.1.2.2.2.2.2.2.2.2.2.2.2.2.2.2.2.2.2.2.2.2.2.1, .string x3.1.2.2.2.2.2.2.2.2.2.2.2.2.2.2.2.2.2.2.2.2.2.2.1, .bool x3.1.2.2.2.2.2.2.2.2.2.2.2.2.2.2.2.2.2.2.2.2.2.2.2.1, .slice x3.1.2.2.2.2.2.2.2.2.2.2.2.2.2.2.2.2.2.2.2.2.2.2.2.2.1.a x3.1.2.2.2.2.2.2.2.2.2.2.2.2.2.2.2.2.2.2.2.2.2.2.2.2.1.len x3.1.2.2.2.2.2.2.2.2.2.2.2.2.2.2.2.2.2.2.2.2.2.2.2.2.1.cap, .slice x3.1.2.2.2.2.2.2.2.2.2.2.2.2.2.2.2.2.2.2.2.2.2.2.2.2.2.1.a x3.1.2.2.2.2.2.2.2.2.2.2.2.2.2.2.2.2.2.2.2.2.2.2.2.2.2.1.len x3.1.2.2.2.2.2.2.2.2.2.2.2.2.2.2.2.2.2.2.2.2.2.2.2.2.2.1.cap]) fun (_ : Unit) =>
  HM.bind (α := Unit) (HM.storeN ⟨x5, 0, none⟩ [.int .i64 x3.2.1.1, .bool x3.2.1.2.1, .bool x3.2.1.2.2.1, .int .i64 x3.2.1.2.2.2.1, .int .i64 x3.2.1.2.2.2.2.1, .string x3.2.1.2.2.2.2.2.1, .string x3.2.1.2.2.2.2.2.2.1, .int .i64 x3.2.1.2.2.2.2.2.2.2.1, .slice x3.2.1.2.2.2.2.2.2.2.2.1.a x3.2.1.2.2.2.2.2.2.2.2.1.len x3.2.1.2.2.2.2.2.2.2.2.1.cap, .slice x3.2.1.2.2.2.2.2.2.2.2.2.1.a x3.2.1.2.2.2.2.2.2.2.2.2.1.len x3.2.1.2.2.2.2.2.2.2.2.2.1.cap, .string x3.2.1.2.2.2.2.2.2.2.2.2.2.1, .bool x3.2.1.2.2.2.2.2.2.2.2.2.2.2.1, .int .i64 x3.2.1.2.2.2.2.2.2.2.2.2.2.2.2.1, .bool x3.2.1.2.2.2.2.2.2.2.2.2.2.2.2.2.1, .string x3.2.1.2.2.2.2.2.2.2.2.2.2.2.2.2.2.1, .string x3.2.1.2.2.2.2.2.2.2.2.2.2.2.2.2.2.2.1, .int .i64 x3.2.1.2.2.2.2.2.2.2.2.2.2.2.2.2.2.2.2.1, .bool x3.2.1.2.2.2.2.2.2.2.2.2.2.2.2.2.2.2.2.2.1, .slice x3.2.1.2.2.2.2.2.2.2.2.2.2.2.2.2.2.2.2.2.2.1.a x3.2.1.2.2.2.2.2.2.2.2.2.2.2.2.2.2.2.2.2.2.1.len x3.2.1.2.2.2.2.2.2.2.2.2.2.2.2.2.2.2.2.2.2.1.cap, .bool x3.2.1.2.2.2.2.2.2.2.2.2.2.2.2.2.2.2.2.2.2.2.1, .bool x3.2.1.2.2.2.2.2.2.2.2.2.2.2.2.2.2.2.2.2.2.2.2.1, .string x3.2.1.2.2.2.2.2.2.2.2.2.2.2.2.2.2.2.2.2.2.2.2.2.1, .string x3.2.1.2.2.2.2.2.2.2.2.2.2.2.2.2.2.2.2.2.2.2.2.2.2.1, .bool x3.2.1.2.2.2.2.2.2.2.2.2.2.2.2.2.2.2.2.2.2.2.2.2.2.2.1, .slice x3.2.1.2.2.2.2.2.2.2.2.2.2.2.2.2.2.2.2.2.2.2.2.2.2.2.2.1.a x3.2.1.2.2.2.2.2.2.2.2.2.2.2.2.2.2.2.2.2.2.2.2.2.2.2.2.1.len x3.2.1.2.2.2.2.2.2.2.2.2.2.2.2.2.2.2.2.2.2.2.2.2.2.2.2.1.cap, .slice x3.2.1.2.2.2.2.2.2.2.2.2.2.2.2.2.2.2.2.2.2.2.2.2.2.2.2.2.1.a x3.2.1.2.2.2.2.2.2.2.2.2.2.2.2.2.2.2.2.2.2.2.2.2.2.2.2.2.1.len x3.2.1.2.2.2.2.2.2.2.2.2.2.2.2.2.2.2.2.2.2.2.2.2.2.2.2.2.1.cap]) fun (_ : Unit) =>
  HM.bind (α := Int × Bool × Bool × Int × Int × ByteArray × ByteArray × Int × Slc × Slc × ByteArray × Bool × Int × Bool × ByteArray × ByteArray × Int × Bool × Slc × Bool × Bool × ByteArray × ByteArray × Bool × Slc × Slc × Unit) (HM.loadN [.int .i64, .bool, .bool, .int .i64, .int .i64, .str, .str, .int .u8, .slc, .slc, .str, .bool, .int .i64, .bool, .str, .str, .int .i64, .bool, .slc, .bool, .bool, .str, .str, .bool, .slc, .slc] ⟨x4, 0, none⟩) fun (x6 : Int × Bool × Bool × Int × Int × ByteArray × ByteArray × Int × Slc × Slc × ByteArray × Bool × Int × Bool × ByteArray × ByteArray × Int × Bool × Slc × Bool × Bool × ByteArray × ByteArray × Bool × Slc × Slc × Unit) =>
  HM.bind (α := Int) (HM.load1 (.int .u8) (Addr.add ⟨x1, 0, none⟩ 3)) fun (x7 : Int) =>
  HM.bind (α := Bool × Slc × Int × Unit) (HM.callN Try.prog [.one .bool, .one .slc, .one (.int .u8)] 8 #[.pointer none, .agg #[.int .i64 x6.1, .bool x6.2.1, .bool x6.2.2.1, .int .i64 x6.2.2.2.1, .int .i64 x6.2.2.2.2.1, .string x6.2.2.2.2.2.1, .string x6.2.2.2.2.2.2.1, .int .u8 x6.2.2.2.2.2.2.2.1, .slice x6.2.2.2.2.2.2.2.2.1.a x6.2.2.2.2.2.2.2.2.1.len x6.2.2.2.2.2.2.2.2.1.cap, .slice x6.2.2.2.2.2.2.2.2.2.1.a x6.2.2.2.2.2.2.2.2.2.1.len x6.2.2.2.2.2.2.2.2.2.1.cap, .string x6.2.2.2.2.2.2.2.2.2.2.1, .bool x6.2.2.2.2.2.2.2.2.2.2.2.1, .int .i64 x6.2.2.2.2.2.2.2.2.2.2.2.2.1, .bool x6.2.2.2.2.2.2.2.2.2.2.2.2.2.1, .string x6.2.2.2.2.2.2.2.2.2.2.2.2.2.2.1, .string x6.2.2.2.2.2.2.2.2.2.2.2.2.2.2.2.1, .int .i64 x6.2.2.2.2.2.2.2.2.2.2.2.2.2.2.2.2.1, .bool x6.2.2.2.2.2.2.2.2.2.2.2.2.2.2.2.2.2.1, .slice x6.2.2.2.2.2.2.2.2.2.2.2.2.2.2.2.2.2.2.1.a x6.2.2.2.2.2.2.2.2.2.2.2.2.2.2.2.2.2.2.1.len x6.2.2.2.2.2.2.2.2.2.2.2.2.2.2.2.2.2.2.1.cap, .bool x6.2.2.2.2.2.2.2.2.2.2.2.2.2.2.2.2.2.2.2.1, .bool x6.2.2.2.2.2.2.2.2.2.2.2.2.2.2.2.2.2.2.2.2.1, .string x6.2.2.2.2.2.2.2.2.2.2.2.2.2.2.2.2.2.2.2.2.2.1, .string x6.2.2.2.2.2.2.2.2.2.2.2.2.2.2.2.2.2.2.2.2.2.2.1, .bool x6.2.2.2.2.2.2.2.2.2.2.2.2.2.2.2.2.2.2.2.2.2.2.2.1, .slice x6.2.2.2.2.2.2.2.2.2.2.2.2.2.2.2.2.2.2.2.2.2.2.2.2.1.a x6.2.2.2.2.2.2.2.2.2.2.2.2.2.2.2.2.2.2.2.2.2.2.2.2.1.len x6.2.2.2.2.2.2.2.2.2.2.2.2.2.2.2.2.2.2.2.2.2.2.2.2.1.cap, .slice x6.2.2.2.2.2.2.2.2.2.2.2.2.2.2.2.2.2.2.2.2.2.2.2.2.2.1.a x6.2.2.2.2.2.2.2.2.2.2.2.2.2.2.2.2.2.2.2.2.2.2.2.2.2.1.len x6.2.2.2.2.2.2.2.2.2.2.2.2.2.2.2.2.2.2.2.2.2.2.2.2.2.1.cap], .int .u8 x7]) fun (x8 : Bool × Slc × Int × Unit) =>
  HM.bind (α := Bool × Unit) (HM.bind (α := Bool) (HM.call1 Try.prog (.one .bool) 9 #[]) fun (x9 : Bool) =>
  HM.ite x9 (
  HM.ite (!x8.1) (
  HM.ite (((x8.2.1.len : Nat) : Int) == 0) (
  HM.ite (x8.2.2.1 == 128) (
  HM.bind (α := Int × Bool × Bool × Int × Int × ByteArray × ByteArray × Int × Slc × Slc × ByteArray × Bool × Int × Bool × ByteArray × ByteArray × Int × Bool × Slc × Bool × Bool × ByteArray × ByteArray × Bool × Slc × Slc × Unit) (HM.loadN [.int .i64, .bool, .bool, .int .i64, .int .i64, .str, .str, .int .u8, .slc, .slc, .str, .bool, .int .i64, .bool, .str, .str, .int .i64, .bool, .slc, .bool, .bool, .str, .str, .bool, .slc, .slc] ⟨x4, 0, none⟩) fun (x10 : Int × Bool × Bool × Int × Int × ByteArray × ByteArray × Int × Slc × Slc × ByteArray × Bool × Int × Bool × ByteArray × ByteArray × Int × Bool × Slc × Bool × Bool × ByteArray × ByteArray × Bool × Slc × Slc × Unit) =>
  HM.bind (α := Bool) (HM.call1 Try.prog (.one .bool) 11 #[.pointer none, .agg #[.int .i64 x10.1, .bool x10.2.1, .bool x10.2.2.1, .int .i64 x10.2.2.2.1, .int .i64 x10.2.2.2.2.1, .string x10.2.2.2.2.2.1, .string x10.2.2.2.2.2.2.1, .int .u8 x10.2.2.2.2.2.2.2.1, .slice x10.2.2.2.2.2.2.2.2.1.a x10.2.2.2.2.2.2.2.2.1.len x10.2.2.2.2.2.2.2.2.1.cap, .slice x10.2.2.2.2.2.2.2.2.2.1.a x10.2.2.2.2.2.2.2.2.2.1.len x10.2.2.2.2.2.2.2.2.2.1.cap, .string x10.2.2.2.2.2.2.2.2.2.2.1, .bool x10.2.2.2.2.2.2.2.2.2.2.2.1, .int .i64 x10.2.2.2.2.2.2.2.2.2.2.2.2.1, .bool x10.2.2.2.2.2.2.2.2.2.2.2.2.2.1, .string x10.2.2.2.2.2.2.2.2.2.2.2.2.2.2.1, .string x10.2.2.2.2.2.2.2.2.2.2.2.2.2.2.2.1, .int .i64 x10.2.2.2.2.2.2.2.2.2.2.2.2.2.2.2.2.1, .bool x10.2.2.2.2.2.2.2.2.2.2.2.2.2.2.2.2.2.1, .slice x10.2.2.2.2.2.2.2.2.2.2.2.2.2.2.2.2.2.2.1.a x10.2.2.2.2.2.2.2.2.2.2.2.2.2.2.2.2.2.2.1.len x10.2.2.2.2.2.2.2.2.2.2.2.2.2.2.2.2.2.2.1.cap, .bool x10.2.2.2.2.2.2.2.2.2.2.2.2.2.2.2.2.2.2.2.1, .bool x10.2.2.2.2.2.2.2.2.2.2.2.2.2.2.2.2.2.2.2.2.1, .string x10.2.2.2.2.2.2.2.2.2.2.2.2.2.2.2.2.2.2.2.2.2.1, .string x10.2.2.2.2.2.2.2.2.2.2.2.2.2.2.2.2.2.2.2.2.2.2.1, .bool x10.2.2.2.2.2.2.2.2.2.2.2.2.2.2.2.2.2.2.2.2.2.2.2.1, .slice x10.2.2.2.2.2.2.2.2.2.2.2.2.2.2.2.2.2.2.2.2.2.2.2.2.1.a x10.2.2.2.2.2.2.2.2.2.2.2.2.2.2.2.2.2.2.2.2.2.2.2.2.1.len x10.2.2.2.2.2.2.2.2.2.2.2.2.2.2.2.2.2.2.2.2.2.2.2.2.1.cap, .slice x10.2.2.2.2.2.2.2.2.2.2.2.2.2.2.2.2.2.2.2.2.2.2.2.2.2.1.a x10.2.2.2.2.2.2.2.2.2.2.2.2.2.2.2.2.2.2.2.2.2.2.2.2.2.1.len x10.2.2.2.2.2.2.2.2.2.2.2.2.2.2.2.2.2.2.2.2.2.2.2.2.2.1.cap]]) fun (x11 : Bool) =>
  HM.ite (!x11) (
  HM.bind (α := Slc) (HM.call1 Try.prog (.one .slc) 10 #[.pointer none]) fun (x12 : Slc) =>
  HM.ite (((x12.len : Nat) : Int) == 0) (
  HM.bind (α := Int) (HM.load1 (.int .i64) (Addr.add ⟨x1, 0, none⟩ 2)) fun (x13 : Int) =>
  HM.bind (α := Int) (HM.call1 Try.prog (.one (.int .u8)) 12 #[.pointer none, .int .i64 x13]) fun (x14 : Int) =>
  HM.pure (x14 == 128, ())) (
  HM.pure (false, ()))) (
  HM.pure (false, ()))) (
  HM.pure (false, ()))) (
  HM.pure (false, ()))) (
  HM.pure (false, ()))) (
  HM.pure (false, ()))) fun (x15 : Bool × Unit) =>
  HM.pure (x15.1, ())

theorem law15_InflowNil_den (p0 : Int × Int × Int × Int × Bool × Unit) : denFn Try.prog [7, 8, 9, 11, 10, 12] 56 [0, 1, 2, 3, 4, 6, 7, 8] [0, 1, 3, 4, 6, 7, 8] Try.f5.results.toList [.one .bool] (bodyOf Try.f5) [Kind.val (.agg [.int .i64, .int .i64, .int .i64, .int .u8, .bool]) p0] = law15_InflowNil p0 := by kernel_rfl
theorem law15_InflowNil_calls (p0 : Int × Int × Int × Int × Bool × Unit) (h : Heap) (Q : Value → Heap → Prop) (hh : law15_InflowNil p0 h fun x h' => Q (.bool x.1) h') :
    HCalls Try.prog 5 #[.agg #[.int .i64 p0.1, .int .i64 p0.2.1, .int .i64 p0.2.2.1, .int .u8 p0.2.2.2.1, .bool p0.2.2.2.2.1]] h Q := by
  rw [← law15_InflowNil_den] at hh
  exact calls_of_den Try.func5 (by kernel_rfl) Try.ntmps5 (by kernel_rfl) (fun f hf => by
      rcases List.mem_cons.1 hf with rfl | hf
      · exact Try.call7
      rcases List.mem_cons.1 hf with rfl | hf
      · exact Try.call8
      rcases List.mem_cons.1 hf with rfl | hf
      · exact Try.call9
      rcases List.mem_cons.1 hf with rfl | hf
      · exact Try.call11
      rcases List.mem_cons.1 hf with rfl | hf
      · exact Try.call10
      rcases List.mem_cons.1 hf with rfl | hf
      · exact Try.call12
      cases hf) orders hh

/-- aqueduct/inflow.New -/
def inflow_New (p0 : Int) : HM (Option Addr × Unit) :=
  HM.bind (α := Option Addr) (HM.call1 Try.prog (.one .ptr) 13 #[.int .i64 p0]) fun (x1 : Option Addr) =>
  HM.bind (α := Nat) (HM.new (.cells #[.pointer x1] 60)) fun (x2 : Nat) =>
  HM.pure (some ⟨x2, 0, none⟩, ())

theorem inflow_New_den (p0 : Int) : denFn Try.prog [13] 7 [0, 2] [0] Try.f6.results.toList [.one .ptr] (bodyOf Try.f6) [Kind.val (.one (.int .i64)) p0] = inflow_New p0 := by kernel_rfl
theorem inflow_New_calls (p0 : Int) (h : Heap) (Q : Value → Heap → Prop) (hh : inflow_New p0 h fun x h' => Q (.pointer x.1) h') :
    HCalls Try.prog 6 #[.int .i64 p0] h Q := by
  rw [← inflow_New_den] at hh
  exact calls_of_den Try.func6 (by kernel_rfl) Try.ntmps6 (by kernel_rfl) (fun f hf => by
      rcases List.mem_cons.1 hf with rfl | hf
      · exact Try.call13
      cases hf) orders hh

/-- aqueduct/aqueductlaw15.made -/
def law15_made (p0 : Int × Int × Int × Int × Bool × Unit) : HM ((Int × Bool × Bool × Int × Int × ByteArray × ByteArray × Int × Slc × Slc × ByteArray × Bool × Int × Bool × ByteArray × ByteArray × Int × Bool × Slc × Bool × Bool × ByteArray × ByteArray × Bool × Slc × Slc × Unit) × (Int × Bool × Bool × Int × Int × ByteArray × ByteArray × Int × Slc × Slc × ByteArray × Bool × Int × Bool × ByteArray × ByteArray × Int × Bool × Slc × Bool × Bool × ByteArray × ByteArray × Bool × Slc × Slc × Unit) × Unit) :=
  HM.bind (α := Nat) (HM.new (.cells #[.int .i64 p0.1, .int .i64 p0.2.1, .int .i64 p0.2.2.1, .int .u8 p0.2.2.2.1, .bool p0.2.2.2.2.1] 26)) fun (x1 : Nat) =>
  HM.bind (α := Nat) (HM.new (.cells #[.int .i64 0, .bool false, .bool false, .int .i64 0, .int .i64 0, .string (ByteArray.mk #[]), .string (ByteArray.mk #[]), .int .u8 0, .slice none 0 0, .slice none 0 0, .string (ByteArray.mk #[]), .bool false, .int .i64 0, .bool false, .string (ByteArray.mk #[]), .string (ByteArray.mk #[]), .int .i64 0, .bool false, .slice none 0 0, .bool false, .bool false, .string (ByteArray.mk #[]), .string (ByteArray.mk #[]), .bool false, .slice none 0 0, .slice none 0 0] 36)) fun (x2 : Nat) =>
  HM.bind (α := Nat) (HM.new (.cells #[.int .i64 0, .bool false, .bool false, .int .i64 0, .int .i64 0, .string (ByteArray.mk #[]), .string (ByteArray.mk #[]), .int .i64 0, .slice none 0 0, .slice none 0 0, .string (ByteArray.mk #[]), .bool false, .int .i64 0, .bool false, .string (ByteArray.mk #[]), .string (ByteArray.mk #[]), .int .i64 0, .bool false, .slice none 0 0, .bool false, .bool false, .string (ByteArray.mk #[]), .string (ByteArray.mk #[]), .bool false, .slice none 0 0, .slice none 0 0] 43)) fun (x3 : Nat) =>
  HM.bind (α := Nat) (HM.new (.cells #[.int .i64 3, .int .i64 6, .int .i64 3, .int .i64 4] 27)) fun (x4 : Nat) =>
  HM.bind (α := Int) (HM.load1 (.int .i64) (Addr.add ⟨x1, 0, none⟩ 0)) fun (x5 : Int) =>
  HM.req (4 ≠ (0 : Int)) <|
  HM.bind (α := Addr) (HM.idx (some ⟨x4, 0, none⟩) 4 (Int.tmod (if 0 < (x5 : Int) then x5 else 0) 4) 1) fun (x6 : Addr) =>
  HM.bind (α := Int) (HM.load1 (.int .i64) x6) fun (x7 : Int) =>
  HM.bind (α := Int) (HM.load1 (.int .i64) (Addr.add ⟨x1, 0, none⟩ 1)) fun (x8 : Int) =>
  HM.bind (α := Int) (HM.load1 (.int .i64) (Addr.add ⟨x1, 0, none⟩ 2)) fun (x9 : Int) =>
  HM.bind (α := Int) (HM.load1 (.int .i64) (Addr.add ⟨x1, 0, none⟩ 1)) fun (x10 : Int) =>
  HM.bind (α := Int) (HM.load1 (.int .i64) (Addr.add ⟨x1, 0, none⟩ 2)) fun (x11 : Int) =>
  HM.bind (α := Unit) (HM.storeN ⟨x2, 0, none⟩ [.int .i64 x7, .bool false, .bool false, .int .i64 x8, .int .i64 x9, .string (ByteArray.mk #[116]), .string (ByteArray.mk #[]), .int .u8 0, .slice none 0 0, .slice none 0 0, .string (ByteArray.mk #[]), .bool false, .int .i64 0, .bool false, .string (ByteArray.mk #[]), .string (ByteArray.mk #[]), .int .i64 0, .bool false, .slice none 0 0, .bool false, .bool false, .string (ByteArray.mk #[]), .string (ByteArray.mk #[]), .bool false, .slice none 0 0, .slice none 0 0]) fun (_ : Unit) =>
  HM.bind (α := Int) (HM.load1 (.int .i64) (Addr.add ⟨x1, 0, none⟩ 2)) fun (x12 : Int) =>
  HM.req ((.int .i64 x12 : Value) = .int .i64 x11) <|
  HM.bind (α := Int) (HM.load1 (.int .i64) (Addr.add ⟨x1, 0, none⟩ 1)) fun (x13 : Int) =>
  HM.req ((.int .i64 x13 : Value) = .int .i64 x10) <|
  HM.bind (α := Unit) (HM.storeN ⟨x3, 0, none⟩ [.int .i64 x7, .bool false, .bool false, .int .i64 x10, .int .i64 x11, .string (ByteArray.mk #[116]), .string (ByteArray.mk #[]), .int .i64 0, .slice none 0 0, .slice none 0 0, .string (ByteArray.mk #[]), .bool false, .int .i64 0, .bool false, .string (ByteArray.mk #[]), .string (ByteArray.mk #[]), .int .i64 0, .bool false, .slice none 0 0, .bool false, .bool false, .string (ByteArray.mk #[]), .string (ByteArray.mk #[]), .bool false, .slice none 0 0, .slice none 0 0]) fun (_ : Unit) =>
  HM.bind (α := Int × Bool × Bool × Int × Int × ByteArray × ByteArray × Int × Slc × Slc × ByteArray × Bool × Int × Bool × ByteArray × ByteArray × Int × Bool × Slc × Bool × Bool × ByteArray × ByteArray × Bool × Slc × Slc × Unit) (HM.loadN [.int .i64, .bool, .bool, .int .i64, .int .i64, .str, .str, .int .u8, .slc, .slc, .str, .bool, .int .i64, .bool, .str, .str, .int .i64, .bool, .slc, .bool, .bool, .str, .str, .bool, .slc, .slc] ⟨x2, 0, none⟩) fun (x14 : Int × Bool × Bool × Int × Int × ByteArray × ByteArray × Int × Slc × Slc × ByteArray × Bool × Int × Bool × ByteArray × ByteArray × Int × Bool × Slc × Bool × Bool × ByteArray × ByteArray × Bool × Slc × Slc × Unit) =>
  HM.bind (α := Int × Bool × Bool × Int × Int × ByteArray × ByteArray × Int × Slc × Slc × ByteArray × Bool × Int × Bool × ByteArray × ByteArray × Int × Bool × Slc × Bool × Bool × ByteArray × ByteArray × Bool × Slc × Slc × Unit) (HM.loadN [.int .i64, .bool, .bool, .int .i64, .int .i64, .str, .str, .int .i64, .slc, .slc, .str, .bool, .int .i64, .bool, .str, .str, .int .i64, .bool, .slc, .bool, .bool, .str, .str, .bool, .slc, .slc] ⟨x3, 0, none⟩) fun (x15 : Int × Bool × Bool × Int × Int × ByteArray × ByteArray × Int × Slc × Slc × ByteArray × Bool × Int × Bool × ByteArray × ByteArray × Int × Bool × Slc × Bool × Bool × ByteArray × ByteArray × Bool × Slc × Slc × Unit) =>
  HM.pure ((x14.1, x14.2.1, x14.2.2.1, x14.2.2.2.1, x14.2.2.2.2.1, x14.2.2.2.2.2.1, x14.2.2.2.2.2.2.1, x14.2.2.2.2.2.2.2.1, x14.2.2.2.2.2.2.2.2.1, x14.2.2.2.2.2.2.2.2.2.1, x14.2.2.2.2.2.2.2.2.2.2.1, x14.2.2.2.2.2.2.2.2.2.2.2.1, x14.2.2.2.2.2.2.2.2.2.2.2.2.1, x14.2.2.2.2.2.2.2.2.2.2.2.2.2.1, x14.2.2.2.2.2.2.2.2.2.2.2.2.2.2.1, x14.2.2.2.2.2.2.2.2.2.2.2.2.2.2.2.1, x14.2.2.2.2.2.2.2.2.2.2.2.2.2.2.2.2.1, x14.2.2.2.2.2.2.2.2.2.2.2.2.2.2.2.2.2.1, x14.2.2.2.2.2.2.2.2.2.2.2.2.2.2.2.2.2.2.1, x14.2.2.2.2.2.2.2.2.2.2.2.2.2.2.2.2.2.2.2.1, x14.2.2.2.2.2.2.2.2.2.2.2.2.2.2.2.2.2.2.2.2.1, x14.2.2.2.2.2.2.2.2.2.2.2.2.2.2.2.2.2.2.2.2.2.1, x14.2.2.2.2.2.2.2.2.2.2.2.2.2.2.2.2.2.2.2.2.2.2.1, x14.2.2.2.2.2.2.2.2.2.2.2.2.2.2.2.2.2.2.2.2.2.2.2.1, x14.2.2.2.2.2.2.2.2.2.2.2.2.2.2.2.2.2.2.2.2.2.2.2.2.1, x14.2.2.2.2.2.2.2.2.2.2.2.2.2.2.2.2.2.2.2.2.2.2.2.2.2.1, ()), (x15.1, x15.2.1, x15.2.2.1, x15.2.2.2.1, x15.2.2.2.2.1, x15.2.2.2.2.2.1, x15.2.2.2.2.2.2.1, x15.2.2.2.2.2.2.2.1, x15.2.2.2.2.2.2.2.2.1, x15.2.2.2.2.2.2.2.2.2.1, x15.2.2.2.2.2.2.2.2.2.2.1, x15.2.2.2.2.2.2.2.2.2.2.2.1, x15.2.2.2.2.2.2.2.2.2.2.2.2.1, x15.2.2.2.2.2.2.2.2.2.2.2.2.2.1, x15.2.2.2.2.2.2.2.2.2.2.2.2.2.2.1, x15.2.2.2.2.2.2.2.2.2.2.2.2.2.2.2.1, x15.2.2.2.2.2.2.2.2.2.2.2.2.2.2.2.2.1, x15.2.2.2.2.2.2.2.2.2.2.2.2.2.2.2.2.2.1, x15.2.2.2.2.2.2.2.2.2.2.2.2.2.2.2.2.2.2.1, x15.2.2.2.2.2.2.2.2.2.2.2.2.2.2.2.2.2.2.2.1, x15.2.2.2.2.2.2.2.2.2.2.2.2.2.2.2.2.2.2.2.2.1, x15.2.2.2.2.2.2.2.2.2.2.2.2.2.2.2.2.2.2.2.2.2.1, x15.2.2.2.2.2.2.2.2.2.2.2.2.2.2.2.2.2.2.2.2.2.2.1, x15.2.2.2.2.2.2.2.2.2.2.2.2.2.2.2.2.2.2.2.2.2.2.2.1, x15.2.2.2.2.2.2.2.2.2.2.2.2.2.2.2.2.2.2.2.2.2.2.2.2.1, x15.2.2.2.2.2.2.2.2.2.2.2.2.2.2.2.2.2.2.2.2.2.2.2.2.2.1, ()), ())

theorem law15_made_den (p0 : Int × Int × Int × Int × Bool × Unit) : denFn Try.prog [] 24 [0, 1, 2, 3, 4] [0, 1, 2, 3, 4] Try.f7.results.toList [.agg [.int .i64, .bool, .bool, .int .i64, .int .i64, .str, .str, .int .u8, .slc, .slc, .str, .bool, .int .i64, .bool, .str, .str, .int .i64, .bool, .slc, .bool, .bool, .str, .str, .bool, .slc, .slc], .agg [.int .i64, .bool, .bool, .int .i64, .int .i64, .str, .str, .int .i64, .slc, .slc, .str, .bool, .int .i64, .bool, .str, .str, .int .i64, .bool, .slc, .bool, .bool, .str, .str, .bool, .slc, .slc]] (bodyOf Try.f7) [Kind.val (.agg [.int .i64, .int .i64, .int .i64, .int .u8, .bool]) p0] = law15_made p0 := by kernel_rfl
theorem law15_made_calls (p0 : Int × Int × Int × Int × Bool × Unit) (h : Heap) (Q : Value → Heap → Prop) (hh : law15_made p0 h fun x h' => Q (.tuple #[.agg #[.int .i64 x.1.1, .bool x.1.2.1, .bool x.1.2.2.1, .int .i64 x.1.2.2.2.1, .int .i64 x.1.2.2.2.2.1, .string x.1.2.2.2.2.2.1, .string x.1.2.2.2.2.2.2.1, .int .u8 x.1.2.2.2.2.2.2.2.1, .slice x.1.2.2.2.2.2.2.2.2.1.a x.1.2.2.2.2.2.2.2.2.1.len x.1.2.2.2.2.2.2.2.2.1.cap, .slice x.1.2.2.2.2.2.2.2.2.2.1.a x.1.2.2.2.2.2.2.2.2.2.1.len x.1.2.2.2.2.2.2.2.2.2.1.cap, .string x.1.2.2.2.2.2.2.2.2.2.2.1, .bool x.1.2.2.2.2.2.2.2.2.2.2.2.1, .int .i64 x.1.2.2.2.2.2.2.2.2.2.2.2.2.1, .bool x.1.2.2.2.2.2.2.2.2.2.2.2.2.2.1, .string x.1.2.2.2.2.2.2.2.2.2.2.2.2.2.2.1, .string x.1.2.2.2.2.2.2.2.2.2.2.2.2.2.2.2.1, .int .i64 x.1.2.2.2.2.2.2.2.2.2.2.2.2.2.2.2.2.1, .bool x.1.2.2.2.2.2.2.2.2.2.2.2.2.2.2.2.2.2.1, .slice x.1.2.2.2.2.2.2.2.2.2.2.2.2.2.2.2.2.2.2.1.a x.1.2.2.2.2.2.2.2.2.2.2.2.2.2.2.2.2.2.2.1.len x.1.2.2.2.2.2.2.2.2.2.2.2.2.2.2.2.2.2.2.1.cap, .bool x.1.2.2.2.2.2.2.2.2.2.2.2.2.2.2.2.2.2.2.2.1, .bool x.1.2.2.2.2.2.2.2.2.2.2.2.2.2.2.2.2.2.2.2.2.1, .string x.1.2.2.2.2.2.2.2.2.2.2.2.2.2.2.2.2.2.2.2.2.2.1, .string x.1.2.2.2.2.2.2.2.2.2.2.2.2.2.2.2.2.2.2.2.2.2.2.1, .bool x.1.2.2.2.2.2.2.2.2.2.2.2.2.2.2.2.2.2.2.2.2.2.2.2.1, .slice x.1.2.2.2.2.2.2.2.2.2.2.2.2.2.2.2.2.2.2.2.2.2.2.2.2.1.a x.1.2.2.2.2.2.2.2.2.2.2.2.2.2.2.2.2.2.2.2.2.2.2.2.2.1.len x.1.2.2.2.2.2.2.2.2.2.2.2.2.2.2.2.2.2.2.2.2.2.2.2.2.1.cap, .slice x.1.2.2.2.2.2.2.2.2.2.2.2.2.2.2.2.2.2.2.2.2.2.2.2.2.2.1.a x.1.2.2.2.2.2.2.2.2.2.2.2.2.2.2.2.2.2.2.2.2.2.2.2.2.2.1.len x.1.2.2.2.2.2.2.2.2.2.2.2.2.2.2.2.2.2.2.2.2.2.2.2.2.2.1.cap], .agg #[.int .i64 x.2.1.1, .bool x.2.1.2.1, .bool x.2.1.2.2.1, .int .i64 x.2.1.2.2.2.1, .int .i64 x.2.1.2.2.2.2.1, .string x.2.1.2.2.2.2.2.1, .string x.2.1.2.2.2.2.2.2.1, .int .i64 x.2.1.2.2.2.2.2.2.2.1, .slice x.2.1.2.2.2.2.2.2.2.2.1.a x.2.1.2.2.2.2.2.2.2.2.1.len x.2.1.2.2.2.2.2.2.2.2.1.cap, .slice x.2.1.2.2.2.2.2.2.2.2.2.1.a x.2.1.2.2.2.2.2.2.2.2.2.1.len x.2.1.2.2.2.2.2.2.2.2.2.1.cap, .string x.2.1.2.2.2.2.2.2.2.2.2.2.1, .bool x.2.1.2.2.2.2.2.2.2.2.2.2.2.1, .int .i64 x.2.1.2.2.2.2.2.2.2.2.2.2.2.2.1, .bool x.2.1.2.2.2.2.2.2.2.2.2.2.2.2.2.1, .string x.2.1.2.2.2.2.2.2.2.2.2.2.2.2.2.2.1, .string x.2.1.2.2.2.2.2.2.2.2.2.2.2.2.2.2.2.1, .int .i64 x.2.1.2.2.2.2.2.2.2.2.2.2.2.2.2.2.2.2.1, .bool x.2.1.2.2.2.2.2.2.2.2.2.2.2.2.2.2.2.2.2.1, .slice x.2.1.2.2.2.2.2.2.2.2.2.2.2.2.2.2.2.2.2.2.1.a x.2.1.2.2.2.2.2.2.2.2.2.2.2.2.2.2.2.2.2.2.1.len x.2.1.2.2.2.2.2.2.2.2.2.2.2.2.2.2.2.2.2.2.1.cap, .bool x.2.1.2.2.2.2.2.2.2.2.2.2.2.2.2.2.2.2.2.2.2.1, .bool x.2.1.2.2.2.2.2.2.2.2.2.2.2.2.2.2.2.2.2.2.2.2.1, .string x.2.1.2.2.2.2.2.2.2.2.2.2.2.2.2.2.2.2.2.2.2.2.2.1, .string x.2.1.2.2.2.2.2.2.2.2.2.2.2.2.2.2.2.2.2.2.2.2.2.2.1, .bool x.2.1.2.2.2.2.2.2.2.2.2.2.2.2.2.2.2.2.2.2.2.2.2.2.2.1, .slice x.2.1.2.2.2.2.2.2.2.2.2.2.2.2.2.2.2.2.2.2.2.2.2.2.2.2.1.a x.2.1.2.2.2.2.2.2.2.2.2.2.2.2.2.2.2.2.2.2.2.2.2.2.2.2.1.len x.2.1.2.2.2.2.2.2.2.2.2.2.2.2.2.2.2.2.2.2.2.2.2.2.2.2.1.cap, .slice x.2.1.2.2.2.2.2.2.2.2.2.2.2.2.2.2.2.2.2.2.2.2.2.2.2.2.2.1.a x.2.1.2.2.2.2.2.2.2.2.2.2.2.2.2.2.2.2.2.2.2.2.2.2.2.2.2.1.len x.2.1.2.2.2.2.2.2.2.2.2.2.2.2.2.2.2.2.2.2.2.2.2.2.2.2.2.1.cap]]) h') :
    HCalls Try.prog 7 #[.agg #[.int .i64 p0.1, .int .i64 p0.2.1, .int .i64 p0.2.2.1, .int .u8 p0.2.2.2.1, .bool p0.2.2.2.2.1]] h Q := by
  rw [← law15_made_den] at hh
  exact calls_of_den Try.func7 (by kernel_rfl) Try.ntmps7 (by kernel_rfl) (fun f hf => by cases hf) orders hh

/-- (*aqueduct/inflow.Flow).Take -/
def inflow_Flow_Take (p0 : Option Addr) (p1 : Int × Bool × Bool × Int × Int × ByteArray × ByteArray × Int × Slc × Slc × ByteArray × Bool × Int × Bool × ByteArray × ByteArray × Int × Bool × Slc × Bool × Bool × ByteArray × ByteArray × Bool × Slc × Slc × Unit) (p2 : Int) : HM (Bool × Slc × Int × Unit) :=
  HM.bind (α := Nat) (HM.new (.cells #[.int .i64 p1.1, .bool p1.2.1, .bool p1.2.2.1, .int .i64 p1.2.2.2.1, .int .i64 p1.2.2.2.2.1, .string p1.2.2.2.2.2.1, .string p1.2.2.2.2.2.2.1, .int .u8 p1.2.2.2.2.2.2.2.1, .slice p1.2.2.2.2.2.2.2.2.1.a p1.2.2.2.2.2.2.2.2.1.len p1.2.2.2.2.2.2.2.2.1.cap, .slice p1.2.2.2.2.2.2.2.2.2.1.a p1.2.2.2.2.2.2.2.2.2.1.len p1.2.2.2.2.2.2.2.2.2.1.cap, .string p1.2.2.2.2.2.2.2.2.2.2.1, .bool p1.2.2.2.2.2.2.2.2.2.2.2.1, .int .i64 p1.2.2.2.2.2.2.2.2.2.2.2.2.1, .bool p1.2.2.2.2.2.2.2.2.2.2.2.2.2.1, .string p1.2.2.2.2.2.2.2.2.2.2.2.2.2.2.1, .string p1.2.2.2.2.2.2.2.2.2.2.2.2.2.2.2.1, .int .i64 p1.2.2.2.2.2.2.2.2.2.2.2.2.2.2.2.2.1, .bool p1.2.2.2.2.2.2.2.2.2.2.2.2.2.2.2.2.2.1, .slice p1.2.2.2.2.2.2.2.2.2.2.2.2.2.2.2.2.2.2.1.a p1.2.2.2.2.2.2.2.2.2.2.2.2.2.2.2.2.2.2.1.len p1.2.2.2.2.2.2.2.2.2.2.2.2.2.2.2.2.2.2.1.cap, .bool p1.2.2.2.2.2.2.2.2.2.2.2.2.2.2.2.2.2.2.2.1, .bool p1.2.2.2.2.2.2.2.2.2.2.2.2.2.2.2.2.2.2.2.2.1, .string p1.2.2.2.2.2.2.2.2.2.2.2.2.2.2.2.2.2.2.2.2.2.1, .string p1.2.2.2.2.2.2.2.2.2.2.2.2.2.2.2.2.2.2.2.2.2.2.1, .bool p1.2.2.2.2.2.2.2.2.2.2.2.2.2.2.2.2.2.2.2.2.2.2.2.1, .slice p1.2.2.2.2.2.2.2.2.2.2.2.2.2.2.2.2.2.2.2.2.2.2.2.2.1.a p1.2.2.2.2.2.2.2.2.2.2.2.2.2.2.2.2.2.2.2.2.2.2.2.2.1.len p1.2.2.2.2.2.2.2.2.2.2.2.2.2.2.2.2.2.2.2.2.2.2.2.2.1.cap, .slice p1.2.2.2.2.2.2.2.2.2.2.2.2.2.2.2.2.2.2.2.2.2.2.2.2.2.1.a p1.2.2.2.2.2.2.2.2.2.2.2.2.2.2.2.2.2.2.2.2.2.2.2.2.2.1.len p1.2.2.2.2.2.2.2.2.2.2.2.2.2.2.2.2.2.2.2.2.2.2.2.2.2.1.cap] 36)) fun (x1 : Nat) =>
  HM.ite (Option.isNone p0) (
  HM.pure (false, ⟨none, 0, 0⟩, 128, ())) (
  HM.bind (α := Bool × Unit) (HM.bind (α := Int) (HM.load1 (.int .i64) (Addr.add ⟨x1, 0, none⟩ 0)) fun (x2 : Int) =>
  HM.ite (x2 == 3) (
  HM.bind (α := Int) (HM.load1 (.int .i64) (Addr.add ⟨x1, 0, none⟩ 3)) fun (x3 : Int) =>
  HM.pure (x3 == 0, ())) (
  HM.pure (false, ()))) fun (x4 : Bool × Unit) =>
  HM.bind (α := Bool × Unit) (HM.bind (α := Int) (HM.load1 (.int .i64) (Addr.add ⟨x1, 0, none⟩ 0)) fun (x5 : Int) =>
  HM.ite (!(x5 == 3)) (
  HM.bind (α := Int) (HM.load1 (.int .i64) (Addr.add ⟨x1, 0, none⟩ 0)) fun (x6 : Int) =>
  HM.ite (!(x6 == 6)) (
  HM.pure (true, ())) (
  HM.bind (α := Int) (HM.load1 (.int .i64) (Addr.add ⟨x1, 0, none⟩ 0)) fun (x7 : Int) =>
  HM.ite (x7 == 3) (
  HM.bind (α := Int) (HM.load1 (.int .i64) (Addr.add ⟨x1, 0, none⟩ 3)) fun (x8 : Int) =>
  HM.ite (decide (x8 < (0 : Int))) (
  HM.pure (true, ())) (
  HM.bind (α := Int) (HM.load1 (.int .i64) (Addr.add ⟨x1, 0, none⟩ 3)) fun (x9 : Int) =>
  HM.ite (decide (2 < (x9 : Int))) (
  HM.pure (true, ())) (
  HM.ite (!x4.1) (
  HM.bind (α := Int) (HM.load1 (.int .i64) (Addr.add ⟨x1, 0, none⟩ 4)) fun (x10 : Int) =>
  HM.ite (decide (x10 < (1 : Int))) (
  HM.pure (true, ())) (
  HM.bind (α := Int) (HM.load1 (.int .i64) (Addr.add ⟨x1, 0, none⟩ 4)) fun (x11 : Int) =>
  HM.pure (decide (65535 < (x11 : Int)), ()))) (
  HM.pure (false, ()))))) (
  HM.ite (!x4.1) (
  HM.bind (α := Int) (HM.load1 (.int .i64) (Addr.add ⟨x1, 0, none⟩ 4)) fun (x12 : Int) =>
  HM.ite (decide (x12 < (1 : Int))) (
  HM.pure (true, ())) (
  HM.bind (α := Int) (HM.load1 (.int .i64) (Addr.add ⟨x1, 0, none⟩ 4)) fun (x13 : Int) =>
  HM.pure (decide (65535 < (x13 : Int)), ()))) (
  HM.pure (false, ()))))) (
  HM.bind (α := Int) (HM.load1 (.int .i64) (Addr.add ⟨x1, 0, none⟩ 0)) fun (x14 : Int) =>
  HM.ite (x14 == 3) (
  HM.bind (α := Int) (HM.load1 (.int .i64) (Addr.add ⟨x1, 0, none⟩ 3)) fun (x15 : Int) =>
  HM.ite (decide (x15 < (0 : Int))) (
  HM.pure (true, ())) (
  HM.bind (α := Int) (HM.load1 (.int .i64) (Addr.add ⟨x1, 0, none⟩ 3)) fun (x16 : Int) =>
  HM.ite (decide (2 < (x16 : Int))) (
  HM.pure (true, ())) (
  HM.ite (!x4.1) (
  HM.bind (α := Int) (HM.load1 (.int .i64) (Addr.add ⟨x1, 0, none⟩ 4)) fun (x17 : Int) =>
  HM.ite (decide (x17 < (1 : Int))) (
  HM.pure (true, ())) (
  HM.bind (α := Int) (HM.load1 (.int .i64) (Addr.add ⟨x1, 0, none⟩ 4)) fun (x18 : Int) =>
  HM.pure (decide (65535 < (x18 : Int)), ()))) (
  HM.pure (false, ()))))) (
  HM.ite (!x4.1) (
  HM.bind (α := Int) (HM.load1 (.int .i64) (Addr.add ⟨x1, 0, none⟩ 4)) fun (x19 : Int) =>
  HM.ite (decide (x19 < (1 : Int))) (
  HM.pure (true, ())) (
  HM.bind (α := Int) (HM.load1 (.int .i64) (Addr.add ⟨x1, 0, none⟩ 4)) fun (x20 : Int) =>
  HM.pure (decide (65535 < (x20 : Int)), ()))) (
  HM.pure (false, ()))))) fun (x21 : Bool × Unit) =>
  HM.ite x21.1 (
  HM.pure (false, ⟨none, 0, 0⟩, 130, ())) (
  HM.ite x4.1 (
  HM.pure (true, ⟨none, 0, 0⟩, 0, ())) (
  HM.bind (α := Bool × Unit) (HM.bind (α := Int) (HM.load1 (.int .i64) (Addr.add ⟨x1, 0, none⟩ 0)) fun (x22 : Int) =>
  HM.ite (x22 == 6) (
  HM.bind (α := Addr) (HM.nonnil p0) fun (x23 : Addr) =>
  HM.bind (α := Option Addr) (HM.load1 .ptr (Addr.add x23 0)) fun (x24 : Option Addr) =>
  HM.bind (α := Int) (HM.load1 (.int .i64) (Addr.add ⟨x1, 0, none⟩ 4)) fun (x25 : Int) =>
  HM.bind (α := Bool) (HM.call1 Try.prog (.one .bool) 14 #[.pointer x24, .int .i64 x25]) fun (x26 : Bool) =>
  HM.pure (x26, ())) (
  HM.pure (false, ()))) fun (x27 : Bool × Unit) =>
  HM.ite x27.1 (
  HM.bind (α := Int) (HM.load1 (.int .i64) (Addr.add ⟨x1, 0, none⟩ 4)) fun (x28 : Int) =>
  HM.bind (α := Slc) (HM.call1 Try.prog (.one .slc) 15 #[.int .i64 7, .int .i64 x28, .int .u8 0]) fun (x29 : Slc) =>
  HM.pure (false, x29, 0, ())) (
  HM.bind (α := Int) (HM.load1 (.int .i64) (Addr.add ⟨x1, 0, none⟩ 0)) fun (x30 : Int) =>
  HM.ite (x30 == 6) (
  HM.bind (α := Int) (HM.load1 (.int .i64) (Addr.add ⟨x1, 0, none⟩ 4)) fun (x31 : Int) =>
  HM.bind (α := Slc) (HM.call1 Try.prog (.one .slc) 15 #[.int .i64 7, .int .i64 x31, .int .u8 146]) fun (x32 : Slc) =>
  HM.pure (false, x32, 0, ())) (
  HM.bind (α := Int) (HM.load1 (.int .i64) (Addr.add ⟨x1, 0, none⟩ 3)) fun (x33 : Int) =>
  HM.ite (x33 == 1) (
  HM.bind (α := Int) (HM.load1 (.int .i64) (Addr.add ⟨x1, 0, none⟩ 4)) fun (x34 : Int) =>
  HM.bind (α := Slc) (HM.call1 Try.prog (.one .slc) 15 #[.int .i64 4, .int .i64 x34, .int .u8 p2]) fun (x35 : Slc) =>
  HM.pure (true, x35, 0, ())) (
  HM.bind (α := Int) (HM.load1 (.int .i64) (Addr.add ⟨x1, 0, none⟩ 4)) fun (x36 : Int) =>
  HM.bind (α := Bool × Slc × Int × Unit) (HM.callN Try.prog [.one .bool, .one .slc, .one (.int .u8)] 16 #[.pointer p0, .int .i64 x36, .int .u8 p2]) fun (x37 : Bool × Slc × Int × Unit) =>
  HM.pure (x37.1, x37.2.1, x37.2.2.1, ())))))))

theorem inflow_Flow_Take_den (p0 : Option Addr) (p1 : Int × Bool × Bool × Int × Int × ByteArray × ByteArray × Int × Slc × Slc × ByteArray × Bool × Int × Bool × ByteArray × ByteArray × Int × Bool × Slc × Bool × Bool × ByteArray × ByteArray × Bool × Slc × Slc × Unit) (p2 : Int) : denFn Try.prog [14, 15, 16] 98 [0, 1, 2, 4, 6, 7, 8, 9, 11, 56, 57, 59, 75, 82] [0, 1, 2, 4, 9, 11, 56, 57, 59, 75, 82] Try.f8.results.toList [.one .bool, .one .slc, .one (.int .u8)] (bodyOf Try.f8) [Kind.val (.one .ptr) p0, Kind.val (.agg [.int .i64, .bool, .bool, .int .i64, .int .i64, .str, .str, .int .u8, .slc, .slc, .str, .bool, .int .i64, .bool, .str, .str, .int .i64, .bool, .slc, .bool, .bool, .str, .str, .bool, .slc, .slc]) p1, Kind.val (.one (.int .u8)) p2] = inflow_Flow_Take p0 p1 p2 := by kernel_rfl
theorem inflow_Flow_Take_calls (p0 : Option Addr) (p1 : Int × Bool × Bool × Int × Int × ByteArray × ByteArray × Int × Slc × Slc × ByteArray × Bool × Int × Bool × ByteArray × ByteArray × Int × Bool × Slc × Bool × Bool × ByteArray × ByteArray × Bool × Slc × Slc × Unit) (p2 : Int) (h : Heap) (Q : Value → Heap → Prop) (hh : inflow_Flow_Take p0 p1 p2 h fun x h' => Q (.tuple #[.bool x.1, .slice x.2.1.a x.2.1.len x.2.1.cap, .int .u8 x.2.2.1]) h') :
    HCalls Try.prog 8 #[.pointer p0, .agg #[.int .i64 p1.1, .bool p1.2.1, .bool p1.2.2.1, .int .i64 p1.2.2.2.1, .int .i64 p1.2.2.2.2.1, .string p1.2.2.2.2.2.1, .string p1.2.2.2.2.2.2.1, .int .u8 p1.2.2.2.2.2.2.2.1, .slice p1.2.2.2.2.2.2.2.2.1.a p1.2.2.2.2.2.2.2.2.1.len p1.2.2.2.2.2.2.2.2.1.cap, .slice p1.2.2.2.2.2.2.2.2.2.1.a p1.2.2.2.2.2.2.2.2.2.1.len p1.2.2.2.2.2.2.2.2.2.1.cap, .string p1.2.2.2.2.2.2.2.2.2.2.1, .bool p1.2.2.2.2.2.2.2.2.2.2.2.1, .int .i64 p1.2.2.2.2.2.2.2.2.2.2.2.2.1, .bool p1.2.2.2.2.2.2.2.2.2.2.2.2.2.1, .string p1.2.2.2.2.2.2.2.2.2.2.2.2.2.2.1, .string p1.2.2.2.2.2.2.2.2.2.2.2.2.2.2.2.1, .int .i64 p1.2.2.2.2.2.2.2.2.2.2.2.2.2.2.2.2.1, .bool p1.2.2.2.2.2.2.2.2.2.2.2.2.2.2.2.2.2.1, .slice p1.2.2.2.2.2.2.2.2.2.2.2.2.2.2.2.2.2.2.1.a p1.2.2.2.2.2.2.2.2.2.2.2.2.2.2.2.2.2.2.1.len p1.2.2.2.2.2.2.2.2.2.2.2.2.2.2.2.2.2.2.1.cap, .bool p1.2.2.2.2.2.2.2.2.2.2.2.2.2.2.2.2.2.2.2.1, .bool p1.2.2.2.2.2.2.2.2.2.2.2.2.2.2.2.2.2.2.2.2.1, .string p1.2.2.2.2.2.2.2.2.2.2.2.2.2.2.2.2.2.2.2.2.2.1, .string p1.2.2.2.2.2.2.2.2.2.2.2.2.2.2.2.2.2.2.2.2.2.2.1, .bool p1.2.2.2.2.2.2.2.2.2.2.2.2.2.2.2.2.2.2.2.2.2.2.2.1, .slice p1.2.2.2.2.2.2.2.2.2.2.2.2.2.2.2.2.2.2.2.2.2.2.2.2.1.a p1.2.2.2.2.2.2.2.2.2.2.2.2.2.2.2.2.2.2.2.2.2.2.2.2.1.len p1.2.2.2.2.2.2.2.2.2.2.2.2.2.2.2.2.2.2.2.2.2.2.2.2.1.cap, .slice p1.2.2.2.2.2.2.2.2.2.2.2.2.2.2.2.2.2.2.2.2.2.2.2.2.2.1.a p1.2.2.2.2.2.2.2.2.2.2.2.2.2.2.2.2.2.2.2.2.2.2.2.2.2.1.len p1.2.2.2.2.2.2.2.2.2.2.2.2.2.2.2.2.2.2.2.2.2.2.2.2.2.1.cap], .int .u8 p2] h Q := by
  rw [← inflow_Flow_Take_den] at hh
  exact calls_of_den Try.func8 (by kernel_rfl) Try.ntmps8 (by kernel_rfl) (fun f hf => by
      rcases List.mem_cons.1 hf with rfl | hf
      · exact Try.call14
      rcases List.mem_cons.1 hf with rfl | hf
      · exact Try.call15
      rcases List.mem_cons.1 hf with rfl | hf
      · exact Try.call16
      cases hf) orders hh

/-- aqueduct/aqueductlaw15.wakes -/
def law15_wakes : HM (Bool × Unit) :=
  HM.bind (α := Option Addr) (HM.call1 Try.prog (.one .ptr) 6 #[.int .i64 5]) fun (x1 : Option Addr) =>
  HM.bind (α := Nat) (HM.new (.cells #[.int .i64 0, .bool false, .bool false, .int .i64 0, .int .i64 0, .string (ByteArray.mk #[]), .string (ByteArray.mk #[]), .int .u8 0, .slice none 0 0, .slice none 0 0, .string (ByteArray.mk #[]), .bool false, .int .i64 0, .bool false, .string (ByteArray.mk #[]), .string (ByteArray.mk #[]), .int .i64 0, .bool false, .slice none 0 0, .bool false, .bool false, .string (ByteArray.mk #[]), .string (ByteArray.mk #[]), .bool false, .slice none 0 0, .slice none 0 0] 36)) fun (x2 : Nat) =>
  HM.bind (α := Unit) (HM.storeN ⟨x2, 0, none⟩ [.int .i64 3, .bool false, .bool false, .int .i64 2, .int .i64 7, .string (ByteArray.mk #[]), .string (ByteArray.mk #[]), .int .u8 0, .slice none 0 0, .slice none 0 0, .string (ByteArray.mk #[]), .bool false, .int .i64 0, .bool false, .string (ByteArray.mk #[]), .string (ByteArray.mk #[]), .int .i64 0, .bool false, .slice none 0 0, .bool false, .bool false, .string (ByteArray.mk #[]), .string (ByteArray.mk #[]), .bool false, .slice none 0 0, .slice none 0 0]) fun (_ : Unit) =>
  HM.bind (α := Int × Bool × Bool × Int × Int × ByteArray × ByteArray × Int × Slc × Slc × ByteArray × Bool × Int × Bool × ByteArray × ByteArray × Int × Bool × Slc × Bool × Bool × ByteArray × ByteArray × Bool × Slc × Slc × Unit) (HM.loadN [.int .i64, .bool, .bool, .int .i64, .int .i64, .str, .str, .int .u8, .slc, .slc, .str, .bool, .int .i64, .bool, .str, .str, .int .i64, .bool, .slc, .bool, .bool, .str, .str, .bool, .slc, .slc] ⟨x2, 0, none⟩) fun (x3 : Int × Bool × Bool × Int × Int × ByteArray × ByteArray × Int × Slc × Slc × ByteArray × Bool × Int × Bool × ByteArray × ByteArray × Int × Bool × Slc × Bool × Bool × ByteArray × ByteArray × Bool × Slc × Slc × Unit) =>
  HM.bind (α := Bool × Slc × Int × Unit) (HM.callN Try.prog [.one .bool, .one .slc, .one (.int .u8)] 8 #[.pointer x1, .agg #[.int .i64 x3.1, .bool x3.2.1, .bool x3.2.2.1, .int .i64 x3.2.2.2.1, .int .i64 x3.2.2.2.2.1, .string x3.2.2.2.2.2.1, .string x3.2.2.2.2.2.2.1, .int .u8 x3.2.2.2.2.2.2.2.1, .slice x3.2.2.2.2.2.2.2.2.1.a x3.2.2.2.2.2.2.2.2.1.len x3.2.2.2.2.2.2.2.2.1.cap, .slice x3.2.2.2.2.2.2.2.2.2.1.a x3.2.2.2.2.2.2.2.2.2.1.len x3.2.2.2.2.2.2.2.2.2.1.cap, .string x3.2.2.2.2.2.2.2.2.2.2.1, .bool x3.2.2.2.2.2.2.2.2.2.2.2.1, .int .i64 x3.2.2.2.2.2.2.2.2.2.2.2.2.1, .bool x3.2.2.2.2.2.2.2.2.2.2.2.2.2.1, .string x3.2.2.2.2.2.2.2.2.2.2.2.2.2.2.1, .string x3.2.2.2.2.2.2.2.2.2.2.2.2.2.2.2.1, .int .i64 x3.2.2.2.2.2.2.2.2.2.2.2.2.2.2.2.2.1, .bool x3.2.2.2.2.2.2.2.2.2.2.2.2.2.2.2.2.2.1, .slice x3.2.2.2.2.2.2.2.2.2.2.2.2.2.2.2.2.2.2.1.a x3.2.2.2.2.2.2.2.2.2.2.2.2.2.2.2.2.2.2.1.len x3.2.2.2.2.2.2.2.2.2.2.2.2.2.2.2.2.2.2.1.cap, .bool x3.2.2.2.2.2.2.2.2.2.2.2.2.2.2.2.2.2.2.2.1, .bool x3.2.2.2.2.2.2.2.2.2.2.2.2.2.2.2.2.2.2.2.2.1, .string x3.2.2.2.2.2.2.2.2.2.2.2.2.2.2.2.2.2.2.2.2.2.1, .string x3.2.2.2.2.2.2.2.2.2.2.2.2.2.2.2.2.2.2.2.2.2.2.1, .bool x3.2.2.2.2.2.2.2.2.2.2.2.2.2.2.2.2.2.2.2.2.2.2.2.1, .slice x3.2.2.2.2.2.2.2.2.2.2.2.2.2.2.2.2.2.2.2.2.2.2.2.2.1.a x3.2.2.2.2.2.2.2.2.2.2.2.2.2.2.2.2.2.2.2.2.2.2.2.2.1.len x3.2.2.2.2.2.2.2.2.2.2.2.2.2.2.2.2.2.2.2.2.2.2.2.2.1.cap, .slice x3.2.2.2.2.2.2.2.2.2.2.2.2.2.2.2.2.2.2.2.2.2.2.2.2.2.1.a x3.2.2.2.2.2.2.2.2.2.2.2.2.2.2.2.2.2.2.2.2.2.2.2.2.2.1.len x3.2.2.2.2.2.2.2.2.2.2.2.2.2.2.2.2.2.2.2.2.2.2.2.2.2.1.cap], .int .u8 0]) fun (x4 : Bool × Slc × Int × Unit) =>
  HM.bind (α := Int × Bool × Bool × Int × Int × ByteArray × ByteArray × Int × Slc × Slc × ByteArray × Bool × Int × Bool × ByteArray × ByteArray × Int × Bool × Slc × Bool × Bool × ByteArray × ByteArray × Bool × Slc × Slc × Unit) (HM.loadN [.int .i64, .bool, .bool, .int .i64, .int .i64, .str, .str, .int .u8, .slc, .slc, .str, .bool, .int .i64, .bool, .str, .str, .int .i64, .bool, .slc, .bool, .bool, .str, .str, .bool, .slc, .slc] ⟨x2, 0, none⟩) fun (x5 : Int × Bool × Bool × Int × Int × ByteArray × ByteArray × Int × Slc × Slc × ByteArray × Bool × Int × Bool × ByteArray × ByteArray × Int × Bool × Slc × Bool × Bool × ByteArray × ByteArray × Bool × Slc × Slc × Unit) =>
  HM.bind (α := Bool × Slc × Int × Unit) (HM.callN Try.prog [.one .bool, .one .slc, .one (.int .u8)] 8 #[.pointer x1, .agg #[.int .i64 x5.1, .bool x5.2.1, .bool x5.2.2.1, .int .i64 x5.2.2.2.1, .int .i64 x5.2.2.2.2.1, .string x5.2.2.2.2.2.1, .string x5.2.2.2.2.2.2.1, .int .u8 x5.2.2.2.2.2.2.2.1, .slice x5.2.2.2.2.2.2.2.2.1.a x5.2.2.2.2.2.2.2.2.1.len x5.2.2.2.2.2.2.2.2.1.cap, .slice x5.2.2.2.2.2.2.2.2.2.1.a x5.2.2.2.2.2.2.2.2.2.1.len x5.2.2.2.2.2.2.2.2.2.1.cap, .string x5.2.2.2.2.2.2.2.2.2.2.1, .bool x5.2.2.2.2.2.2.2.2.2.2.2.1, .int .i64 x5.2.2.2.2.2.2.2.2.2.2.2.2.1, .bool x5.2.2.2.2.2.2.2.2.2.2.2.2.2.1, .string x5.2.2.2.2.2.2.2.2.2.2.2.2.2.2.1, .string x5.2.2.2.2.2.2.2.2.2.2.2.2.2.2.2.1, .int .i64 x5.2.2.2.2.2.2.2.2.2.2.2.2.2.2.2.2.1, .bool x5.2.2.2.2.2.2.2.2.2.2.2.2.2.2.2.2.2.1, .slice x5.2.2.2.2.2.2.2.2.2.2.2.2.2.2.2.2.2.2.1.a x5.2.2.2.2.2.2.2.2.2.2.2.2.2.2.2.2.2.2.1.len x5.2.2.2.2.2.2.2.2.2.2.2.2.2.2.2.2.2.2.1.cap, .bool x5.2.2.2.2.2.2.2.2.2.2.2.2.2.2.2.2.2.2.2.1, .bool x5.2.2.2.2.2.2.2.2.2.2.2.2.2.2.2.2.2.2.2.2.1, .string x5.2.2.2.2.2.2.2.2.2.2.2.2.2.2.2.2.2.2.2.2.2.1, .string x5.2.2.2.2.2.2.2.2.2.2.2.2.2.2.2.2.2.2.2.2.2.2.1, .bool x5.2.2.2.2.2.2.2.2.2.2.2.2.2.2.2.2.2.2.2.2.2.2.2.1, .slice x5.2.2.2.2.2.2.2.2.2.2.2.2.2.2.2.2.2.2.2.2.2.2.2.2.1.a x5.2.2.2.2.2.2.2.2.2.2.2.2.2.2.2.2.2.2.2.2.2.2.2.2.1.len x5.2.2.2.2.2.2.2.2.2.2.2.2.2.2.2.2.2.2.2.2.2.2.2.2.1.cap, .slice x5.2.2.2.2.2.2.2.2.2.2.2.2.2.2.2.2.2.2.2.2.2.2.2.2.2.1.a x5.2.2.2.2.2.2.2.2.2.2.2.2.2.2.2.2.2.2.2.2.2.2.2.2.2.1.len x5.2.2.2.2.2.2.2.2.2.2.2.2.2.2.2.2.2.2.2.2.2.2.2.2.2.1.cap], .int .u8 0]) fun (x6 : Bool × Slc × Int × Unit) =>
  HM.bind (α := Bool × Unit) (HM.ite x4.1 (
  HM.ite (!x6.1) (
  HM.ite (x4.2.2.1 == 0) (
  HM.ite (x6.2.2.1 == 0) (
  HM.ite (((x4.2.1.len : Nat) : Int) == 1) (
  HM.ite (((x6.2.1.len : Nat) : Int) == 1) (
  HM.bind (α := Addr) (HM.idx x6.2.1.a x6.2.1.len 0 26) fun (x7 : Addr) =>
  HM.bind (α := Int) (HM.load1 (.int .i64) (Addr.add x7 0)) fun (x8 : Int) =>
  HM.ite (x8 == 5) (
  HM.bind (α := Addr) (HM.idx x6.2.1.a x6.2.1.len 0 26) fun (x9 : Addr) =>
  HM.bind (α := Int) (HM.load1 (.int .i64) (Addr.add x9 4)) fun (x10 : Int) =>
  HM.pure (x10 == 7, ())) (
  HM.pure (false, ()))) (
  HM.pure (false, ()))) (
  HM.pure (false, ()))) (
  HM.pure (false, ()))) (
  HM.pure (false, ()))) (
  HM.pure (false, ()))) (
  HM.pure (false, ()))) fun (x11 : Bool × Unit) =>
  HM.pure (x11.1, ())

theorem law15_wakes_den : denFn Try.prog [6, 8] 62 [0, 1, 2, 3, 4, 5, 6, 7, 8] [1, 2, 3, 4, 5, 6, 7, 8] Try.f9.results.toList [.one .bool] (bodyOf Try.f9) [] = law15_wakes := by kernel_rfl
theorem law15_wakes_calls (h : Heap) (Q : Value → Heap → Prop) (hh : law15_wakes h fun x h' => Q (.bool x.1) h') :
    HCalls Try.prog 9 #[] h Q := by
  rw [← law15_wakes_den] at hh
  exact calls_of_den Try.func9 (by kernel_rfl) Try.ntmps9 (by kernel_rfl) (fun f hf => by
      rcases List.mem_cons.1 hf with rfl | hf
      · exact Try.call6
      rcases List.mem_cons.1 hf with rfl | hf
      · exact Try.call8
      cases hf) orders hh

/-- (*aqueduct/inflow.Flow).Open -/
def inflow_Flow_Open (p0 : Option Addr) : HM (Slc × Unit) :=
  HM.ite (Option.isNone p0) (
  HM.pure (⟨none, 0, 0⟩, ())) (
  HM.bind (α := Addr) (HM.nonnil p0) fun (x1 : Addr) =>
  HM.bind (α := Option Addr) (HM.load1 .ptr (Addr.add x1 0)) fun (x2 : Option Addr) =>
  HM.bind (α := Slc) (HM.call1 Try.prog (.one .slc) 17 #[.pointer x2]) fun (x3 : Slc) =>
  HM.pure (x3, ()))

theorem inflow_Flow_Open_den (p0 : Option Addr) : denFn Try.prog [17] 10 [0, 2, 4] [0, 4] Try.f10.results.toList [.one .slc] (bodyOf Try.f10) [Kind.val (.one .ptr) p0] = inflow_Flow_Open p0 := by kernel_rfl
theorem inflow_Flow_Open_calls (p0 : Option Addr) (h : Heap) (Q : Value → Heap → Prop) (hh : inflow_Flow_Open p0 h fun x h' => Q (.slice x.1.a x.1.len x.1.cap) h') :
    HCalls Try.prog 10 #[.pointer p0] h Q := by
  rw [← inflow_Flow_Open_den] at hh
  exact calls_of_den Try.func10 (by kernel_rfl) Try.ntmps10 (by kernel_rfl) (fun f hf => by
      rcases List.mem_cons.1 hf with rfl | hf
      · exact Try.call17
      cases hf) orders hh

/-- (*aqueduct/inflow.Flow).Fresh -/
def inflow_Flow_Fresh (p0 : Option Addr) (p1 : Int × Bool × Bool × Int × Int × ByteArray × ByteArray × Int × Slc × Slc × ByteArray × Bool × Int × Bool × ByteArray × ByteArray × Int × Bool × Slc × Bool × Bool × ByteArray × ByteArray × Bool × Slc × Slc × Unit) : HM (Bool × Unit) :=
  HM.bind (α := Nat) (HM.new (.cells #[.int .i64 p1.1, .bool p1.2.1, .bool p1.2.2.1, .int .i64 p1.2.2.2.1, .int .i64 p1.2.2.2.2.1, .string p1.2.2.2.2.2.1, .string p1.2.2.2.2.2.2.1, .int .u8 p1.2.2.2.2.2.2.2.1, .slice p1.2.2.2.2.2.2.2.2.1.a p1.2.2.2.2.2.2.2.2.1.len p1.2.2.2.2.2.2.2.2.1.cap, .slice p1.2.2.2.2.2.2.2.2.2.1.a p1.2.2.2.2.2.2.2.2.2.1.len p1.2.2.2.2.2.2.2.2.2.1.cap, .string p1.2.2.2.2.2.2.2.2.2.2.1, .bool p1.2.2.2.2.2.2.2.2.2.2.2.1, .int .i64 p1.2.2.2.2.2.2.2.2.2.2.2.2.1, .bool p1.2.2.2.2.2.2.2.2.2.2.2.2.2.1, .string p1.2.2.2.2.2.2.2.2.2.2.2.2.2.2.1, .string p1.2.2.2.2.2.2.2.2.2.2.2.2.2.2.2.1, .int .i64 p1.2.2.2.2.2.2.2.2.2.2.2.2.2.2.2.2.1, .bool p1.2.2.2.2.2.2.2.2.2.2.2.2.2.2.2.2.2.1, .slice p1.2.2.2.2.2.2.2.2.2.2.2.2.2.2.2.2.2.2.1.a p1.2.2.2.2.2.2.2.2.2.2.2.2.2.2.2.2.2.2.1.len p1.2.2.2.2.2.2.2.2.2.2.2.2.2.2.2.2.2.2.1.cap, .bool p1.2.2.2.2.2.2.2.2.2.2.2.2.2.2.2.2.2.2.2.1, .bool p1.2.2.2.2.2.2.2.2.2.2.2.2.2.2.2.2.2.2.2.2.1, .string p1.2.2.2.2.2.2.2.2.2.2.2.2.2.2.2.2.2.2.2.2.2.1, .string p1.2.2.2.2.2.2.2.2.2.2.2.2.2.2.2.2.2.2.2.2.2.2.1, .bool p1.2.2.2.2.2.2.2.2.2.2.2.2.2.2.2.2.2.2.2.2.2.2.2.1, .slice p1.2.2.2.2.2.2.2.2.2.2.2.2.2.2.2.2.2.2.2.2.2.2.2.2.1.a p1.2.2.2.2.2.2.2.2.2.2.2.2.2.2.2.2.2.2.2.2.2.2.2.2.1.len p1.2.2.2.2.2.2.2.2.2.2.2.2.2.2.2.2.2.2.2.2.2.2.2.2.1.cap, .slice p1.2.2.2.2.2.2.2.2.2.2.2.2.2.2.2.2.2.2.2.2.2.2.2.2.2.1.a p1.2.2.2.2.2.2.2.2.2.2.2.2.2.2.2.2.2.2.2.2.2.2.2.2.2.1.len p1.2.2.2.2.2.2.2.2.2.2.2.2.2.2.2.2.2.2.2.2.2.2.2.2.2.1.cap] 36)) fun (x1 : Nat) =>
  HM.bind (α := Bool × Unit) (HM.ite (!(Option.isNone p0)) (
  HM.bind (α := Int) (HM.load1 (.int .i64) (Addr.add ⟨x1, 0, none⟩ 0)) fun (x2 : Int) =>
  HM.ite (x2 == 3) (
  HM.bind (α := Int) (HM.load1 (.int .i64) (Addr.add ⟨x1, 0, none⟩ 3)) fun (x3 : Int) =>
  HM.ite (x3 == 0) (
  HM.pure (true, ())) (
  HM.bind (α := Int) (HM.load1 (.int .i64) (Addr.add ⟨x1, 0, none⟩ 3)) fun (x4 : Int) =>
  HM.ite (x4 == 1) (
  HM.pure (true, ())) (
  HM.bind (α := Int) (HM.load1 (.int .i64) (Addr.add ⟨x1, 0, none⟩ 3)) fun (x5 : Int) =>
  HM.ite (x5 == 2) (
  HM.bind (α := Int) (HM.load1 (.int .i64) (Addr.add ⟨x1, 0, none⟩ 4)) fun (x6 : Int) =>
  HM.bind (α := Bool) (HM.call1 Try.prog (.one .bool) 18 #[.pointer p0, .int .i64 x6]) fun (x7 : Bool) =>
  HM.pure (!x7, ())) (
  HM.pure (false, ()))))) (
  HM.pure (false, ()))) (
  HM.pure (false, ()))) fun (x8 : Bool × Unit) =>
  HM.pure (x8.1, ())

theorem inflow_Flow_Fresh_den (p0 : Option Addr) (p1 : Int × Bool × Bool × Int × Int × ByteArray × ByteArray × Int × Slc × Slc × ByteArray × Bool × Int × Bool × ByteArray × ByteArray × Int × Bool × Slc × Bool × Bool × ByteArray × ByteArray × Bool × Slc × Slc × Unit) : denFn Try.prog [18] 34 [0, 1, 3, 4] [0, 1, 3] Try.f11.results.toList [.one .bool] (bodyOf Try.f11) [Kind.val (.one .ptr) p0, Kind.val (.agg [.int .i64, .bool, .bool, .int .i64, .int .i64, .str, .str, .int .u8, .slc, .slc, .str, .bool, .int .i64, .bool, .str, .str, .int .i64, .bool, .slc, .bool, .bool, .str, .str, .bool, .slc, .slc]) p1] = inflow_Flow_Fresh p0 p1 := by kernel_rfl
theorem inflow_Flow_Fresh_calls (p0 : Option Addr) (p1 : Int × Bool × Bool × Int × Int × ByteArray × ByteArray × Int × Slc × Slc × ByteArray × Bool × Int × Bool × ByteArray × ByteArray × Int × Bool × Slc × Bool × Bool × ByteArray × ByteArray × Bool × Slc × Slc × Unit) (h : Heap) (Q : Value → Heap → Prop) (hh : inflow_Flow_Fresh p0 p1 h fun x h' => Q (.bool x.1) h') :
    HCalls Try.prog 11 #[.pointer p0, .agg #[.int .i64 p1.1, .bool p1.2.1, .bool p1.2.2.1, .int .i64 p1.2.2.2.1, .int .i64 p1.2.2.2.2.1, .string p1.2.2.2.2.2.1, .string p1.2.2.2.2.2.2.1, .int .u8 p1.2.2.2.2.2.2.2.1, .slice p1.2.2.2.2.2.2.2.2.1.a p1.2.2.2.2.2.2.2.2.1.len p1.2.2.2.2.2.2.2.2.1.cap, .slice p1.2.2.2.2.2.2.2.2.2.1.a p1.2.2.2.2.2.2.2.2.2.1.len p1.2.2.2.2.2.2.2.2.2.1.cap, .string p1.2.2.2.2.2.2.2.2.2.2.1, .bool p1.2.2.2.2.2.2.2.2.2.2.2.1, .int .i64 p1.2.2.2.2.2.2.2.2.2.2.2.2.1, .bool p1.2.2.2.2.2.2.2.2.2.2.2.2.2.1, .string p1.2.2.2.2.2.2.2.2.2.2.2.2.2.2.1, .string p1.2.2.2.2.2.2.2.2.2.2.2.2.2.2.2.1, .int .i64 p1.2.2.2.2.2.2.2.2.2.2.2.2.2.2.2.2.1, .bool p1.2.2.2.2.2.2.2.2.2.2.2.2.2.2.2.2.2.1, .slice p1.2.2.2.2.2.2.2.2.2.2.2.2.2.2.2.2.2.2.1.a p1.2.2.2.2.2.2.2.2.2.2.2.2.2.2.2.2.2.2.1.len p1.2.2.2.2.2.2.2.2.2.2.2.2.2.2.2.2.2.2.1.cap, .bool p1.2.2.2.2.2.2.2.2.2.2.2.2.2.2.2.2.2.2.2.1, .bool p1.2.2.2.2.2.2.2.2.2.2.2.2.2.2.2.2.2.2.2.2.1, .string p1.2.2.2.2.2.2.2.2.2.2.2.2.2.2.2.2.2.2.2.2.2.1, .string p1.2.2.2.2.2.2.2.2.2.2.2.2.2.2.2.2.2.2.2.2.2.2.1, .bool p1.2.2.2.2.2.2.2.2.2.2.2.2.2.2.2.2.2.2.2.2.2.2.2.1, .slice p1.2.2.2.2.2.2.2.2.2.2.2.2.2.2.2.2.2.2.2.2.2.2.2.2.1.a p1.2.2.2.2.2.2.2.2.2.2.2.2.2.2.2.2.2.2.2.2.2.2.2.2.1.len p1.2.2.2.2.2.2.2.2.2.2.2.2.2.2.2.2.2.2.2.2.2.2.2.2.1.cap, .slice p1.2.2.2.2.2.2.2.2.2.2.2.2.2.2.2.2.2.2.2.2.2.2.2.2.2.1.a p1.2.2.2.2.2.2.2.2.2.2.2.2.2.2.2.2.2.2.2.2.2.2.2.2.2.1.len p1.2.2.2.2.2.2.2.2.2.2.2.2.2.2.2.2.2.2.2.2.2.2.2.2.2.1.cap]] h Q := by
  rw [← inflow_Flow_Fresh_den] at hh
  exact calls_of_den Try.func11 (by kernel_rfl) Try.ntmps11 (by kernel_rfl) (fun f hf => by
      rcases List.mem_cons.1 hf with rfl | hf
      · exact Try.call18
      cases hf) orders hh

/-- (*aqueduct/inflow.Flow).Claim -/
def inflow_Flow_Claim (p0 : Option Addr) (p1 : Int) : HM (Int × Unit) :=
  HM.ite (Option.isNone p0) (
  HM.pure (128, ())) (
  HM.bind (α := Addr) (HM.nonnil p0) fun (x1 : Addr) =>
  HM.bind (α := Option Addr) (HM.load1 .ptr (Addr.add x1 0)) fun (x2 : Option Addr) =>
  HM.bind (α := Int) (HM.call1 Try.prog (.one (.int .u8)) 19 #[.pointer x2, .int .i64 p1]) fun (x3 : Int) =>
  HM.pure (x3, ()))

theorem inflow_Flow_Claim_den (p0 : Option Addr) (p1 : Int) : denFn Try.prog [19] 13 [0, 1, 4, 6] [0, 1, 6] Try.f12.results.toList [.one (.int .u8)] (bodyOf Try.f12) [Kind.val (.one .ptr) p0, Kind.val (.one (.int .i64)) p1] = inflow_Flow_Claim p0 p1 := by kernel_rfl
theorem inflow_Flow_Claim_calls (p0 : Option Addr) (p1 : Int) (h : Heap) (Q : Value → Heap → Prop) (hh : inflow_Flow_Claim p0 p1 h fun x h' => Q (.int .u8 x.1) h') :
    HCalls Try.prog 12 #[.pointer p0, .int .i64 p1] h Q := by
  rw [← inflow_Flow_Claim_den] at hh
  exact calls_of_den Try.func12 (by kernel_rfl) Try.ntmps12 (by kernel_rfl) (fun f hf => by
      rcases List.mem_cons.1 hf with rfl | hf
      · exact Try.call19
      cases hf) orders hh

/-- aqueduct/ids.New -/
def ids_New (p0 : Int) : HM (Option Addr × Unit) :=
  HM.bind (α := Nat) (HM.new (.map #[] 0)) fun (x1 : Nat) =>
  HM.bind (α := Nat) (HM.new (.cells #[.int .i64 (if 1 < ((if 64 < (p0 : Int) then 64 else p0) : Int) then (if 64 < (p0 : Int) then 64 else p0) else 1), .int .i64 0, .map (some x1)] 66)) fun (x2 : Nat) =>
  HM.pure (some ⟨x2, 0, none⟩, ())

theorem ids_New_den (p0 : Int) : denFn Try.prog [] 9 [0, 2] [0] Try.f13.results.toList [.one .ptr] (bodyOf Try.f13) [Kind.val (.one (.int .i64)) p0] = ids_New p0 := by kernel_rfl
theorem ids_New_calls (p0 : Int) (h : Heap) (Q : Value → Heap → Prop) (hh : ids_New p0 h fun x h' => Q (.pointer x.1) h') :
    HCalls Try.prog 13 #[.int .i64 p0] h Q := by
  rw [← ids_New_den] at hh
  exact calls_of_den Try.func13 (by kernel_rfl) Try.ntmps13 (by kernel_rfl) (fun f hf => by cases hf) orders hh

/-- (*aqueduct/ids.Pool).Free -/
def ids_Pool_Free (p0 : Option Addr) (p1 : Int) : HM (Bool × Unit) :=
  HM.bind (α := Bool × Unit) (HM.ite (Option.isNone p0) (
  HM.pure (true, ())) (
  HM.bind (α := Addr) (HM.nonnil p0) fun (x1 : Addr) =>
  HM.bind (α := Option Nat) (HM.load1 .map (Addr.add x1 2)) fun (x2 : Option Nat) =>
  HM.bind (α := Bool × Bool) (HM.lookup (Instr.sameNow (.int .i64)) (.bool false) (.one .bool) x2 (.int .i64 p1)) fun (x3 : Bool × Bool) =>
  HM.pure (!x3.1, ()))) fun (x4 : Bool × Unit) =>
  HM.ite x4.1 (
  HM.pure (false, ())) (
  HM.bind (α := Addr) (HM.nonnil p0) fun (x5 : Addr) =>
  HM.bind (α := Option Nat) (HM.load1 .map (Addr.add x5 2)) fun (x6 : Option Nat) =>
  HM.bind (α := Unit) (HM.mapDel (Instr.sameNow (.int .i64)) x6 (.int .i64 p1)) fun (_ : Unit) =>
  HM.pure (true, ()))

theorem ids_Pool_Free_den (p0 : Option Addr) (p1 : Int) : denFn Try.prog [] 21 [0, 1, 4, 15] [0, 1, 15] Try.f14.results.toList [.one .bool] (bodyOf Try.f14) [Kind.val (.one .ptr) p0, Kind.val (.one (.int .i64)) p1] = ids_Pool_Free p0 p1 := by kernel_rfl
theorem ids_Pool_Free_calls (p0 : Option Addr) (p1 : Int) (h : Heap) (Q : Value → Heap → Prop) (hh : ids_Pool_Free p0 p1 h fun x h' => Q (.bool x.1) h') :
    HCalls Try.prog 14 #[.pointer p0, .int .i64 p1] h Q := by
  rw [← ids_Pool_Free_den] at hh
  exact calls_of_den Try.func14 (by kernel_rfl) Try.ntmps14 (by kernel_rfl) (fun f hf => by cases hf) orders hh

/-- aqueduct/inflow.answer -/
def inflow_answer (p0 : Int) (p1 : Int) (p2 : Int) : HM (Slc × Unit) :=
  HM.bind (α := Nat) (HM.new (.cells #[.int .i64 p0, .bool false, .bool false, .int .i64 0, .int .i64 p1, .string (ByteArray.mk #[]), .string (ByteArray.mk #[]), .int .u8 p2, .slice none 0 0, .slice none 0 0, .string (ByteArray.mk #[]), .bool false, .int .i64 0, .bool false, .string (ByteArray.mk #[]), .string (ByteArray.mk #[]), .int .i64 0, .bool false, .slice none 0 0, .bool false, .bool false, .string (ByteArray.mk #[]), .string (ByteArray.mk #[]), .bool false, .slice none 0 0, .slice none 0 0] 36)) fun (x1 : Nat) =>
  HM.bind (α := Slc) (HM.call1 Try.prog (.one .slc) 20 #[.slice (some ⟨x1, 0, none⟩) 1 1]) fun (x2 : Slc) =>
  HM.pure (x2, ())

theorem inflow_answer_den (p0 : Int) (p1 : Int) (p2 : Int) : denFn Try.prog [20] 13 [0, 1, 2, 6] [0, 1, 2] Try.f15.results.toList [.one .slc] (bodyOf Try.f15) [Kind.val (.one (.int .i64)) p0, Kind.val (.one (.int .i64)) p1, Kind.val (.one (.int .u8)) p2] = inflow_answer p0 p1 p2 := by kernel_rfl
theorem inflow_answer_calls (p0 : Int) (p1 : Int) (p2 : Int) (h : Heap) (Q : Value → Heap → Prop) (hh : inflow_answer p0 p1 p2 h fun x h' => Q (.slice x.1.a x.1.len x.1.cap) h') :
    HCalls Try.prog 15 #[.int .i64 p0, .int .i64 p1, .int .u8 p2] h Q := by
  rw [← inflow_answer_den] at hh
  exact calls_of_den Try.func15 (by kernel_rfl) Try.ntmps15 (by kernel_rfl) (fun f hf => by
      rcases List.mem_cons.1 hf with rfl | hf
      · exact Try.call20
      cases hf) orders hh

/-- (*aqueduct/inflow.Flow).two -/
def inflow_Flow_two (p0 : Option Addr) (p1 : Int) (p2 : Int) : HM (Bool × Slc × Int × Unit) :=
  HM.bind (α := Bool) (HM.call1 Try.prog (.one .bool) 18 #[.pointer p0, .int .i64 p1]) fun (x1 : Bool) =>
  HM.ite x1 (
  HM.bind (α := Slc) (HM.call1 Try.prog (.one .slc) 15 #[.int .i64 5, .int .i64 p1, .int .u8 0]) fun (x2 : Slc) =>
  HM.pure (false, x2, 0, ())) (
  HM.bind (α := Addr) (HM.nonnil p0) fun (x3 : Addr) =>
  HM.bind (α := Option Addr) (HM.load1 .ptr (Addr.add x3 0)) fun (x4 : Option Addr) =>
  HM.bind (α := Int) (HM.call1 Try.prog (.one (.int .i64)) 21 #[.pointer x4]) fun (x5 : Int) =>
  HM.ite (x5 == 0) (
  HM.pure (false, ⟨none, 0, 0⟩, 147, ())) (
  HM.bind (α := Unit) (HM.ite (decide (p2 < (128 : Int))) (
  HM.bind (α := Addr) (HM.nonnil p0) fun (x7 : Addr) =>
  HM.bind (α := Option Addr) (HM.load1 .ptr (Addr.add x7 0)) fun (x8 : Option Addr) =>
  HM.bind (α := Int) (HM.call1 Try.prog (.one (.int .u8)) 19 #[.pointer x8, .int .i64 p1]) fun (x9 : Int) =>
  HM.pure ()) (
  HM.pure ())) fun (x6 : Unit) =>
  HM.bind (α := Slc) (HM.call1 Try.prog (.one .slc) 15 #[.int .i64 5, .int .i64 p1, .int .u8 p2]) fun (x10 : Slc) =>
  HM.pure (true, x10, 0, ())))

theorem inflow_Flow_two_den (p0 : Option Addr) (p1 : Int) (p2 : Int) : denFn Try.prog [18, 15, 21, 19] 33 [0, 1, 2, 6, 7, 8, 9, 15, 23] [0, 1, 2, 9, 15, 23] Try.f16.results.toList [.one .bool, .one .slc, .one (.int .u8)] (bodyOf Try.f16) [Kind.val (.one .ptr) p0, Kind.val (.one (.int .i64)) p1, Kind.val (.one (.int .u8)) p2] = inflow_Flow_two p0 p1 p2 := by kernel_rfl
theorem inflow_Flow_two_calls (p0 : Option Addr) (p1 : Int) (p2 : Int) (h : Heap) (Q : Value → Heap → Prop) (hh : inflow_Flow_two p0 p1 p2 h fun x h' => Q (.tuple #[.bool x.1, .slice x.2.1.a x.2.1.len x.2.1.cap, .int .u8 x.2.2.1]) h') :
    HCalls Try.prog 16 #[.pointer p0, .int .i64 p1, .int .u8 p2] h Q := by
  rw [← inflow_Flow_two_den] at hh
  exact calls_of_den Try.func16 (by kernel_rfl) Try.ntmps16 (by kernel_rfl) (fun f hf => by
      rcases List.mem_cons.1 hf with rfl | hf
      · exact Try.call18
      rcases List.mem_cons.1 hf with rfl | hf
      · exact Try.call15
      rcases List.mem_cons.1 hf with rfl | hf
      · exact Try.call21
      rcases List.mem_cons.1 hf with rfl | hf
      · exact Try.call19
      cases hf) orders hh

/-- (*aqueduct/ids.Pool).Used -/
def ids_Pool_Used (p0 : Option Addr) : HM (Slc × Unit) :=
  HM.ite (Option.isNone p0) (
  HM.pure (⟨none, 0, 0⟩, ())) (
  HM.bind (α := Addr) (HM.nonnil p0) fun (x1 : Addr) =>
  HM.bind (α := Option Nat) (HM.load1 .map (Addr.add x1 2)) fun (x2 : Option Nat) =>
  HM.bind (α := Value) (HM.call1 Try.prog (.one .any) 23 #[.map x2]) fun (x3 : Value) =>
  HM.bind (α := Slc) (HM.call1 Try.prog (.one .slc) 22 #[x3]) fun (x4 : Slc) =>
  HM.pure (x4, ()))

theorem ids_Pool_Used_den (p0 : Option Addr) : denFn Try.prog [23, 22] 11 [0, 2, 4] [0, 4] Try.f17.results.toList [.one .slc] (bodyOf Try.f17) [Kind.val (.one .ptr) p0] = ids_Pool_Used p0 := by kernel_rfl
theorem ids_Pool_Used_calls (p0 : Option Addr) (h : Heap) (Q : Value → Heap → Prop) (hh : ids_Pool_Used p0 h fun x h' => Q (.slice x.1.a x.1.len x.1.cap) h') :
    HCalls Try.prog 17 #[.pointer p0] h Q := by
  rw [← ids_Pool_Used_den] at hh
  exact calls_of_den Try.func17 (by kernel_rfl) Try.ntmps17 (by kernel_rfl) (fun f hf => by
      rcases List.mem_cons.1 hf with rfl | hf
      · exact Try.call23
      rcases List.mem_cons.1 hf with rfl | hf
      · exact Try.call22
      cases hf) orders hh

/-- (*aqueduct/inflow.Flow).has -/
def inflow_Flow_has (p0 : Option Addr) (p1 : Int) : HM (Bool × Unit) :=
  HM.bind (α := Addr) (HM.nonnil p0) fun (x1 : Addr) =>
  HM.bind (α := Option Addr) (HM.load1 .ptr (Addr.add x1 0)) fun (x2 : Option Addr) =>
  HM.bind (α := Slc) (HM.call1 Try.prog (.one .slc) 17 #[.pointer x2]) fun (x3 : Slc) =>
  HM.bind (α := Bool) (HM.call1 Try.prog (.one .bool) 24 #[.slice x3.a x3.len x3.cap, .int .i64 p1]) fun (x4 : Bool) =>
  HM.pure (x4, ())

theorem inflow_Flow_has_den (p0 : Option Addr) (p1 : Int) : denFn Try.prog [17, 24] 12 [0, 1, 4] [0, 1] Try.f18.results.toList [.one .bool] (bodyOf Try.f18) [Kind.val (.one .ptr) p0, Kind.val (.one (.int .i64)) p1] = inflow_Flow_has p0 p1 := by kernel_rfl
theorem inflow_Flow_has_calls (p0 : Option Addr) (p1 : Int) (h : Heap) (Q : Value → Heap → Prop) (hh : inflow_Flow_has p0 p1 h fun x h' => Q (.bool x.1) h') :
    HCalls Try.prog 18 #[.pointer p0, .int .i64 p1] h Q := by
  rw [← inflow_Flow_has_den] at hh
  exact calls_of_den Try.func18 (by kernel_rfl) Try.ntmps18 (by kernel_rfl) (fun f hf => by
      rcases List.mem_cons.1 hf with rfl | hf
      · exact Try.call17
      rcases List.mem_cons.1 hf with rfl | hf
      · exact Try.call24
      cases hf) orders hh

/-- (*aqueduct/ids.Pool).Claim -/
def ids_Pool_Claim (p0 : Option Addr) (p1 : Int) : HM (Int × Unit) :=
  HM.ite (Option.isNone p0) (
  HM.pure (128, ())) (
  HM.bind (α := Bool × Unit) (HM.ite (decide (p1 < (1 : Int))) (
  HM.pure (true, ())) (
  HM.pure (decide (65535 < (p1 : Int)), ()))) fun (x1 : Bool × Unit) =>
  HM.ite x1.1 (
  HM.pure (129, ())) (
  HM.bind (α := Addr) (HM.nonnil p0) fun (x2 : Addr) =>
  HM.bind (α := Option Nat) (HM.load1 .map (Addr.add x2 2)) fun (x3 : Option Nat) =>
  HM.bind (α := Bool × Bool) (HM.lookup (Instr.sameNow (.int .i64)) (.bool false) (.one .bool) x3 (.int .i64 p1)) fun (x4 : Bool × Bool) =>
  HM.ite x4.1 (
  HM.pure (145, ())) (
  HM.bind (α := Int) (HM.call1 Try.prog (.one (.int .i64)) 21 #[.pointer p0]) fun (x5 : Int) =>
  HM.ite (x5 == 0) (
  HM.pure (147, ())) (
  HM.bind (α := Addr) (HM.nonnil p0) fun (x6 : Addr) =>
  HM.bind (α := Option Nat) (HM.load1 .map (Addr.add x6 2)) fun (x7 : Option Nat) =>
  HM.bind (α := Unit) (HM.mapSet (Instr.sameNow (.int .i64)) x7 (.int .i64 p1) (.bool true)) fun (_ : Unit) =>
  HM.pure (0, ())))))

theorem ids_Pool_Claim_den (p0 : Option Addr) (p1 : Int) : denFn Try.prog [21] 31 [0, 1, 4, 5, 8, 15, 22] [0, 1, 5, 8, 15, 22] Try.f19.results.toList [.one (.int .u8)] (bodyOf Try.f19) [Kind.val (.one .ptr) p0, Kind.val (.one (.int .i64)) p1] = ids_Pool_Claim p0 p1 := by kernel_rfl
theorem ids_Pool_Claim_calls (p0 : Option Addr) (p1 : Int) (h : Heap) (Q : Value → Heap → Prop) (hh : ids_Pool_Claim p0 p1 h fun x h' => Q (.int .u8 x.1) h') :
    HCalls Try.prog 19 #[.pointer p0, .int .i64 p1] h Q := by
  rw [← ids_Pool_Claim_den] at hh
  exact calls_of_den Try.func19 (by kernel_rfl) Try.ntmps19 (by kernel_rfl) (fun f hf => by
      rcases List.mem_cons.1 hf with rfl | hf
      · exact Try.call21
      cases hf) orders hh

/-- aqueduct/inflow.all -/
def inflow_all (p0 : Slc) : HM (Slc × Unit) :=
  HM.pure (p0, ())

theorem inflow_all_den (p0 : Slc) : denFn Try.prog [] 4 [0, 2] [0] Try.f20.results.toList [.one .slc] (bodyOf Try.f20) [Kind.val (.one .slc) p0] = inflow_all p0 := by kernel_rfl
theorem inflow_all_calls (p0 : Slc) (h : Heap) (Q : Value → Heap → Prop) (hh : inflow_all p0 h fun x h' => Q (.slice x.1.a x.1.len x.1.cap) h') :
    HCalls Try.prog 20 #[.slice p0.a p0.len p0.cap] h Q := by
  rw [← inflow_all_den] at hh
  exact calls_of_den Try.func20 (by kernel_rfl) Try.ntmps20 (by kernel_rfl) (fun f hf => by cases hf) orders hh

/-- (*aqueduct/ids.Pool).Left -/
def ids_Pool_Left (p0 : Option Addr) : HM (Int × Unit) :=
  HM.ite (Option.isNone p0) (
  HM.pure (0, ())) (
  HM.bind (α := Addr) (HM.nonnil p0) fun (x1 : Addr) =>
  HM.bind (α := Int) (HM.load1 (.int .i64) (Addr.add x1 0)) fun (x2 : Int) =>
  HM.bind (α := Addr) (HM.nonnil p0) fun (x3 : Addr) =>
  HM.bind (α := Option Nat) (HM.load1 .map (Addr.add x3 2)) fun (x4 : Option Nat) =>
  HM.bind (α := Int) (HM.mapLen x4) fun (x5 : Int) =>
  HM.pure (IntKind.wrap .i64 (x2 - x5), ()))

theorem ids_Pool_Left_den (p0 : Option Addr) : denFn Try.prog [] 15 [0, 2, 4] [0, 4] Try.f21.results.toList [.one (.int .i64)] (bodyOf Try.f21) [Kind.val (.one .ptr) p0] = ids_Pool_Left p0 := by kernel_rfl
theorem ids_Pool_Left_calls (p0 : Option Addr) (h : Heap) (Q : Value → Heap → Prop) (hh : ids_Pool_Left p0 h fun x h' => Q (.int .i64 x.1) h') :
    HCalls Try.prog 21 #[.pointer p0] h Q := by
  rw [← ids_Pool_Left_den] at hh
  exact calls_of_den Try.func21 (by kernel_rfl) Try.ntmps21 (by kernel_rfl) (fun f hf => by cases hf) orders hh

/-- slices.Contains[[]int,int] -/
def slices_Contains (p0 : Slc) (p1 : Int) : HM (Bool × Unit) :=
  HM.bind (α := Int) (HM.call1 Try.prog (.one (.int .i64)) 28 #[.slice p0.a p0.len p0.cap, .int .i64 p1]) fun (x1 : Int) =>
  HM.pure (decide (0 ≤ (x1 : Int)), ())

theorem slices_Contains_den (p0 : Slc) (p1 : Int) : denFn Try.prog [28] 9 [0, 1, 4] [0, 1] Try.f24.results.toList [.one .bool] (bodyOf Try.f24) [Kind.val (.one .slc) p0, Kind.val (.one (.int .i64)) p1] = slices_Contains p0 p1 := by kernel_rfl
theorem slices_Contains_calls (p0 : Slc) (p1 : Int) (h : Heap) (Q : Value → Heap → Prop) (hh : slices_Contains p0 p1 h fun x h' => Q (.bool x.1) h') :
    HCalls Try.prog 24 #[.slice p0.a p0.len p0.cap, .int .i64 p1] h Q := by
  rw [← slices_Contains_den] at hh
  exact calls_of_den Try.func24 (by kernel_rfl) Try.ntmps24 (by kernel_rfl) (fun f hf => by
      rcases List.mem_cons.1 hf with rfl | hf
      · exact Try.call28
      cases hf) orders hh

/-- slices.Index[[]int,int] -/
def slices_Index (p0 : Slc) (p1 : Int) : HM (Int × Unit) :=
  HM.bind (α := (Int × Unit) ⊕ (Int × Unit)) (HM.loop (σ := Int × Unit) (τ := (Int × Unit) ⊕ (Int × Unit)) (fun (x2 : Int × Unit) =>
  HM.ite (decide (x2.1 < (((p0.len : Nat) : Int) : Int))) (
  HM.bind (α := Addr) (HM.idx p0.a p0.len x2.1 1) fun (x3 : Addr) =>
  HM.bind (α := Int) (HM.load1 (.int .i64) x3) fun (x4 : Int) =>
  HM.ite (p1 == x4) (
  HM.pure (.inr (.inr (x2.1, ())))) (
  HM.pure (.inl (IntKind.wrap .i64 (x2.1 + 1), ())))) (
  HM.pure (.inr (.inl (x2.1, ()))))) (0, ())) (Sum.elim (fun (x1 : Int × Unit) =>
  HM.pure ((-1), ())) HM.pure)

theorem slices_Index_den (p0 : Slc) (p1 : Int) : denFn Try.prog [] 19 [0, 1, 4, 5, 7, 8, 9, 16] [0, 1, 5, 7, 8, 9, 16] Try.f28.results.toList [.one (.int .i64)] (bodyOf Try.f28) [Kind.val (.one .slc) p0, Kind.val (.one (.int .i64)) p1] = slices_Index p0 p1 := by kernel_rfl
theorem slices_Index_calls (p0 : Slc) (p1 : Int) (h : Heap) (Q : Value → Heap → Prop) (hh : slices_Index p0 p1 h fun x h' => Q (.int .i64 x.1) h') :
    HCalls Try.prog 28 #[.slice p0.a p0.len p0.cap, .int .i64 p1] h Q := by
  rw [← slices_Index_den] at hh
  exact calls_of_den Try.func28 (by kernel_rfl) Try.ntmps28 (by kernel_rfl) (fun f hf => by cases hf) orders hh

end Go.Proofs.Ytlgddhcbiioefaa
