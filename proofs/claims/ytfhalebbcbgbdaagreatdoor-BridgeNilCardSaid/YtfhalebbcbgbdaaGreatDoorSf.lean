/-
  The shallow forms of functions of the program, written by gen.py; each is held against the program by the kernel.
-/
import Derived.Test.YtfhalebbcbgbdaaGreatDoorHA
import Derived.Test.YtfhalebbcbgbdaaGreatDoorProg
import Derived.KernelRfl
namespace Go.Proofs.YtfhalebbcbgbdaaGreatDoor
open Go.H Go.Proofs
set_option linter.unusedVariables false
set_option linter.unusedSimpArgs false
set_option maxRecDepth 100000
set_option maxHeartbeats 4000000

theorem orders : Tryz.prog.follows .mixedOrders = true := by kernel_rfl

/-- aqueduct/aqueductlaw23.BridgeArrives -/
def law23_BridgeArrives (p0 : Int) (p1 : ByteArray × ByteArray × Int × Bool × ByteArray × Unit) (p2 : Slc) : HM (Bool × Unit) :=
  HM.bind (α := Nat) (HM.new (.cells #[.string p1.1, .string p1.2.1, .int .i64 p1.2.2.1, .bool p1.2.2.2.1, .string p1.2.2.2.2.1] 23)) fun (x1 : Nat) =>
  HM.bind (α := ByteArray) (HM.load1 .str (Addr.add ⟨x1, 0, none⟩ 0)) fun (x2 : ByteArray) =>
  HM.bind (α := ByteArray) (HM.load1 .str (Addr.add ⟨x1, 0, none⟩ 1)) fun (x3 : ByteArray) =>
  HM.bind (α := Int) (HM.load1 (.int .i64) (Addr.add ⟨x1, 0, none⟩ 2)) fun (x4 : Int) =>
  HM.bind (α := Bool) (HM.load1 .bool (Addr.add ⟨x1, 0, none⟩ 3)) fun (x5 : Bool) =>
  HM.bind (α := Nat) (HM.new (.cells #[.int .i64 0, .bool false, .bool false, .int .i64 0, .int .i64 0, .string (ByteArray.mk #[]), .string (ByteArray.mk #[]), .int .u8 0, .slice none 0 0, .slice none 0 0, .string (ByteArray.mk #[]), .bool false, .int .i64 0, .bool false, .string (ByteArray.mk #[]), .string (ByteArray.mk #[]), .int .i64 0, .bool false, .slice none 0 0, .bool false, .bool false, .string (ByteArray.mk #[]), .string (ByteArray.mk #[]), .bool false, .slice none 0 0, .slice none 0 0] 34)) fun (x6 : Nat) =>
  HM.bind (α := Unit) (HM.storeN ⟨x6, 0, none⟩ [.int .i64 p0, .bool false, .bool x5, .int .i64 x4, .int .i64 0, .string x2, .string x3, .int .u8 0, .slice none 0 0, .slice none 0 0, .string (ByteArray.mk #[]), .bool false, .int .i64 0, .bool false, .string (ByteArray.mk #[]), .string (ByteArray.mk #[]), .int .i64 0, .bool false, .slice none 0 0, .bool false, .bool false, .string (ByteArray.mk #[]), .string (ByteArray.mk #[]), .bool false, .slice none 0 0, .slice none 0 0]) fun (_ : Unit) =>
  HM.bind (α := ByteArray) (HM.load1 .str (Addr.add ⟨x1, 0, none⟩ 0)) fun (x7 : ByteArray) =>
  HM.bind (α := ByteArray) (HM.load1 .str (Addr.add ⟨x1, 0, none⟩ 1)) fun (x8 : ByteArray) =>
  HM.bind (α := Int) (HM.load1 (.int .i64) (Addr.add ⟨x1, 0, none⟩ 2)) fun (x9 : Int) =>
  HM.bind (α := Bool) (HM.load1 .bool (Addr.add ⟨x1, 0, none⟩ 3)) fun (x10 : Bool) =>
  HM.bind (α := Nat) (HM.new (.cells #[.int .i64 0, .bool false, .bool false, .int .i64 0, .int .i64 0, .string (ByteArray.mk #[]), .string (ByteArray.mk #[]), .int .i64 0, .slice none 0 0, .slice none 0 0, .string (ByteArray.mk #[]), .bool false, .int .i64 0, .bool false, .string (ByteArray.mk #[]), .string (ByteArray.mk #[]), .int .i64 0, .bool false, .slice none 0 0, .bool false, .bool false, .string (ByteArray.mk #[]), .string (ByteArray.mk #[]), .bool false, .slice none 0 0, .slice none 0 0] 41)) fun (x11 : Nat) =>
  HM.bind (α := Unit) (HM.storeN ⟨x11, 0, none⟩ [.int .i64 p0, .bool false, .bool x10, .int .i64 x9, .int .i64 0, .string x7, .string x8, .int .i64 0, .slice none 0 0, .slice none 0 0, .string (ByteArray.mk #[]), .bool false, .int .i64 0, .bool false, .string (ByteArray.mk #[]), .string (ByteArray.mk #[]), .int .i64 0, .bool false, .slice none 0 0, .bool false, .bool false, .string (ByteArray.mk #[]), .string (ByteArray.mk #[]), .bool false, .slice none 0 0, .slice none 0 0]) fun (_ : Unit) =>
  HM.bind (α := Slc) (HM.slice p2 none (some (if 20 < (((p2.len : Nat) : Int) : Int) then 20 else ((p2.len : Nat) : Int))) none 2) fun (x12 : Slc) =>
  HM.bind (α := Int × Unit) (HM.loop (σ := Int × Unit) (τ := Int × Unit) (fun (x14 : Int × Unit) =>
  HM.ite (decide (x14.1 < (((x12.len : Nat) : Int) : Int))) (
  HM.bind (α := Addr) (HM.idx x12.a x12.len x14.1 2) fun (x15 : Addr) =>
  HM.bind (α := ByteArray × ByteArray × Unit) (HM.loadN [.str, .str] x15) fun (x16 : ByteArray × ByteArray × Unit) =>
  HM.bind (α := Nat) (HM.new (.cells #[.string (ByteArray.mk #[]), .string (ByteArray.mk #[])] 42)) fun (x17 : Nat) =>
  HM.bind (α := Unit) (HM.storeN ⟨x17, 0, none⟩ [.string x16.1, .string x16.2.1]) fun (_ : Unit) =>
  HM.bind (α := Slc) (HM.load1 .slc (Addr.add ⟨x6, 0, none⟩ 9)) fun (x18 : Slc) =>
  HM.bind (α := Addr) (HM.idx (some ⟨x17, 0, none⟩) 2 0 1) fun (x19 : Addr) =>
  HM.bind (α := ByteArray) (HM.load1 .str x19) fun (x20 : ByteArray) =>
  HM.bind (α := Addr) (HM.idx (some ⟨x17, 0, none⟩) 2 1 1) fun (x21 : Addr) =>
  HM.bind (α := ByteArray) (HM.load1 .str x21) fun (x22 : ByteArray) =>
  HM.bind (α := Nat) (HM.new (.cells #[.int .i64 38, .int .i64 0, .string x20, .string x22] 44)) fun (x23 : Nat) =>
  HM.bind (α := Slc) (HM.append 44 4 48 #[.int .i64 0, .int .i64 0, .string (ByteArray.mk #[]), .string (ByteArray.mk #[])] x18 1 (srcSlc 4 (⟨some ⟨x23, 0, none⟩, 1, 1⟩))) fun (x24 : Slc) =>
  HM.bind (α := Unit) (HM.store1 (Addr.add ⟨x6, 0, none⟩ 9) (.slice x24.a x24.len x24.cap)) fun (_ : Unit) =>
  HM.bind (α := Slc) (HM.load1 .slc (Addr.add ⟨x11, 0, none⟩ 9)) fun (x25 : Slc) =>
  HM.bind (α := Addr) (HM.idx (some ⟨x17, 0, none⟩) 2 0 1) fun (x26 : Addr) =>
  HM.bind (α := ByteArray) (HM.load1 .str x26) fun (x27 : ByteArray) =>
  HM.bind (α := Addr) (HM.idx (some ⟨x17, 0, none⟩) 2 1 1) fun (x28 : Addr) =>
  HM.bind (α := ByteArray) (HM.load1 .str x28) fun (x29 : ByteArray) =>
  HM.bind (α := Nat) (HM.new (.cells #[.int .i64 38, .int .i64 0, .string x27, .string x29] 45)) fun (x30 : Nat) =>
  HM.bind (α := Slc) (HM.append 45 4 48 #[.int .i64 0, .int .i64 0, .string (ByteArray.mk #[]), .string (ByteArray.mk #[])] x25 1 (srcSlc 4 (⟨some ⟨x30, 0, none⟩, 1, 1⟩))) fun (x31 : Slc) =>
  HM.bind (α := Unit) (HM.store1 (Addr.add ⟨x11, 0, none⟩ 9) (.slice x31.a x31.len x31.cap)) fun (_ : Unit) =>
  HM.pure (.inl (IntKind.wrap .i64 (x14.1 + 1), ()))) (
  HM.pure (.inr (x14.1, ())))) (0, ())) fun (x13 : Int × Unit) =>
  HM.bind (α := Int × Bool × Bool × Int × Int × ByteArray × ByteArray × Int × Slc × Slc × ByteArray × Bool × Int × Bool × ByteArray × ByteArray × Int × Bool × Slc × Bool × Bool × ByteArray × ByteArray × Bool × Slc × Slc × Unit) (HM.loadN [.int .i64, .bool, .bool, .int .i64, .int .i64, .str, .str, .int .u8, .slc, .slc, .str, .bool, .int .i64, .bool, .str, .str, .int .i64, .bool, .slc, .bool, .bool, .str, .str, .bool, .slc, .slc] ⟨x6, 0, none⟩) fun (x32 : Int × Bool × Bool × Int × Int × ByteArray × ByteArray × Int × Slc × Slc × ByteArray × Bool × Int × Bool × ByteArray × ByteArray × Int × Bool × Slc × Bool × Bool × ByteArray × ByteArray × Bool × Slc × Slc × Unit) =>
  HM.bind (α := (Int × Int × Int × Int × Unit) × (ByteArray × ByteArray × Int × Bool × ByteArray × Unit) × Bool × Unit) (HM.callN Tryz.prog [.agg [.int .i64, .int .i64, .int .i64, .int .i64], .agg [.str, .str, .int .i64, .bool, .str], .one .bool] 8 #[.agg #[.int .i64 x32.1, .bool x32.2.1, .bool x32.2.2.1, .int .i64 x32.2.2.2.1, .int .i64 x32.2.2.2.2.1, .string x32.2.2.2.2.2.1, .string x32.2.2.2.2.2.2.1, .int .u8 x32.2.2.2.2.2.2.2.1, .slice x32.2.2.2.2.2.2.2.2.1.a x32.2.2.2.2.2.2.2.2.1.len x32.2.2.2.2.2.2.2.2.1.cap, .slice x32.2.2.2.2.2.2.2.2.2.1.a x32.2.2.2.2.2.2.2.2.2.1.len x32.2.2.2.2.2.2.2.2.2.1.cap, .string x32.2.2.2.2.2.2.2.2.2.2.1, .bool x32.2.2.2.2.2.2.2.2.2.2.2.1, .int .i64 x32.2.2.2.2.2.2.2.2.2.2.2.2.1, .bool x32.2.2.2.2.2.2.2.2.2.2.2.2.2.1, .string x32.2.2.2.2.2.2.2.2.2.2.2.2.2.2.1, .string x32.2.2.2.2.2.2.2.2.2.2.2.2.2.2.2.1, .int .i64 x32.2.2.2.2.2.2.2.2.2.2.2.2.2.2.2.2.1, .bool x32.2.2.2.2.2.2.2.2.2.2.2.2.2.2.2.2.2.1, .slice x32.2.2.2.2.2.2.2.2.2.2.2.2.2.2.2.2.2.2.1.a x32.2.2.2.2.2.2.2.2.2.2.2.2.2.2.2.2.2.2.1.len x32.2.2.2.2.2.2.2.2.2.2.2.2.2.2.2.2.2.2.1.cap, .bool x32.2.2.2.2.2.2.2.2.2.2.2.2.2.2.2.2.2.2.2.1, .bool x32.2.2.2.2.2.2.2.2.2.2.2.2.2.2.2.2.2.2.2.2.1, .string x32.2.2.2.2.2.2.2.2.2.2.2.2.2.2.2.2.2.2.2.2.2.1, .string x32.2.2.2.2.2.2.2.2.2.2.2.2.2.2.2.2.2.2.2.2.2.2.1, .bool x32.2.2.2.2.2.2.2.2.2.2.2.2.2.2.2.2.2.2.2.2.2.2.2.1, .slice x32.2.2.2.2.2.2.2.2.2.2.2.2.2.2.2.2.2.2.2.2.2.2.2.2.1.a x32.2.2.2.2.2.2.2.2.2.2.2.2.2.2.2.2.2.2.2.2.2.2.2.2.1.len x32.2.2.2.2.2.2.2.2.2.2.2.2.2.2.2.2.2.2.2.2.2.2.2.2.1.cap, .slice x32.2.2.2.2.2.2.2.2.2.2.2.2.2.2.2.2.2.2.2.2.2.2.2.2.2.1.a x32.2.2.2.2.2.2.2.2.2.2.2.2.2.2.2.2.2.2.2.2.2.2.2.2.2.1.len x32.2.2.2.2.2.2.2.2.2.2.2.2.2.2.2.2.2.2.2.2.2.2.2.2.2.1.cap]]) fun (x33 : (Int × Int × Int × Int × Unit) × (ByteArray × ByteArray × Int × Bool × ByteArray × Unit) × Bool × Unit) =>
  HM.bind (α := Nat) (HM.new (.cells #[.int .i64 0, .int .i64 0, .int .i64 0, .int .i64 0] 49)) fun (x34 : Nat) =>
  HM.bind (α := Nat) (HM.new (.cells #[.string (ByteArray.mk #[]), .string (ByteArray.mk #[]), .int .i64 0, .bool false, .string (ByteArray.mk #[])] 50)) fun (x35 : Nat) =>
  HM.bind (α := Unit) (HM.storeN ⟨x34, 0, none⟩ [.int .i64 x33.1.1, .int .i64 x33.1.2.1, .int .i64 x33.1.2.2.1, .int .i64 x33.1.2.2.2.1]) fun (_ : Unit) =>
  HM.bind (α := Unit) (HM.storeN ⟨x35, 0, none⟩ [.string x33.2.1.1, .string x33.2.1.2.1, .int .i64 x33.2.1.2.2.1, .bool x33.2.1.2.2.2.1, .string x33.2.1.2.2.2.2.1]) fun (_ : Unit) =>
  HM.bind (α := Int × Bool × Bool × Int × Int × ByteArray × ByteArray × Int × Slc × Slc × ByteArray × Bool × Int × Bool × ByteArray × ByteArray × Int × Bool × Slc × Bool × Bool × ByteArray × ByteArray × Bool × Slc × Slc × Unit) (HM.loadN [.int .i64, .bool, .bool, .int .i64, .int .i64, .str, .str, .int .i64, .slc, .slc, .str, .bool, .int .i64, .bool, .str, .str, .int .i64, .bool, .slc, .bool, .bool, .str, .str, .bool, .slc, .slc] ⟨x11, 0, none⟩) fun (x36 : Int × Bool × Bool × Int × Int × ByteArray × ByteArray × Int × Slc × Slc × ByteArray × Bool × Int × Bool × ByteArray × ByteArray × Int × Bool × Slc × Bool × Bool × ByteArray × ByteArray × Bool × Slc × Slc × Unit) =>
  HM.bind (α := (Int × Int × Int × Int × Unit) × (ByteArray × ByteArray × Int × Bool × ByteArray × Unit) × Bool × Unit) (HM.callN Tryz.prog [.agg [.int .i64, .int .i64, .int .i64, .int .i64], .agg [.str, .str, .int .i64, .bool, .str], .one .bool] 9 #[.agg #[.int .i64 x36.1, .bool x36.2.1, .bool x36.2.2.1, .int .i64 x36.2.2.2.1, .int .i64 x36.2.2.2.2.1, .string x36.2.2.2.2.2.1, .string x36.2.2.2.2.2.2.1, .int .i64 x36.2.2.2.2.2.2.2.1, .slice x36.2.2.2.2.2.2.2.2.1.a x36.2.2.2.2.2.2.2.2.1.len x36.2.2.2.2.2.2.2.2.1.cap, .slice x36.2.2.2.2.2.2.2.2.2.1.a x36.2.2.2.2.2.2.2.2.2.1.len x36.2.2.2.2.2.2.2.2.2.1.cap, .string x36.2.2.2.2.2.2.2.2.2.2.1, .bool x36.2.2.2.2.2.2.2.2.2.2.2.1, .int .i64 x36.2.2.2.2.2.2.2.2.2.2.2.2.1, .bool x36.2.2.2.2.2.2.2.2.2.2.2.2.2.1, .string x36.2.2.2.2.2.2.2.2.2.2.2.2.2.2.1, .string x36.2.2.2.2.2.2.2.2.2.2.2.2.2.2.2.1, .int .i64 x36.2.2.2.2.2.2.2.2.2.2.2.2.2.2.2.2.1, .bool x36.2.2.2.2.2.2.2.2.2.2.2.2.2.2.2.2.2.1, .slice x36.2.2.2.2.2.2.2.2.2.2.2.2.2.2.2.2.2.2.1.a x36.2.2.2.2.2.2.2.2.2.2.2.2.2.2.2.2.2.2.1.len x36.2.2.2.2.2.2.2.2.2.2.2.2.2.2.2.2.2.2.1.cap, .bool x36.2.2.2.2.2.2.2.2.2.2.2.2.2.2.2.2.2.2.2.1, .bool x36.2.2.2.2.2.2.2.2.2.2.2.2.2.2.2.2.2.2.2.2.1, .string x36.2.2.2.2.2.2.2.2.2.2.2.2.2.2.2.2.2.2.2.2.2.1, .string x36.2.2.2.2.2.2.2.2.2.2.2.2.2.2.2.2.2.2.2.2.2.2.1, .bool x36.2.2.2.2.2.2.2.2.2.2.2.2.2.2.2.2.2.2.2.2.2.2.2.1, .slice x36.2.2.2.2.2.2.2.2.2.2.2.2.2.2.2.2.2.2.2.2.2.2.2.2.1.a x36.2.2.2.2.2.2.2.2.2.2.2.2.2.2.2.2.2.2.2.2.2.2.2.2.1.len x36.2.2.2.2.2.2.2.2.2.2.2.2.2.2.2.2.2.2.2.2.2.2.2.2.1.cap, .slice x36.2.2.2.2.2.2.2.2.2.2.2.2.2.2.2.2.2.2.2.2.2.2.2.2.2.1.a x36.2.2.2.2.2.2.2.2.2.2.2.2.2.2.2.2.2.2.2.2.2.2.2.2.2.1.len x36.2.2.2.2.2.2.2.2.2.2.2.2.2.2.2.2.2.2.2.2.2.2.2.2.2.1.cap]]) fun (x37 : (Int × Int × Int × Int × Unit) × (ByteArray × ByteArray × Int × Bool × ByteArray × Unit) × Bool × Unit) =>
  HM.bind (α := Nat) (HM.new (.cells #[.int .i64 0, .int .i64 0, .int .i64 0, .int .i64 0] 55)) fun (x38 : Nat) =>
  HM.bind (α := Nat) (HM.new (.cells #[.string (ByteArray.mk #[]), .string (ByteArray.mk #[]), .int .i64 0, .bool false, .string (ByteArray.mk #[])] 56)) fun (x39 : Nat) =>
  HM.bind (α := Unit) (HM.storeN ⟨x38, 0, none⟩ [.int .i64 x37.1.1, .int .i64 x37.1.2.1, .int .i64 x37.1.2.2.1, .int .i64 x37.1.2.2.2.1]) fun (_ : Unit) =>
  HM.bind (α := Unit) (HM.storeN ⟨x39, 0, none⟩ [.string x37.2.1.1, .string x37.2.1.2.1, .int .i64 x37.2.1.2.2.1, .bool x37.2.1.2.2.2.1, .string x37.2.1.2.2.2.2.1]) fun (_ : Unit) =>
  HM.bind (α := Bool × Unit) (HM.bind (α := Bool) (HM.call1 Tryz.prog (.one .bool) 10 #[]) fun (x40 : Bool) =>
  HM.ite x40 (
  HM.ite (x33.2.2.1 == x37.2.2.1) (
  HM.bind (α := ByteArray × ByteArray × Int × Bool × ByteArray × Unit) (HM.loadN [.str, .str, .int .i64, .bool, .str] ⟨x35, 0, none⟩) fun (x41 : ByteArray × ByteArray × Int × Bool × ByteArray × Unit) =>
  HM.bind (α := ByteArray × ByteArray × Int × Bool × ByteArray × Unit) (HM.loadN [.str, .str, .int .i64, .bool, .str] ⟨x39, 0, none⟩) fun (x42 : ByteArray × ByteArray × Int × Bool × ByteArray × Unit) =>
  HM.ite ((decide (x41.1 = x42.1)) && ((decide (x41.2.1 = x42.2.1)) && ((x41.2.2.1 == x42.2.2.1) && ((x41.2.2.2.1 == x42.2.2.2.1) && ((decide (x41.2.2.2.2.1 = x42.2.2.2.2.1)) && true))))) (
  HM.bind (α := Int) (HM.load1 (.int .i64) (Addr.add (Addr.add ⟨x34, 0, none⟩ 0) 0)) fun (x43 : Int) =>
  HM.bind (α := Int) (HM.load1 (.int .i64) (Addr.add (Addr.add ⟨x38, 0, none⟩ 0) 0)) fun (x44 : Int) =>
  HM.ite (x43 == x44) (
  HM.bind (α := Int) (HM.load1 (.int .i64) (Addr.add (Addr.add ⟨x34, 0, none⟩ 0) 1)) fun (x45 : Int) =>
  HM.bind (α := Int) (HM.load1 (.int .i64) (Addr.add (Addr.add ⟨x38, 0, none⟩ 0) 1)) fun (x46 : Int) =>
  HM.ite (x45 == x46) (
  HM.bind (α := Int) (HM.load1 (.int .i64) (Addr.add ⟨x34, 0, none⟩ 2)) fun (x47 : Int) =>
  HM.bind (α := Int) (HM.load1 (.int .i64) (Addr.add ⟨x38, 0, none⟩ 2)) fun (x48 : Int) =>
  HM.ite (x47 == x48) (
  HM.bind (α := Int) (HM.load1 (.int .i64) (Addr.add ⟨x34, 0, none⟩ 3)) fun (x49 : Int) =>
  HM.bind (α := Int) (HM.load1 (.int .i64) (Addr.add ⟨x38, 0, none⟩ 3)) fun (x50 : Int) =>
  HM.pure (x49 == x50, ())) (
  HM.pure (false, ()))) (
  HM.pure (false, ()))) (
  HM.pure (false, ()))) (
  HM.pure (false, ()))) (
  HM.pure (false, ()))) (
  HM.pure (false, ()))) fun (x51 : Bool × Unit) =>
  HM.pure (x51.1, ())

theorem law23_BridgeArrives_den (p0 : Int) (p1 : ByteArray × ByteArray × Int × Bool × ByteArray × Unit) (p2 : Slc) : denFn Tryz.prog [8, 9, 10] 123 [0, 1, 2, 4, 6, 7, 8, 10, 11, 12, 13, 14, 15, 16, 41, 42, 43, 44] [0, 1, 2, 4, 7, 8, 10, 11, 12, 13, 14, 15, 16, 41, 42, 43, 44] Tryz.f3.results.toList [.one .bool] (bodyOf Tryz.f3) [Kind.val (.one (.int .i64)) p0, Kind.val (.agg [.str, .str, .int .i64, .bool, .str]) p1, Kind.val (.one .slc) p2] = law23_BridgeArrives p0 p1 p2 := by kernel_rfl
theorem law23_BridgeArrives_calls (p0 : Int) (p1 : ByteArray × ByteArray × Int × Bool × ByteArray × Unit) (p2 : Slc) (h : Heap) (Q : Value → Heap → Prop) (hh : law23_BridgeArrives p0 p1 p2 h fun x h' => Q (.bool x.1) h') :
    HCalls Tryz.prog 3 #[.int .i64 p0, .agg #[.string p1.1, .string p1.2.1, .int .i64 p1.2.2.1, .bool p1.2.2.2.1, .string p1.2.2.2.2.1], .slice p2.a p2.len p2.cap] h Q := by
  rw [← law23_BridgeArrives_den] at hh
  exact calls_of_den Tryz.func3 (by kernel_rfl) Tryz.ntmps3 (by kernel_rfl) (fun f hf => by
      rcases List.mem_cons.1 hf with rfl | hf
      · exact Tryz.call8
      rcases List.mem_cons.1 hf with rfl | hf
      · exact Tryz.call9
      rcases List.mem_cons.1 hf with rfl | hf
      · exact Tryz.call10
      cases hf) orders hh

/-- aqueduct/aqueductlaw23.BridgeNil -/
def law23_BridgeNil (p0 : Int × Int × Int × Int × Unit) (p1 : ByteArray × ByteArray × Int × Bool × ByteArray × Unit) : HM (Bool × Unit) :=
  HM.bind (α := Nat) (HM.new (.cells #[.int .i64 p0.1, .int .i64 p0.2.1, .int .i64 p0.2.2.1, .int .i64 p0.2.2.2.1] 64)) fun (x1 : Nat) =>
  HM.bind (α := Nat) (HM.new (.cells #[.string p1.1, .string p1.2.1, .int .i64 p1.2.2.1, .bool p1.2.2.2.1, .string p1.2.2.2.2.1] 23)) fun (x2 : Nat) =>
  HM.bind (α := Int × Int × Int × Int × Unit) (HM.loadN [.int .i64, .int .i64, .int .i64, .int .i64] ⟨x1, 0, none⟩) fun (x3 : Int × Int × Int × Int × Unit) =>
  HM.bind (α := (Int × Int × Int × Int × Unit) × (Int × Int × Int × Int × Unit) × Unit) (HM.callN Tryz.prog [.agg [.int .i64, .int .i64, .int .i64, .int .i64], .agg [.int .i64, .int .i64, .int .i64, .int .i64]] 14 #[.agg #[.int .i64 x3.1, .int .i64 x3.2.1, .int .i64 x3.2.2.1, .int .i64 x3.2.2.2.1]]) fun (x4 : (Int × Int × Int × Int × Unit) × (Int × Int × Int × Int × Unit) × Unit) =>
  HM.bind (α := Nat) (HM.new (.cells #[.int .i64 0, .int .i64 0, .int .i64 0, .int .i64 0] 49)) fun (x5 : Nat) =>
  HM.bind (α := Nat) (HM.new (.cells #[.int .i64 0, .int .i64 0, .int .i64 0, .int .i64 0] 55)) fun (x6 : Nat) =>
  HM.bind (α := Unit) (HM.storeN ⟨x5, 0, none⟩ [.int .i64 x4.1.1, .int .i64 x4.1.2.1, .int .i64 x4.1.2.2.1, .int .i64 x4.1.2.2.2.1]) fun (_ : Unit) =>
  HM.bind (α := Unit) (HM.storeN ⟨x6, 0, none⟩ [.int .i64 x4.2.1.1, .int .i64 x4.2.1.2.1, .int .i64 x4.2.1.2.2.1, .int .i64 x4.2.1.2.2.2.1]) fun (_ : Unit) =>
  HM.bind (α := ByteArray × ByteArray × Int × Bool × ByteArray × Unit) (HM.loadN [.str, .str, .int .i64, .bool, .str] ⟨x2, 0, none⟩) fun (x7 : ByteArray × ByteArray × Int × Bool × ByteArray × Unit) =>
  HM.bind (α := Slc × Int × Unit) (HM.callN Tryz.prog [.one .slc, .one (.int .u8)] 23 #[.pointer none, .agg #[.string x7.1, .string x7.2.1, .int .i64 x7.2.2.1, .bool x7.2.2.2.1, .string x7.2.2.2.2.1]]) fun (x8 : Slc × Int × Unit) =>
  HM.bind (α := Slc × Int × Unit) (HM.callN Tryz.prog [.one .slc, .one (.int .u8)] 18 #[.pointer none, .agg #[.int .i64 4, .bool false, .bool false, .int .i64 0, .int .i64 1, .string (ByteArray.mk #[]), .string (ByteArray.mk #[]), .int .u8 0, .slice none 0 0, .slice none 0 0, .string (ByteArray.mk #[]), .bool false, .int .i64 0, .bool false, .string (ByteArray.mk #[]), .string (ByteArray.mk #[]), .int .i64 0, .bool false, .slice none 0 0, .bool false, .bool false, .string (ByteArray.mk #[]), .string (ByteArray.mk #[]), .bool false, .slice none 0 0, .slice none 0 0]]) fun (x9 : Slc × Int × Unit) =>
  HM.bind (α := Unit) (HM.callN Tryz.prog [] 22 #[.pointer none]) fun (x10 : Unit) =>
  HM.bind (α := Bool × Unit) (HM.bind (α := Bool) (HM.call1 Tryz.prog (.one .bool) 10 #[]) fun (x11 : Bool) =>
  HM.ite x11 (
  HM.ite (x8.2.1 == 128) (
  HM.ite (x9.2.1 == 128) (
  HM.bind (α := Int × Int × Int × Int × Unit) (HM.loadN [.int .i64, .int .i64, .int .i64, .int .i64] ⟨x5, 0, none⟩) fun (x12 : Int × Int × Int × Int × Unit) =>
  HM.bind (α := ByteArray × ByteArray × Int × Bool × ByteArray × Unit) (HM.loadN [.str, .str, .int .i64, .bool, .str] ⟨x2, 0, none⟩) fun (x13 : ByteArray × ByteArray × Int × Bool × ByteArray × Unit) =>
  HM.bind (α := Slc) (HM.call1 Tryz.prog (.one .slc) 16 #[.pointer none, .agg #[.int .i64 x12.1, .int .i64 x12.2.1, .int .i64 x12.2.2.1, .int .i64 x12.2.2.2.1], .agg #[.string x13.1, .string x13.2.1, .int .i64 x13.2.2.1, .bool x13.2.2.2.1, .string x13.2.2.2.2.1]]) fun (x14 : Slc) =>
  HM.ite (((x14.len : Nat) : Int) == 0) (
  HM.bind (α := Slc) (HM.call1 Tryz.prog (.one .slc) 20 #[.pointer none]) fun (x15 : Slc) =>
  HM.ite (((x15.len : Nat) : Int) == 0) (
  HM.bind (α := Slc) (HM.call1 Tryz.prog (.one .slc) 26 #[.pointer none]) fun (x16 : Slc) =>
  HM.pure (((x16.len : Nat) : Int) == 0, ())) (
  HM.pure (false, ()))) (
  HM.pure (false, ()))) (
  HM.pure (false, ()))) (
  HM.pure (false, ()))) (
  HM.pure (false, ()))) fun (x17 : Bool × Unit) =>
  HM.pure (x17.1, ())

theorem law23_BridgeNil_den (p0 : Int × Int × Int × Int × Unit) (p1 : ByteArray × ByteArray × Int × Bool × ByteArray × Unit) : denFn Tryz.prog [14, 23, 18, 22, 10, 16, 20, 26] 60 [0, 1, 2, 3, 4, 5, 6, 9, 11] [0, 1, 2, 3, 5, 6, 9, 11] Tryz.f6.results.toList [.one .bool] (bodyOf Tryz.f6) [Kind.val (.agg [.int .i64, .int .i64, .int .i64, .int .i64]) p0, Kind.val (.agg [.str, .str, .int .i64, .bool, .str]) p1] = law23_BridgeNil p0 p1 := by kernel_rfl
theorem law23_BridgeNil_calls (p0 : Int × Int × Int × Int × Unit) (p1 : ByteArray × ByteArray × Int × Bool × ByteArray × Unit) (h : Heap) (Q : Value → Heap → Prop) (hh : law23_BridgeNil p0 p1 h fun x h' => Q (.bool x.1) h') :
    HCalls Tryz.prog 6 #[.agg #[.int .i64 p0.1, .int .i64 p0.2.1, .int .i64 p0.2.2.1, .int .i64 p0.2.2.2.1], .agg #[.string p1.1, .string p1.2.1, .int .i64 p1.2.2.1, .bool p1.2.2.2.1, .string p1.2.2.2.2.1]] h Q := by
  rw [← law23_BridgeNil_den] at hh
  exact calls_of_den Tryz.func6 (by kernel_rfl) Tryz.ntmps6 (by kernel_rfl) (fun f hf => by
      rcases List.mem_cons.1 hf with rfl | hf
      · exact Tryz.call14
      rcases List.mem_cons.1 hf with rfl | hf
      · exact Tryz.call23
      rcases List.mem_cons.1 hf with rfl | hf
      · exact Tryz.call18
      rcases List.mem_cons.1 hf with rfl | hf
      · exact Tryz.call22
      rcases List.mem_cons.1 hf with rfl | hf
      · exact Tryz.call10
      rcases List.mem_cons.1 hf with rfl | hf
      · exact Tryz.call16
      rcases List.mem_cons.1 hf with rfl | hf
      · exact Tryz.call20
      rcases List.mem_cons.1 hf with rfl | hf
      · exact Tryz.call26
      cases hf) orders hh

/-- aqueduct/bridge.Arrived -/
def bridge_Arrived (p0 : Int × Bool × Bool × Int × Int × ByteArray × ByteArray × Int × Slc × Slc × ByteArray × Bool × Int × Bool × ByteArray × ByteArray × Int × Bool × Slc × Bool × Bool × ByteArray × ByteArray × Bool × Slc × Slc × Unit) : HM ((Int × Int × Int × Int × Unit) × (ByteArray × ByteArray × Int × Bool × ByteArray × Unit) × Bool × Unit) :=
  HM.bind (α := Nat) (HM.new (.cells #[.int .i64 p0.1, .bool p0.2.1, .bool p0.2.2.1, .int .i64 p0.2.2.2.1, .int .i64 p0.2.2.2.2.1, .string p0.2.2.2.2.2.1, .string p0.2.2.2.2.2.2.1, .int .u8 p0.2.2.2.2.2.2.2.1, .slice p0.2.2.2.2.2.2.2.2.1.a p0.2.2.2.2.2.2.2.2.1.len p0.2.2.2.2.2.2.2.2.1.cap, .slice p0.2.2.2.2.2.2.2.2.2.1.a p0.2.2.2.2.2.2.2.2.2.1.len p0.2.2.2.2.2.2.2.2.2.1.cap, .string p0.2.2.2.2.2.2.2.2.2.2.1, .bool p0.2.2.2.2.2.2.2.2.2.2.2.1, .int .i64 p0.2.2.2.2.2.2.2.2.2.2.2.2.1, .bool p0.2.2.2.2.2.2.2.2.2.2.2.2.2.1, .string p0.2.2.2.2.2.2.2.2.2.2.2.2.2.2.1, .string p0.2.2.2.2.2.2.2.2.2.2.2.2.2.2.2.1, .int .i64 p0.2.2.2.2.2.2.2.2.2.2.2.2.2.2.2.2.1, .bool p0.2.2.2.2.2.2.2.2.2.2.2.2.2.2.2.2.2.1, .slice p0.2.2.2.2.2.2.2.2.2.2.2.2.2.2.2.2.2.2.1.a p0.2.2.2.2.2.2.2.2.2.2.2.2.2.2.2.2.2.2.1.len p0.2.2.2.2.2.2.2.2.2.2.2.2.2.2.2.2.2.2.1.cap, .bool p0.2.2.2.2.2.2.2.2.2.2.2.2.2.2.2.2.2.2.2.1, .bool p0.2.2.2.2.2.2.2.2.2.2.2.2.2.2.2.2.2.2.2.2.1, .string p0.2.2.2.2.2.2.2.2.2.2.2.2.2.2.2.2.2.2.2.2.2.1, .string p0.2.2.2.2.2.2.2.2.2.2.2.2.2.2.2.2.2.2.2.2.2.2.1, .bool p0.2.2.2.2.2.2.2.2.2.2.2.2.2.2.2.2.2.2.2.2.2.2.2.1, .slice p0.2.2.2.2.2.2.2.2.2.2.2.2.2.2.2.2.2.2.2.2.2.2.2.2.1.a p0.2.2.2.2.2.2.2.2.2.2.2.2.2.2.2.2.2.2.2.2.2.2.2.2.1.len p0.2.2.2.2.2.2.2.2.2.2.2.2.2.2.2.2.2.2.2.2.2.2.2.2.1.cap, .slice p0.2.2.2.2.2.2.2.2.2.2.2.2.2.2.2.2.2.2.2.2.2.2.2.2.2.1.a p0.2.2.2.2.2.2.2.2.2.2.2.2.2.2.2.2.2.2.2.2.2.2.2.2.2.1.len p0.2.2.2.2.2.2.2.2.2.2.2.2.2.2.2.2.2.2.2.2.2.2.2.2.2.1.cap] 34)) fun (x1 : Nat) =>
  HM.bind (α := Nat) (HM.new (.cells #[.int .i64 0, .int .i64 0, .int .i64 0, .int .i64 0] 49)) fun (x2 : Nat) =>
  HM.bind (α := Nat) (HM.new (.cells #[.string (ByteArray.mk #[]), .string (ByteArray.mk #[]), .int .i64 0, .bool false, .string (ByteArray.mk #[])] 50)) fun (x3 : Nat) =>
  HM.bind (α := Slc) (HM.load1 .slc (Addr.add ⟨x1, 0, none⟩ 9)) fun (x4 : Slc) =>
  HM.bind (α := Slc) (HM.call1 Tryz.prog (.one .slc) 30 #[.slice x4.a x4.len x4.cap, .string (ByteArray.mk #[116, 97, 103])]) fun (x5 : Slc) =>
  HM.bind (α := Bool × Unit) (HM.bind (α := Int) (HM.load1 (.int .i64) (Addr.add ⟨x1, 0, none⟩ 0)) fun (x6 : Int) =>
  HM.ite (!(x6 == 3)) (
  HM.pure (true, ())) (
  HM.pure (!(((x5.len : Nat) : Int) == 1), ()))) fun (x7 : Bool × Unit) =>
  HM.ite x7.1 (
  HM.bind (α := Unit) (HM.storeN ⟨x2, 0, none⟩ [.int .i64 0, .int .i64 0, .int .i64 0, .int .i64 0]) fun (_ : Unit) =>
  HM.bind (α := Unit) (HM.storeN ⟨x3, 0, none⟩ [.string (ByteArray.mk #[]), .string (ByteArray.mk #[]), .int .i64 0, .bool false, .string (ByteArray.mk #[])]) fun (_ : Unit) =>
  HM.bind (α := Int × Int × Int × Int × Unit) (HM.loadN [.int .i64, .int .i64, .int .i64, .int .i64] ⟨x2, 0, none⟩) fun (x8 : Int × Int × Int × Int × Unit) =>
  HM.bind (α := ByteArray × ByteArray × Int × Bool × ByteArray × Unit) (HM.loadN [.str, .str, .int .i64, .bool, .str] ⟨x3, 0, none⟩) fun (x9 : ByteArray × ByteArray × Int × Bool × ByteArray × Unit) =>
  HM.pure ((x8.1, x8.2.1, x8.2.2.1, x8.2.2.2.1, ()), (x9.1, x9.2.1, x9.2.2.1, x9.2.2.2.1, x9.2.2.2.2.1, ()), false, ())) (
  HM.bind (α := Addr) (HM.idx x5.a x5.len 0 1) fun (x10 : Addr) =>
  HM.bind (α := ByteArray) (HM.load1 .str x10) fun (x11 : ByteArray) =>
  HM.bind (α := (Int × Int × Int × Int × Unit) × Bool × Unit) (HM.callN Tryz.prog [.agg [.int .i64, .int .i64, .int .i64, .int .i64], .one .bool] 31 #[.string x11]) fun (x12 : (Int × Int × Int × Int × Unit) × Bool × Unit) =>
  HM.bind (α := Nat) (HM.new (.cells #[.int .i64 0, .int .i64 0, .int .i64 0, .int .i64 0] 49)) fun (x13 : Nat) =>
  HM.bind (α := Unit) (HM.storeN ⟨x13, 0, none⟩ [.int .i64 x12.1.1, .int .i64 x12.1.2.1, .int .i64 x12.1.2.2.1, .int .i64 x12.1.2.2.2.1]) fun (_ : Unit) =>
  HM.ite (!x12.2.1) (
  HM.bind (α := Unit) (HM.storeN ⟨x2, 0, none⟩ [.int .i64 0, .int .i64 0, .int .i64 0, .int .i64 0]) fun (_ : Unit) =>
  HM.bind (α := Unit) (HM.storeN ⟨x3, 0, none⟩ [.string (ByteArray.mk #[]), .string (ByteArray.mk #[]), .int .i64 0, .bool false, .string (ByteArray.mk #[])]) fun (_ : Unit) =>
  HM.bind (α := Int × Int × Int × Int × Unit) (HM.loadN [.int .i64, .int .i64, .int .i64, .int .i64] ⟨x2, 0, none⟩) fun (x14 : Int × Int × Int × Int × Unit) =>
  HM.bind (α := ByteArray × ByteArray × Int × Bool × ByteArray × Unit) (HM.loadN [.str, .str, .int .i64, .bool, .str] ⟨x3, 0, none⟩) fun (x15 : ByteArray × ByteArray × Int × Bool × ByteArray × Unit) =>
  HM.pure ((x14.1, x14.2.1, x14.2.2.1, x14.2.2.2.1, ()), (x15.1, x15.2.1, x15.2.2.1, x15.2.2.2.1, x15.2.2.2.2.1, ()), false, ())) (
  HM.bind (α := Int × Int × Int × Int × Unit) (HM.loadN [.int .i64, .int .i64, .int .i64, .int .i64] ⟨x13, 0, none⟩) fun (x16 : Int × Int × Int × Int × Unit) =>
  HM.bind (α := ByteArray) (HM.load1 .str (Addr.add ⟨x1, 0, none⟩ 5)) fun (x17 : ByteArray) =>
  HM.bind (α := ByteArray) (HM.load1 .str (Addr.add ⟨x1, 0, none⟩ 6)) fun (x18 : ByteArray) =>
  HM.bind (α := Int) (HM.load1 (.int .i64) (Addr.add ⟨x13, 0, none⟩ 3)) fun (x19 : Int) =>
  HM.bind (α := Bool) (HM.load1 .bool (Addr.add ⟨x1, 0, none⟩ 2)) fun (x20 : Bool) =>
  HM.bind (α := Unit) (HM.storeN ⟨x2, 0, none⟩ [.int .i64 x16.1, .int .i64 x16.2.1, .int .i64 x16.2.2.1, .int .i64 x16.2.2.2.1]) fun (_ : Unit) =>
  HM.bind (α := Bool) (HM.load1 .bool (Addr.add ⟨x1, 0, none⟩ 2)) fun (x21 : Bool) =>
  HM.req ((.bool x21 : Value) = .bool x20) <|
  HM.bind (α := Int) (HM.load1 (.int .i64) (Addr.add ⟨x13, 0, none⟩ 3)) fun (x22 : Int) =>
  HM.req ((.int .i64 x22 : Value) = .int .i64 x19) <|
  HM.bind (α := ByteArray) (HM.load1 .str (Addr.add ⟨x1, 0, none⟩ 6)) fun (x23 : ByteArray) =>
  HM.req ((.string x23 : Value) = .string x18) <|
  HM.bind (α := ByteArray) (HM.load1 .str (Addr.add ⟨x1, 0, none⟩ 5)) fun (x24 : ByteArray) =>
  HM.req ((.string x24 : Value) = .string x17) <|
  HM.bind (α := Unit) (HM.storeN ⟨x3, 0, none⟩ [.string x17, .string x18, .int .i64 x19, .bool x20, .string (ByteArray.mk #[])]) fun (_ : Unit) =>
  HM.bind (α := Int × Int × Int × Int × Unit) (HM.loadN [.int .i64, .int .i64, .int .i64, .int .i64] ⟨x2, 0, none⟩) fun (x25 : Int × Int × Int × Int × Unit) =>
  HM.bind (α := ByteArray × ByteArray × Int × Bool × ByteArray × Unit) (HM.loadN [.str, .str, .int .i64, .bool, .str] ⟨x3, 0, none⟩) fun (x26 : ByteArray × ByteArray × Int × Bool × ByteArray × Unit) =>
  HM.pure ((x25.1, x25.2.1, x25.2.2.1, x25.2.2.2.1, ()), (x26.1, x26.2.1, x26.2.2.1, x26.2.2.2.1, x26.2.2.2.2.1, ()), true, ())))

theorem bridge_Arrived_den (p0 : Int × Bool × Bool × Int × Int × ByteArray × ByteArray × Int × Slc × Slc × ByteArray × Bool × Int × Bool × ByteArray × ByteArray × Int × Bool × Slc × Bool × Bool × ByteArray × ByteArray × Bool × Slc × Slc × Unit) : denFn Tryz.prog [30, 31] 42 [0, 1, 2, 3, 4, 5, 6, 7, 18, 29] [0, 1, 2, 3, 5, 6, 7, 18, 29] Tryz.f8.results.toList [.agg [.int .i64, .int .i64, .int .i64, .int .i64], .agg [.str, .str, .int .i64, .bool, .str], .one .bool] (bodyOf Tryz.f8) [Kind.val (.agg [.int .i64, .bool, .bool, .int .i64, .int .i64, .str, .str, .int .u8, .slc, .slc, .str, .bool, .int .i64, .bool, .str, .str, .int .i64, .bool, .slc, .bool, .bool, .str, .str, .bool, .slc, .slc]) p0] = bridge_Arrived p0 := by kernel_rfl
theorem bridge_Arrived_calls (p0 : Int × Bool × Bool × Int × Int × ByteArray × ByteArray × Int × Slc × Slc × ByteArray × Bool × Int × Bool × ByteArray × ByteArray × Int × Bool × Slc × Bool × Bool × ByteArray × ByteArray × Bool × Slc × Slc × Unit) (h : Heap) (Q : Value → Heap → Prop) (hh : bridge_Arrived p0 h fun x h' => Q (.tuple #[.agg #[.int .i64 x.1.1, .int .i64 x.1.2.1, .int .i64 x.1.2.2.1, .int .i64 x.1.2.2.2.1], .agg #[.string x.2.1.1, .string x.2.1.2.1, .int .i64 x.2.1.2.2.1, .bool x.2.1.2.2.2.1, .string x.2.1.2.2.2.2.1], .bool x.2.2.1]) h') :
    HCalls Tryz.prog 8 #[.agg #[.int .i64 p0.1, .bool p0.2.1, .bool p0.2.2.1, .int .i64 p0.2.2.2.1, .int .i64 p0.2.2.2.2.1, .string p0.2.2.2.2.2.1, .string p0.2.2.2.2.2.2.1, .int .u8 p0.2.2.2.2.2.2.2.1, .slice p0.2.2.2.2.2.2.2.2.1.a p0.2.2.2.2.2.2.2.2.1.len p0.2.2.2.2.2.2.2.2.1.cap, .slice p0.2.2.2.2.2.2.2.2.2.1.a p0.2.2.2.2.2.2.2.2.2.1.len p0.2.2.2.2.2.2.2.2.2.1.cap, .string p0.2.2.2.2.2.2.2.2.2.2.1, .bool p0.2.2.2.2.2.2.2.2.2.2.2.1, .int .i64 p0.2.2.2.2.2.2.2.2.2.2.2.2.1, .bool p0.2.2.2.2.2.2.2.2.2.2.2.2.2.1, .string p0.2.2.2.2.2.2.2.2.2.2.2.2.2.2.1, .string p0.2.2.2.2.2.2.2.2.2.2.2.2.2.2.2.1, .int .i64 p0.2.2.2.2.2.2.2.2.2.2.2.2.2.2.2.2.1, .bool p0.2.2.2.2.2.2.2.2.2.2.2.2.2.2.2.2.2.1, .slice p0.2.2.2.2.2.2.2.2.2.2.2.2.2.2.2.2.2.2.1.a p0.2.2.2.2.2.2.2.2.2.2.2.2.2.2.2.2.2.2.1.len p0.2.2.2.2.2.2.2.2.2.2.2.2.2.2.2.2.2.2.1.cap, .bool p0.2.2.2.2.2.2.2.2.2.2.2.2.2.2.2.2.2.2.2.1, .bool p0.2.2.2.2.2.2.2.2.2.2.2.2.2.2.2.2.2.2.2.2.1, .string p0.2.2.2.2.2.2.2.2.2.2.2.2.2.2.2.2.2.2.2.2.2.1, .string p0.2.2.2.2.2.2.2.2.2.2.2.2.2.2.2.2.2.2.2.2.2.2.1, .bool p0.2.2.2.2.2.2.2.2.2.2.2.2.2.2.2.2.2.2.2.2.2.2.2.1, .slice p0.2.2.2.2.2.2.2.2.2.2.2.2.2.2.2.2.2.2.2.2.2.2.2.2.1.a p0.2.2.2.2.2.2.2.2.2.2.2.2.2.2.2.2.2.2.2.2.2.2.2.2.1.len p0.2.2.2.2.2.2.2.2.2.2.2.2.2.2.2.2.2.2.2.2.2.2.2.2.1.cap, .slice p0.2.2.2.2.2.2.2.2.2.2.2.2.2.2.2.2.2.2.2.2.2.2.2.2.2.1.a p0.2.2.2.2.2.2.2.2.2.2.2.2.2.2.2.2.2.2.2.2.2.2.2.2.2.1.len p0.2.2.2.2.2.2.2.2.2.2.2.2.2.2.2.2.2.2.2.2.2.2.2.2.2.1.cap]] h Q := by
  rw [← bridge_Arrived_den] at hh
  exact calls_of_den Tryz.func8 (by kernel_rfl) Tryz.ntmps8 (by kernel_rfl) (fun f hf => by
      rcases List.mem_cons.1 hf with rfl | hf
      · exact Tryz.call30
      rcases List.mem_cons.1 hf with rfl | hf
      · exact Tryz.call31
      cases hf) orders hh

/-- aqueduct/aqueductref23.Arrived -/
def ref23_Arrived (p0 : Int × Bool × Bool × Int × Int × ByteArray × ByteArray × Int × Slc × Slc × ByteArray × Bool × Int × Bool × ByteArray × ByteArray × Int × Bool × Slc × Bool × Bool × ByteArray × ByteArray × Bool × Slc × Slc × Unit) : HM ((Int × Int × Int × Int × Unit) × (ByteArray × ByteArray × Int × Bool × ByteArray × Unit) × Bool × Unit) :=
  HM.bind (α := Nat) (HM.new (.cells #[.int .i64 p0.1, .bool p0.2.1, .bool p0.2.2.1, .int .i64 p0.2.2.2.1, .int .i64 p0.2.2.2.2.1, .string p0.2.2.2.2.2.1, .string p0.2.2.2.2.2.2.1, .int .i64 p0.2.2.2.2.2.2.2.1, .slice p0.2.2.2.2.2.2.2.2.1.a p0.2.2.2.2.2.2.2.2.1.len p0.2.2.2.2.2.2.2.2.1.cap, .slice p0.2.2.2.2.2.2.2.2.2.1.a p0.2.2.2.2.2.2.2.2.2.1.len p0.2.2.2.2.2.2.2.2.2.1.cap, .string p0.2.2.2.2.2.2.2.2.2.2.1, .bool p0.2.2.2.2.2.2.2.2.2.2.2.1, .int .i64 p0.2.2.2.2.2.2.2.2.2.2.2.2.1, .bool p0.2.2.2.2.2.2.2.2.2.2.2.2.2.1, .string p0.2.2.2.2.2.2.2.2.2.2.2.2.2.2.1, .string p0.2.2.2.2.2.2.2.2.2.2.2.2.2.2.2.1, .int .i64 p0.2.2.2.2.2.2.2.2.2.2.2.2.2.2.2.2.1, .bool p0.2.2.2.2.2.2.2.2.2.2.2.2.2.2.2.2.2.1, .slice p0.2.2.2.2.2.2.2.2.2.2.2.2.2.2.2.2.2.2.1.a p0.2.2.2.2.2.2.2.2.2.2.2.2.2.2.2.2.2.2.1.len p0.2.2.2.2.2.2.2.2.2.2.2.2.2.2.2.2.2.2.1.cap, .bool p0.2.2.2.2.2.2.2.2.2.2.2.2.2.2.2.2.2.2.2.1, .bool p0.2.2.2.2.2.2.2.2.2.2.2.2.2.2.2.2.2.2.2.2.1, .string p0.2.2.2.2.2.2.2.2.2.2.2.2.2.2.2.2.2.2.2.2.2.1, .string p0.2.2.2.2.2.2.2.2.2.2.2.2.2.2.2.2.2.2.2.2.2.2.1, .bool p0.2.2.2.2.2.2.2.2.2.2.2.2.2.2.2.2.2.2.2.2.2.2.2.1, .slice p0.2.2.2.2.2.2.2.2.2.2.2.2.2.2.2.2.2.2.2.2.2.2.2.2.1.a p0.2.2.2.2.2.2.2.2.2.2.2.2.2.2.2.2.2.2.2.2.2.2.2.2.1.len p0.2.2.2.2.2.2.2.2.2.2.2.2.2.2.2.2.2.2.2.2.2.2.2.2.1.cap, .slice p0.2.2.2.2.2.2.2.2.2.2.2.2.2.2.2.2.2.2.2.2.2.2.2.2.2.1.a p0.2.2.2.2.2.2.2.2.2.2.2.2.2.2.2.2.2.2.2.2.2.2.2.2.2.1.len p0.2.2.2.2.2.2.2.2.2.2.2.2.2.2.2.2.2.2.2.2.2.2.2.2.2.1.cap] 41)) fun (x1 : Nat) =>
  HM.bind (α := Nat) (HM.new (.cells #[.int .i64 0, .int .i64 0, .int .i64 0, .int .i64 0] 55)) fun (x2 : Nat) =>
  HM.bind (α := Nat) (HM.new (.cells #[.string (ByteArray.mk #[]), .string (ByteArray.mk #[]), .int .i64 0, .bool false, .string (ByteArray.mk #[])] 56)) fun (x3 : Nat) =>
  HM.bind (α := Slc) (HM.load1 .slc (Addr.add ⟨x1, 0, none⟩ 9)) fun (x4 : Slc) =>
  HM.bind (α := Slc) (HM.call1 Tryz.prog (.one .slc) 32 #[.slice x4.a x4.len x4.cap, .string (ByteArray.mk #[116, 97, 103])]) fun (x5 : Slc) =>
  HM.bind (α := Bool × Unit) (HM.bind (α := Int) (HM.load1 (.int .i64) (Addr.add ⟨x1, 0, none⟩ 0)) fun (x6 : Int) =>
  HM.ite (!(x6 == 3)) (
  HM.pure (true, ())) (
  HM.pure (!(((x5.len : Nat) : Int) == 1), ()))) fun (x7 : Bool × Unit) =>
  HM.ite x7.1 (
  HM.bind (α := Unit) (HM.storeN ⟨x2, 0, none⟩ [.int .i64 0, .int .i64 0, .int .i64 0, .int .i64 0]) fun (_ : Unit) =>
  HM.bind (α := Unit) (HM.storeN ⟨x3, 0, none⟩ [.string (ByteArray.mk #[]), .string (ByteArray.mk #[]), .int .i64 0, .bool false, .string (ByteArray.mk #[])]) fun (_ : Unit) =>
  HM.bind (α := Int × Int × Int × Int × Unit) (HM.loadN [.int .i64, .int .i64, .int .i64, .int .i64] ⟨x2, 0, none⟩) fun (x8 : Int × Int × Int × Int × Unit) =>
  HM.bind (α := ByteArray × ByteArray × Int × Bool × ByteArray × Unit) (HM.loadN [.str, .str, .int .i64, .bool, .str] ⟨x3, 0, none⟩) fun (x9 : ByteArray × ByteArray × Int × Bool × ByteArray × Unit) =>
  HM.pure ((x8.1, x8.2.1, x8.2.2.1, x8.2.2.2.1, ()), (x9.1, x9.2.1, x9.2.2.1, x9.2.2.2.1, x9.2.2.2.2.1, ()), false, ())) (
  HM.bind (α := Addr) (HM.idx x5.a x5.len 0 1) fun (x10 : Addr) =>
  HM.bind (α := ByteArray) (HM.load1 .str x10) fun (x11 : ByteArray) =>
  HM.bind (α := (Int × Int × Int × Int × Unit) × Bool × Unit) (HM.callN Tryz.prog [.agg [.int .i64, .int .i64, .int .i64, .int .i64], .one .bool] 33 #[.string x11]) fun (x12 : (Int × Int × Int × Int × Unit) × Bool × Unit) =>
  HM.bind (α := Nat) (HM.new (.cells #[.int .i64 0, .int .i64 0, .int .i64 0, .int .i64 0] 55)) fun (x13 : Nat) =>
  HM.bind (α := Unit) (HM.storeN ⟨x13, 0, none⟩ [.int .i64 x12.1.1, .int .i64 x12.1.2.1, .int .i64 x12.1.2.2.1, .int .i64 x12.1.2.2.2.1]) fun (_ : Unit) =>
  HM.ite (!x12.2.1) (
  HM.bind (α := Unit) (HM.storeN ⟨x2, 0, none⟩ [.int .i64 0, .int .i64 0, .int .i64 0, .int .i64 0]) fun (_ : Unit) =>
  HM.bind (α := Unit) (HM.storeN ⟨x3, 0, none⟩ [.string (ByteArray.mk #[]), .string (ByteArray.mk #[]), .int .i64 0, .bool false, .string (ByteArray.mk #[])]) fun (_ : Unit) =>
  HM.bind (α := Int × Int × Int × Int × Unit) (HM.loadN [.int .i64, .int .i64, .int .i64, .int .i64] ⟨x2, 0, none⟩) fun (x14 : Int × Int × Int × Int × Unit) =>
  HM.bind (α := ByteArray × ByteArray × Int × Bool × ByteArray × Unit) (HM.loadN [.str, .str, .int .i64, .bool, .str] ⟨x3, 0, none⟩) fun (x15 : ByteArray × ByteArray × Int × Bool × ByteArray × Unit) =>
  HM.pure ((x14.1, x14.2.1, x14.2.2.1, x14.2.2.2.1, ()), (x15.1, x15.2.1, x15.2.2.1, x15.2.2.2.1, x15.2.2.2.2.1, ()), false, ())) (
  HM.bind (α := Int × Int × Int × Int × Unit) (HM.loadN [.int .i64, .int .i64, .int .i64, .int .i64] ⟨x13, 0, none⟩) fun (x16 : Int × Int × Int × Int × Unit) =>
  HM.bind (α := ByteArray) (HM.load1 .str (Addr.add ⟨x1, 0, none⟩ 5)) fun (x17 : ByteArray) =>
  HM.bind (α := ByteArray) (HM.load1 .str (Addr.add ⟨x1, 0, none⟩ 6)) fun (x18 : ByteArray) =>
  HM.bind (α := Int) (HM.load1 (.int .i64) (Addr.add ⟨x13, 0, none⟩ 3)) fun (x19 : Int) =>
  HM.bind (α := Bool) (HM.load1 .bool (Addr.add ⟨x1, 0, none⟩ 2)) fun (x20 : Bool) =>
  HM.bind (α := Unit) (HM.storeN ⟨x2, 0, none⟩ [.int .i64 x16.1, .int .i64 x16.2.1, .int .i64 x16.2.2.1, .int .i64 x16.2.2.2.1]) fun (_ : Unit) =>
  HM.bind (α := Bool) (HM.load1 .bool (Addr.add ⟨x1, 0, none⟩ 2)) fun (x21 : Bool) =>
  HM.req ((.bool x21 : Value) = .bool x20) <|
  HM.bind (α := Int) (HM.load1 (.int .i64) (Addr.add ⟨x13, 0, none⟩ 3)) fun (x22 : Int) =>
  HM.req ((.int .i64 x22 : Value) = .int .i64 x19) <|
  HM.bind (α := ByteArray) (HM.load1 .str (Addr.add ⟨x1, 0, none⟩ 6)) fun (x23 : ByteArray) =>
  HM.req ((.string x23 : Value) = .string x18) <|
  HM.bind (α := ByteArray) (HM.load1 .str (Addr.add ⟨x1, 0, none⟩ 5)) fun (x24 : ByteArray) =>
  HM.req ((.string x24 : Value) = .string x17) <|
  HM.bind (α := Unit) (HM.storeN ⟨x3, 0, none⟩ [.string x17, .string x18, .int .i64 x19, .bool x20, .string (ByteArray.mk #[])]) fun (_ : Unit) =>
  HM.bind (α := Int × Int × Int × Int × Unit) (HM.loadN [.int .i64, .int .i64, .int .i64, .int .i64] ⟨x2, 0, none⟩) fun (x25 : Int × Int × Int × Int × Unit) =>
  HM.bind (α := ByteArray × ByteArray × Int × Bool × ByteArray × Unit) (HM.loadN [.str, .str, .int .i64, .bool, .str] ⟨x3, 0, none⟩) fun (x26 : ByteArray × ByteArray × Int × Bool × ByteArray × Unit) =>
  HM.pure ((x25.1, x25.2.1, x25.2.2.1, x25.2.2.2.1, ()), (x26.1, x26.2.1, x26.2.2.1, x26.2.2.2.1, x26.2.2.2.2.1, ()), true, ())))

theorem ref23_Arrived_den (p0 : Int × Bool × Bool × Int × Int × ByteArray × ByteArray × Int × Slc × Slc × ByteArray × Bool × Int × Bool × ByteArray × ByteArray × Int × Bool × Slc × Bool × Bool × ByteArray × ByteArray × Bool × Slc × Slc × Unit) : denFn Tryz.prog [32, 33] 42 [0, 1, 2, 3, 4, 5, 6, 7, 18, 29] [0, 1, 2, 3, 5, 6, 7, 18, 29] Tryz.f9.results.toList [.agg [.int .i64, .int .i64, .int .i64, .int .i64], .agg [.str, .str, .int .i64, .bool, .str], .one .bool] (bodyOf Tryz.f9) [Kind.val (.agg [.int .i64, .bool, .bool, .int .i64, .int .i64, .str, .str, .int .i64, .slc, .slc, .str, .bool, .int .i64, .bool, .str, .str, .int .i64, .bool, .slc, .bool, .bool, .str, .str, .bool, .slc, .slc]) p0] = ref23_Arrived p0 := by kernel_rfl
theorem ref23_Arrived_calls (p0 : Int × Bool × Bool × Int × Int × ByteArray × ByteArray × Int × Slc × Slc × ByteArray × Bool × Int × Bool × ByteArray × ByteArray × Int × Bool × Slc × Bool × Bool × ByteArray × ByteArray × Bool × Slc × Slc × Unit) (h : Heap) (Q : Value → Heap → Prop) (hh : ref23_Arrived p0 h fun x h' => Q (.tuple #[.agg #[.int .i64 x.1.1, .int .i64 x.1.2.1, .int .i64 x.1.2.2.1, .int .i64 x.1.2.2.2.1], .agg #[.string x.2.1.1, .string x.2.1.2.1, .int .i64 x.2.1.2.2.1, .bool x.2.1.2.2.2.1, .string x.2.1.2.2.2.2.1], .bool x.2.2.1]) h') :
    HCalls Tryz.prog 9 #[.agg #[.int .i64 p0.1, .bool p0.2.1, .bool p0.2.2.1, .int .i64 p0.2.2.2.1, .int .i64 p0.2.2.2.2.1, .string p0.2.2.2.2.2.1, .string p0.2.2.2.2.2.2.1, .int .i64 p0.2.2.2.2.2.2.2.1, .slice p0.2.2.2.2.2.2.2.2.1.a p0.2.2.2.2.2.2.2.2.1.len p0.2.2.2.2.2.2.2.2.1.cap, .slice p0.2.2.2.2.2.2.2.2.2.1.a p0.2.2.2.2.2.2.2.2.2.1.len p0.2.2.2.2.2.2.2.2.2.1.cap, .string p0.2.2.2.2.2.2.2.2.2.2.1, .bool p0.2.2.2.2.2.2.2.2.2.2.2.1, .int .i64 p0.2.2.2.2.2.2.2.2.2.2.2.2.1, .bool p0.2.2.2.2.2.2.2.2.2.2.2.2.2.1, .string p0.2.2.2.2.2.2.2.2.2.2.2.2.2.2.1, .string p0.2.2.2.2.2.2.2.2.2.2.2.2.2.2.2.1, .int .i64 p0.2.2.2.2.2.2.2.2.2.2.2.2.2.2.2.2.1, .bool p0.2.2.2.2.2.2.2.2.2.2.2.2.2.2.2.2.2.1, .slice p0.2.2.2.2.2.2.2.2.2.2.2.2.2.2.2.2.2.2.1.a p0.2.2.2.2.2.2.2.2.2.2.2.2.2.2.2.2.2.2.1.len p0.2.2.2.2.2.2.2.2.2.2.2.2.2.2.2.2.2.2.1.cap, .bool p0.2.2.2.2.2.2.2.2.2.2.2.2.2.2.2.2.2.2.2.1, .bool p0.2.2.2.2.2.2.2.2.2.2.2.2.2.2.2.2.2.2.2.2.1, .string p0.2.2.2.2.2.2.2.2.2.2.2.2.2.2.2.2.2.2.2.2.2.1, .string p0.2.2.2.2.2.2.2.2.2.2.2.2.2.2.2.2.2.2.2.2.2.2.1, .bool p0.2.2.2.2.2.2.2.2.2.2.2.2.2.2.2.2.2.2.2.2.2.2.2.1, .slice p0.2.2.2.2.2.2.2.2.2.2.2.2.2.2.2.2.2.2.2.2.2.2.2.2.1.a p0.2.2.2.2.2.2.2.2.2.2.2.2.2.2.2.2.2.2.2.2.2.2.2.2.1.len p0.2.2.2.2.2.2.2.2.2.2.2.2.2.2.2.2.2.2.2.2.2.2.2.2.1.cap, .slice p0.2.2.2.2.2.2.2.2.2.2.2.2.2.2.2.2.2.2.2.2.2.2.2.2.2.1.a p0.2.2.2.2.2.2.2.2.2.2.2.2.2.2.2.2.2.2.2.2.2.2.2.2.2.1.len p0.2.2.2.2.2.2.2.2.2.2.2.2.2.2.2.2.2.2.2.2.2.2.2.2.2.1.cap]] h Q := by
  rw [← ref23_Arrived_den] at hh
  exact calls_of_den Tryz.func9 (by kernel_rfl) Tryz.ntmps9 (by kernel_rfl) (fun f hf => by
      rcases List.mem_cons.1 hf with rfl | hf
      · exact Tryz.call32
      rcases List.mem_cons.1 hf with rfl | hf
      · exact Tryz.call33
      cases hf) orders hh

/-- aqueduct/aqueductlaw23.wakes -/
def law23_wakes : HM (Bool × Unit) :=
  HM.bind (α := Nat) (HM.new (.cells #[.string (ByteArray.mk #[35]), .int .i64 0, .int .i64 1, .string (ByteArray.mk #[]), .string (ByteArray.mk #[120, 47])] 123)) fun (x1 : Nat) =>
  HM.bind (α := Option Addr × Int × Unit) (HM.callN Tryz.prog [.one .ptr, .one (.int .u8)] 12 #[.slice (some ⟨x1, 0, none⟩) 1 1]) fun (x2 : Option Addr × Int × Unit) =>
  HM.bind (α := Slc) (HM.call1 Tryz.prog (.one .slc) 16 #[.pointer x2.1, .agg #[.int .i64 0, .int .i64 5, .int .i64 0, .int .i64 2], .agg #[.string (ByteArray.mk #[97]), .string (ByteArray.mk #[112]), .int .i64 0, .bool false, .string (ByteArray.mk #[])]]) fun (x3 : Slc) =>
  HM.bind (α := Bool × Unit) (HM.ite (x2.2.1 == 0) (
  HM.ite (((x3.len : Nat) : Int) == 1) (
  HM.bind (α := Addr) (HM.idx x3.a x3.len 0 5) fun (x4 : Addr) =>
  HM.bind (α := ByteArray × ByteArray × Int × Bool × ByteArray × Unit) (HM.loadN [.str, .str, .int .i64, .bool, .str] x4) fun (x5 : ByteArray × ByteArray × Int × Bool × ByteArray × Unit) =>
  HM.ite ((decide (x5.1 = (ByteArray.mk #[120, 47, 97]))) && ((decide (x5.2.1 = (ByteArray.mk #[112]))) && ((x5.2.2.1 == 1) && ((x5.2.2.2.1 == false) && ((decide (x5.2.2.2.2.1 = (ByteArray.mk #[48, 46, 53, 46, 49, 46, 49]))) && true))))) (
  HM.bind (α := Int) (HM.call1 Tryz.prog (.one (.int .i64)) 34 #[.int .i64 2, .int .i64 10, .int .i64 100, .int .u64 7]) fun (x6 : Int) =>
  HM.pure (x6 == 47, ())) (
  HM.pure (false, ()))) (
  HM.pure (false, ()))) (
  HM.pure (false, ()))) fun (x7 : Bool × Unit) =>
  HM.pure (x7.1, ())

theorem law23_wakes_den : denFn Tryz.prog [12, 16, 34] 33 [0, 1, 2, 3] [1, 2, 3] Tryz.f10.results.toList [.one .bool] (bodyOf Tryz.f10) [] = law23_wakes := by kernel_rfl
theorem law23_wakes_calls (h : Heap) (Q : Value → Heap → Prop) (hh : law23_wakes h fun x h' => Q (.bool x.1) h') :
    HCalls Tryz.prog 10 #[] h Q := by
  rw [← law23_wakes_den] at hh
  exact calls_of_den Tryz.func10 (by kernel_rfl) Tryz.ntmps10 (by kernel_rfl) (fun f hf => by
      rcases List.mem_cons.1 hf with rfl | hf
      · exact Tryz.call12
      rcases List.mem_cons.1 hf with rfl | hf
      · exact Tryz.call16
      rcases List.mem_cons.1 hf with rfl | hf
      · exact Tryz.call34
      cases hf) orders hh

/-- aqueduct/bridge.New -/
def bridge_New (p0 : Slc) : HM (Option Addr × Int × Unit) :=
  HM.ite (decide (16 < (((p0.len : Nat) : Int) : Int))) (
  HM.pure (none, 149, ())) (
  HM.bind (α := (Int × Unit) ⊕ (Option Addr × Int × Unit)) (HM.loop (σ := Int × Unit) (τ := (Int × Unit) ⊕ (Option Addr × Int × Unit)) (fun (x2 : Int × Unit) =>
  HM.ite (decide (x2.1 < (((p0.len : Nat) : Int) : Int))) (
  HM.bind (α := Addr) (HM.idx p0.a p0.len x2.1 5) fun (x3 : Addr) =>
  HM.bind (α := ByteArray × Int × Int × ByteArray × ByteArray × Unit) (HM.loadN [.str, .int .i64, .int .i64, .str, .str] x3) fun (x4 : ByteArray × Int × Int × ByteArray × ByteArray × Unit) =>
  HM.bind (α := Nat) (HM.new (.cells #[.string (ByteArray.mk #[]), .int .i64 0, .int .i64 0, .string (ByteArray.mk #[]), .string (ByteArray.mk #[])] 123)) fun (x5 : Nat) =>
  HM.bind (α := Unit) (HM.storeN ⟨x5, 0, none⟩ [.string x4.1, .int .i64 x4.2.1, .int .i64 x4.2.2.1, .string x4.2.2.2.1, .string x4.2.2.2.2.1]) fun (_ : Unit) =>
  HM.bind (α := ByteArray × Int × Int × ByteArray × ByteArray × Unit) (HM.loadN [.str, .int .i64, .int .i64, .str, .str] ⟨x5, 0, none⟩) fun (x6 : ByteArray × Int × Int × ByteArray × ByteArray × Unit) =>
  HM.bind (α := Int) (HM.call1 Tryz.prog (.one (.int .u8)) 36 #[.agg #[.string x6.1, .int .i64 x6.2.1, .int .i64 x6.2.2.1, .string x6.2.2.2.1, .string x6.2.2.2.2.1]]) fun (x7 : Int) =>
  HM.ite (!(x7 == 0)) (
  HM.pure (.inr (.inr (none, x7, ())))) (
  HM.pure (.inl (IntKind.wrap .i64 (x2.1 + 1), ())))) (
  HM.pure (.inr (.inl (x2.1, ()))))) (0, ())) (Sum.elim (fun (x1 : Int × Unit) =>
  HM.bind (α := Slc) (HM.call1 Tryz.prog (.one .slc) 37 #[.slice p0.a p0.len p0.cap]) fun (x8 : Slc) =>
  HM.bind (α := Option Addr) (HM.call1 Tryz.prog (.one .ptr) 38 #[.int .i64 64]) fun (x9 : Option Addr) =>
  HM.bind (α := Nat) (HM.new (.cells #[.slice x8.a x8.len x8.cap, .pointer x9] 136)) fun (x10 : Nat) =>
  HM.pure (some ⟨x10, 0, none⟩, 0, ())) HM.pure))

theorem bridge_New_den (p0 : Slc) : denFn Tryz.prog [36, 37, 38] 27 [0, 2, 3, 5, 6, 9, 10, 11, 12, 13, 19] [0, 5, 6, 9, 10, 11, 12, 13, 19] Tryz.f12.results.toList [.one .ptr, .one (.int .u8)] (bodyOf Tryz.f12) [Kind.val (.one .slc) p0] = bridge_New p0 := by kernel_rfl
theorem bridge_New_calls (p0 : Slc) (h : Heap) (Q : Value → Heap → Prop) (hh : bridge_New p0 h fun x h' => Q (.tuple #[.pointer x.1, .int .u8 x.2.1]) h') :
    HCalls Tryz.prog 12 #[.slice p0.a p0.len p0.cap] h Q := by
  rw [← bridge_New_den] at hh
  exact calls_of_den Tryz.func12 (by kernel_rfl) Tryz.ntmps12 (by kernel_rfl) (fun f hf => by
      rcases List.mem_cons.1 hf with rfl | hf
      · exact Tryz.call36
      rcases List.mem_cons.1 hf with rfl | hf
      · exact Tryz.call37
      rcases List.mem_cons.1 hf with rfl | hf
      · exact Tryz.call38
      cases hf) orders hh

/-- aqueduct/aqueductlaw23.labels -/
def law23_labels (p0 : Int × Int × Int × Int × Unit) : HM ((Int × Int × Int × Int × Unit) × (Int × Int × Int × Int × Unit) × Unit) :=
  HM.bind (α := Nat) (HM.new (.cells #[.int .i64 p0.1, .int .i64 p0.2.1, .int .i64 p0.2.2.1, .int .i64 p0.2.2.2.1] 64)) fun (x1 : Nat) =>
  HM.bind (α := Nat) (HM.new (.cells #[.int .i64 0, .int .i64 0, .int .i64 0, .int .i64 0] 49)) fun (x2 : Nat) =>
  HM.bind (α := Nat) (HM.new (.cells #[.int .i64 0, .int .i64 0, .int .i64 0, .int .i64 0] 55)) fun (x3 : Nat) =>
  HM.bind (α := Int) (HM.load1 (.int .i64) (Addr.add ⟨x1, 0, none⟩ 0)) fun (x4 : Int) =>
  HM.bind (α := Int) (HM.load1 (.int .i64) (Addr.add ⟨x1, 0, none⟩ 1)) fun (x5 : Int) =>
  HM.bind (α := Int) (HM.load1 (.int .i64) (Addr.add ⟨x1, 0, none⟩ 2)) fun (x6 : Int) =>
  HM.bind (α := Int) (HM.load1 (.int .i64) (Addr.add ⟨x1, 0, none⟩ 3)) fun (x7 : Int) =>
  HM.bind (α := Int) (HM.load1 (.int .i64) (Addr.add ⟨x1, 0, none⟩ 0)) fun (x8 : Int) =>
  HM.bind (α := Int) (HM.load1 (.int .i64) (Addr.add ⟨x1, 0, none⟩ 1)) fun (x9 : Int) =>
  HM.bind (α := Int) (HM.load1 (.int .i64) (Addr.add ⟨x1, 0, none⟩ 2)) fun (x10 : Int) =>
  HM.bind (α := Int) (HM.load1 (.int .i64) (Addr.add ⟨x1, 0, none⟩ 3)) fun (x11 : Int) =>
  HM.bind (α := Unit) (HM.storeN ⟨x2, 0, none⟩ [.int .i64 x4, .int .i64 x5, .int .i64 x6, .int .i64 x7]) fun (_ : Unit) =>
  HM.bind (α := Int) (HM.load1 (.int .i64) (Addr.add ⟨x1, 0, none⟩ 3)) fun (x12 : Int) =>
  HM.req ((.int .i64 x12 : Value) = .int .i64 x11) <|
  HM.bind (α := Int) (HM.load1 (.int .i64) (Addr.add ⟨x1, 0, none⟩ 2)) fun (x13 : Int) =>
  HM.req ((.int .i64 x13 : Value) = .int .i64 x10) <|
  HM.bind (α := Int) (HM.load1 (.int .i64) (Addr.add ⟨x1, 0, none⟩ 1)) fun (x14 : Int) =>
  HM.req ((.int .i64 x14 : Value) = .int .i64 x9) <|
  HM.bind (α := Int) (HM.load1 (.int .i64) (Addr.add ⟨x1, 0, none⟩ 0)) fun (x15 : Int) =>
  HM.req ((.int .i64 x15 : Value) = .int .i64 x8) <|
  HM.bind (α := Unit) (HM.storeN ⟨x3, 0, none⟩ [.int .i64 x8, .int .i64 x9, .int .i64 x10, .int .i64 x11]) fun (_ : Unit) =>
  HM.bind (α := Int × Int × Int × Int × Unit) (HM.loadN [.int .i64, .int .i64, .int .i64, .int .i64] ⟨x2, 0, none⟩) fun (x16 : Int × Int × Int × Int × Unit) =>
  HM.bind (α := Int × Int × Int × Int × Unit) (HM.loadN [.int .i64, .int .i64, .int .i64, .int .i64] ⟨x3, 0, none⟩) fun (x17 : Int × Int × Int × Int × Unit) =>
  HM.pure ((x16.1, x16.2.1, x16.2.2.1, x16.2.2.2.1, ()), (x17.1, x17.2.1, x17.2.2.1, x17.2.2.2.1, ()), ())

theorem law23_labels_den (p0 : Int × Int × Int × Int × Unit) : denFn Tryz.prog [] 24 [0, 1, 2, 3] [0, 1, 2, 3] Tryz.f14.results.toList [.agg [.int .i64, .int .i64, .int .i64, .int .i64], .agg [.int .i64, .int .i64, .int .i64, .int .i64]] (bodyOf Tryz.f14) [Kind.val (.agg [.int .i64, .int .i64, .int .i64, .int .i64]) p0] = law23_labels p0 := by kernel_rfl
theorem law23_labels_calls (p0 : Int × Int × Int × Int × Unit) (h : Heap) (Q : Value → Heap → Prop) (hh : law23_labels p0 h fun x h' => Q (.tuple #[.agg #[.int .i64 x.1.1, .int .i64 x.1.2.1, .int .i64 x.1.2.2.1, .int .i64 x.1.2.2.2.1], .agg #[.int .i64 x.2.1.1, .int .i64 x.2.1.2.1, .int .i64 x.2.1.2.2.1, .int .i64 x.2.1.2.2.2.1]]) h') :
    HCalls Tryz.prog 14 #[.agg #[.int .i64 p0.1, .int .i64 p0.2.1, .int .i64 p0.2.2.1, .int .i64 p0.2.2.2.1]] h Q := by
  rw [← law23_labels_den] at hh
  exact calls_of_den Tryz.func14 (by kernel_rfl) Tryz.ntmps14 (by kernel_rfl) (fun f hf => by cases hf) orders hh

/-- (*aqueduct/bridge.Bridge).Route -/
def bridge_Bridge_Route (p0 : Option Addr) (p1 : Int × Int × Int × Int × Unit) (p2 : ByteArray × ByteArray × Int × Bool × ByteArray × Unit) : HM (Slc × Unit) :=
  HM.bind (α := Nat) (HM.new (.cells #[.int .i64 p1.1, .int .i64 p1.2.1, .int .i64 p1.2.2.1, .int .i64 p1.2.2.2.1] 49)) fun (x1 : Nat) =>
  HM.bind (α := Nat) (HM.new (.cells #[.string p2.1, .string p2.2.1, .int .i64 p2.2.2.1, .bool p2.2.2.2.1, .string p2.2.2.2.2.1] 50)) fun (x2 : Nat) =>
  HM.bind (α := Bool × Unit) (HM.ite (Option.isNone p0) (
  HM.pure (true, ())) (
  HM.bind (α := Int × Int × Int × Int × Unit) (HM.loadN [.int .i64, .int .i64, .int .i64, .int .i64] ⟨x1, 0, none⟩) fun (x3 : Int × Int × Int × Int × Unit) =>
  HM.bind (α := ByteArray) (HM.call1 Tryz.prog (.one .str) 29 #[.agg #[.int .i64 x3.1, .int .i64 x3.2.1, .int .i64 x3.2.2.1, .int .i64 x3.2.2.2.1]]) fun (x4 : ByteArray) =>
  HM.ite (decide (x4 = (ByteArray.mk #[]))) (
  HM.pure (true, ())) (
  HM.bind (α := Int) (HM.load1 (.int .i64) (Addr.add ⟨x1, 0, none⟩ 2)) fun (x5 : Int) =>
  HM.pure (decide (32 ≤ (x5 : Int)), ())))) fun (x6 : Bool × Unit) =>
  HM.ite x6.1 (
  HM.pure (⟨none, 0, 0⟩, ())) (
  HM.bind (α := Addr) (HM.nonnil p0) fun (x7 : Addr) =>
  HM.bind (α := Slc) (HM.load1 .slc (Addr.add x7 0)) fun (x8 : Slc) =>
  HM.bind (α := ByteArray) (HM.load1 .str (Addr.add ⟨x2, 0, none⟩ 0)) fun (x9 : ByteArray) =>
  HM.bind (α := Int) (HM.load1 (.int .i64) (Addr.add ⟨x1, 0, none⟩ 3)) fun (x10 : Int) =>
  HM.bind (α := Slc) (HM.call1 Tryz.prog (.one .slc) 28 #[.slice x8.a x8.len x8.cap, .string x9, .int .i64 x10]) fun (x11 : Slc) =>
  HM.bind (α := Slc × Int × Unit) (HM.loop (σ := Slc × Int × Unit) (τ := Slc × Int × Unit) (fun (x13 : Slc × Int × Unit) =>
  HM.ite (decide (x13.2.1 < (((x11.len : Nat) : Int) : Int))) (
  HM.bind (α := Addr) (HM.idx x11.a x11.len x13.2.1 3) fun (x14 : Addr) =>
  HM.bind (α := Int × ByteArray × Int × Unit) (HM.loadN [.int .i64, .str, .int .i64] x14) fun (x15 : Int × ByteArray × Int × Unit) =>
  HM.bind (α := Nat) (HM.new (.cells #[.int .i64 0, .string (ByteArray.mk #[]), .int .i64 0] 112)) fun (x16 : Nat) =>
  HM.bind (α := Unit) (HM.storeN ⟨x16, 0, none⟩ [.int .i64 x15.1, .string x15.2.1, .int .i64 x15.2.2.1]) fun (_ : Unit) =>
  HM.bind (α := Int × Int × Unit) (HM.loadN [.int .i64, .int .i64] (Addr.add ⟨x1, 0, none⟩ 0)) fun (x17 : Int × Int × Unit) =>
  HM.bind (α := Int) (HM.load1 (.int .i64) (Addr.add ⟨x1, 0, none⟩ 2)) fun (x18 : Int) =>
  HM.bind (α := Int) (HM.load1 (.int .i64) (Addr.add ⟨x16, 0, none⟩ 2)) fun (x19 : Int) =>
  HM.bind (α := Nat) (HM.new (.cells #[.int .i64 0, .int .i64 0, .int .i64 0, .int .i64 0] 49)) fun (x20 : Nat) =>
  HM.bind (α := Unit) (HM.storeN ⟨x20, 0, none⟩ [.int .i64 x17.1, .int .i64 x17.2.1, .int .i64 (IntKind.wrap .i64 (x18 + 1)), .int .i64 x19]) fun (_ : Unit) =>
  HM.bind (α := ByteArray) (HM.load1 .str (Addr.add ⟨x16, 0, none⟩ 1)) fun (x21 : ByteArray) =>
  HM.bind (α := ByteArray) (HM.load1 .str (Addr.add ⟨x2, 0, none⟩ 1)) fun (x22 : ByteArray) =>
  HM.bind (α := Bool) (HM.load1 .bool (Addr.add ⟨x2, 0, none⟩ 3)) fun (x23 : Bool) =>
  HM.bind (α := Int × Int × Int × Int × Unit) (HM.loadN [.int .i64, .int .i64, .int .i64, .int .i64] ⟨x20, 0, none⟩) fun (x24 : Int × Int × Int × Int × Unit) =>
  HM.bind (α := ByteArray) (HM.call1 Tryz.prog (.one .str) 29 #[.agg #[.int .i64 x24.1, .int .i64 x24.2.1, .int .i64 x24.2.2.1, .int .i64 x24.2.2.2.1]]) fun (x25 : ByteArray) =>
  HM.bind (α := Bool) (HM.load1 .bool (Addr.add ⟨x2, 0, none⟩ 3)) fun (x26 : Bool) =>
  HM.req ((.bool x26 : Value) = .bool x23) <|
  HM.bind (α := ByteArray) (HM.load1 .str (Addr.add ⟨x2, 0, none⟩ 1)) fun (x27 : ByteArray) =>
  HM.req ((.string x27 : Value) = .string x22) <|
  HM.bind (α := ByteArray) (HM.load1 .str (Addr.add ⟨x16, 0, none⟩ 1)) fun (x28 : ByteArray) =>
  HM.req ((.string x28 : Value) = .string x21) <|
  HM.bind (α := Nat) (HM.new (.cells #[.string x21, .string x22, .int .i64 1, .bool x23, .string x25] 50)) fun (x29 : Nat) =>
  HM.bind (α := Slc) (HM.append 50 5 64 #[.string (ByteArray.mk #[]), .string (ByteArray.mk #[]), .int .i64 0, .bool false, .string (ByteArray.mk #[])] x13.1 1 (srcSlc 5 (⟨some ⟨x29, 0, none⟩, 1, 1⟩))) fun (x30 : Slc) =>
  HM.pure (.inl (x30, IntKind.wrap .i64 (x13.2.1 + 1), ()))) (
  HM.pure (.inr (x13.1, x13.2.1, ())))) (⟨none, 0, 0⟩, 0, ())) fun (x12 : Slc × Int × Unit) =>
  HM.pure (x12.1, ()))

theorem bridge_Bridge_Route_den (p0 : Option Addr) (p1 : Int × Int × Int × Int × Unit) (p2 : ByteArray × ByteArray × Int × Bool × ByteArray × Unit) : denFn Tryz.prog [29, 28] 59 [0, 1, 2, 4, 5, 6, 7, 9, 10, 22, 31, 32, 33, 34] [0, 1, 2, 4, 5, 7, 9, 10, 22, 31, 32, 33, 34] Tryz.f16.results.toList [.one .slc] (bodyOf Tryz.f16) [Kind.val (.one .ptr) p0, Kind.val (.agg [.int .i64, .int .i64, .int .i64, .int .i64]) p1, Kind.val (.agg [.str, .str, .int .i64, .bool, .str]) p2] = bridge_Bridge_Route p0 p1 p2 := by kernel_rfl
theorem bridge_Bridge_Route_calls (p0 : Option Addr) (p1 : Int × Int × Int × Int × Unit) (p2 : ByteArray × ByteArray × Int × Bool × ByteArray × Unit) (h : Heap) (Q : Value → Heap → Prop) (hh : bridge_Bridge_Route p0 p1 p2 h fun x h' => Q (.slice x.1.a x.1.len x.1.cap) h') :
    HCalls Tryz.prog 16 #[.pointer p0, .agg #[.int .i64 p1.1, .int .i64 p1.2.1, .int .i64 p1.2.2.1, .int .i64 p1.2.2.2.1], .agg #[.string p2.1, .string p2.2.1, .int .i64 p2.2.2.1, .bool p2.2.2.2.1, .string p2.2.2.2.2.1]] h Q := by
  rw [← bridge_Bridge_Route_den] at hh
  exact calls_of_den Tryz.func16 (by kernel_rfl) Tryz.ntmps16 (by kernel_rfl) (fun f hf => by
      rcases List.mem_cons.1 hf with rfl | hf
      · exact Tryz.call29
      rcases List.mem_cons.1 hf with rfl | hf
      · exact Tryz.call28
      cases hf) orders hh

/-- (*aqueduct/bridge.Bridge).Answer -/
def bridge_Bridge_Answer (p0 : Option Addr) (p1 : Int × Bool × Bool × Int × Int × ByteArray × ByteArray × Int × Slc × Slc × ByteArray × Bool × Int × Bool × ByteArray × ByteArray × Int × Bool × Slc × Bool × Bool × ByteArray × ByteArray × Bool × Slc × Slc × Unit) : HM (Slc × Int × Unit) :=
  HM.bind (α := Nat) (HM.new (.cells #[.int .i64 p1.1, .bool p1.2.1, .bool p1.2.2.1, .int .i64 p1.2.2.2.1, .int .i64 p1.2.2.2.2.1, .string p1.2.2.2.2.2.1, .string p1.2.2.2.2.2.2.1, .int .u8 p1.2.2.2.2.2.2.2.1, .slice p1.2.2.2.2.2.2.2.2.1.a p1.2.2.2.2.2.2.2.2.1.len p1.2.2.2.2.2.2.2.2.1.cap, .slice p1.2.2.2.2.2.2.2.2.2.1.a p1.2.2.2.2.2.2.2.2.2.1.len p1.2.2.2.2.2.2.2.2.2.1.cap, .string p1.2.2.2.2.2.2.2.2.2.2.1, .bool p1.2.2.2.2.2.2.2.2.2.2.2.1, .int .i64 p1.2.2.2.2.2.2.2.2.2.2.2.2.1, .bool p1.2.2.2.2.2.2.2.2.2.2.2.2.2.1, .string p1.2.2.2.2.2.2.2.2.2.2.2.2.2.2.1, .string p1.2.2.2.2.2.2.2.2.2.2.2.2.2.2.2.1, .int .i64 p1.2.2.2.2.2.2.2.2.2.2.2.2.2.2.2.2.1, .bool p1.2.2.2.2.2.2.2.2.2.2.2.2.2.2.2.2.2.1, .slice p1.2.2.2.2.2.2.2.2.2.2.2.2.2.2.2.2.2.2.1.a p1.2.2.2.2.2.2.2.2.2.2.2.2.2.2.2.2.2.2.1.len p1.2.2.2.2.2.2.2.2.2.2.2.2.2.2.2.2.2.2.1.cap, .bool p1.2.2.2.2.2.2.2.2.2.2.2.2.2.2.2.2.2.2.2.1, .bool p1.2.2.2.2.2.2.2.2.2.2.2.2.2.2.2.2.2.2.2.2.1, .string p1.2.2.2.2.2.2.2.2.2.2.2.2.2.2.2.2.2.2.2.2.2.1, .string p1.2.2.2.2.2.2.2.2.2.2.2.2.2.2.2.2.2.2.2.2.2.2.1, .bool p1.2.2.2.2.2.2.2.2.2.2.2.2.2.2.2.2.2.2.2.2.2.2.2.1, .slice p1.2.2.2.2.2.2.2.2.2.2.2.2.2.2.2.2.2.2.2.2.2.2.2.2.1.a p1.2.2.2.2.2.2.2.2.2.2.2.2.2.2.2.2.2.2.2.2.2.2.2.2.1.len p1.2.2.2.2.2.2.2.2.2.2.2.2.2.2.2.2.2.2.2.2.2.2.2.2.1.cap, .slice p1.2.2.2.2.2.2.2.2.2.2.2.2.2.2.2.2.2.2.2.2.2.2.2.2.2.1.a p1.2.2.2.2.2.2.2.2.2.2.2.2.2.2.2.2.2.2.2.2.2.2.2.2.2.1.len p1.2.2.2.2.2.2.2.2.2.2.2.2.2.2.2.2.2.2.2.2.2.2.2.2.2.1.cap] 34)) fun (x1 : Nat) =>
  HM.ite (Option.isNone p0) (
  HM.pure (⟨none, 0, 0⟩, 128, ())) (
  HM.bind (α := Addr) (HM.nonnil p0) fun (x2 : Addr) =>
  HM.bind (α := Option Addr) (HM.load1 .ptr (Addr.add x2 1)) fun (x3 : Option Addr) =>
  HM.bind (α := Int × Bool × Bool × Int × Int × ByteArray × ByteArray × Int × Slc × Slc × ByteArray × Bool × Int × Bool × ByteArray × ByteArray × Int × Bool × Slc × Bool × Bool × ByteArray × ByteArray × Bool × Slc × Slc × Unit) (HM.loadN [.int .i64, .bool, .bool, .int .i64, .int .i64, .str, .str, .int .u8, .slc, .slc, .str, .bool, .int .i64, .bool, .str, .str, .int .i64, .bool, .slc, .bool, .bool, .str, .str, .bool, .slc, .slc] ⟨x1, 0, none⟩) fun (x4 : Int × Bool × Bool × Int × Int × ByteArray × ByteArray × Int × Slc × Slc × ByteArray × Bool × Int × Bool × ByteArray × ByteArray × Int × Bool × Slc × Bool × Bool × ByteArray × ByteArray × Bool × Slc × Slc × Unit) =>
  HM.bind (α := Slc × Int × Unit) (HM.callN Tryz.prog [.one .slc, .one (.int .u8)] 43 #[.pointer x3, .agg #[.int .i64 x4.1, .bool x4.2.1, .bool x4.2.2.1, .int .i64 x4.2.2.2.1, .int .i64 x4.2.2.2.2.1, .string x4.2.2.2.2.2.1, .string x4.2.2.2.2.2.2.1, .int .u8 x4.2.2.2.2.2.2.2.1, .slice x4.2.2.2.2.2.2.2.2.1.a x4.2.2.2.2.2.2.2.2.1.len x4.2.2.2.2.2.2.2.2.1.cap, .slice x4.2.2.2.2.2.2.2.2.2.1.a x4.2.2.2.2.2.2.2.2.2.1.len x4.2.2.2.2.2.2.2.2.2.1.cap, .string x4.2.2.2.2.2.2.2.2.2.2.1, .bool x4.2.2.2.2.2.2.2.2.2.2.2.1, .int .i64 x4.2.2.2.2.2.2.2.2.2.2.2.2.1, .bool x4.2.2.2.2.2.2.2.2.2.2.2.2.2.1, .string x4.2.2.2.2.2.2.2.2.2.2.2.2.2.2.1, .string x4.2.2.2.2.2.2.2.2.2.2.2.2.2.2.2.1, .int .i64 x4.2.2.2.2.2.2.2.2.2.2.2.2.2.2.2.2.1, .bool x4.2.2.2.2.2.2.2.2.2.2.2.2.2.2.2.2.2.1, .slice x4.2.2.2.2.2.2.2.2.2.2.2.2.2.2.2.2.2.2.1.a x4.2.2.2.2.2.2.2.2.2.2.2.2.2.2.2.2.2.2.1.len x4.2.2.2.2.2.2.2.2.2.2.2.2.2.2.2.2.2.2.1.cap, .bool x4.2.2.2.2.2.2.2.2.2.2.2.2.2.2.2.2.2.2.2.1, .bool x4.2.2.2.2.2.2.2.2.2.2.2.2.2.2.2.2.2.2.2.2.1, .string x4.2.2.2.2.2.2.2.2.2.2.2.2.2.2.2.2.2.2.2.2.2.1, .string x4.2.2.2.2.2.2.2.2.2.2.2.2.2.2.2.2.2.2.2.2.2.2.1, .bool x4.2.2.2.2.2.2.2.2.2.2.2.2.2.2.2.2.2.2.2.2.2.2.2.1, .slice x4.2.2.2.2.2.2.2.2.2.2.2.2.2.2.2.2.2.2.2.2.2.2.2.2.1.a x4.2.2.2.2.2.2.2.2.2.2.2.2.2.2.2.2.2.2.2.2.2.2.2.2.1.len x4.2.2.2.2.2.2.2.2.2.2.2.2.2.2.2.2.2.2.2.2.2.2.2.2.1.cap, .slice x4.2.2.2.2.2.2.2.2.2.2.2.2.2.2.2.2.2.2.2.2.2.2.2.2.2.1.a x4.2.2.2.2.2.2.2.2.2.2.2.2.2.2.2.2.2.2.2.2.2.2.2.2.2.1.len x4.2.2.2.2.2.2.2.2.2.2.2.2.2.2.2.2.2.2.2.2.2.2.2.2.2.1.cap]]) fun (x5 : Slc × Int × Unit) =>
  HM.pure (x5.1, x5.2.1, ()))

theorem bridge_Bridge_Answer_den (p0 : Option Addr) (p1 : Int × Bool × Bool × Int × Int × ByteArray × ByteArray × Int × Slc × Slc × ByteArray × Bool × Int × Bool × ByteArray × ByteArray × Int × Bool × Slc × Bool × Bool × ByteArray × ByteArray × Bool × Slc × Slc × Unit) : denFn Tryz.prog [43] 16 [0, 1, 3, 4, 5, 7] [0, 1, 3, 7] Tryz.f18.results.toList [.one .slc, .one (.int .u8)] (bodyOf Tryz.f18) [Kind.val (.one .ptr) p0, Kind.val (.agg [.int .i64, .bool, .bool, .int .i64, .int .i64, .str, .str, .int .u8, .slc, .slc, .str, .bool, .int .i64, .bool, .str, .str, .int .i64, .bool, .slc, .bool, .bool, .str, .str, .bool, .slc, .slc]) p1] = bridge_Bridge_Answer p0 p1 := by kernel_rfl
theorem bridge_Bridge_Answer_calls (p0 : Option Addr) (p1 : Int × Bool × Bool × Int × Int × ByteArray × ByteArray × Int × Slc × Slc × ByteArray × Bool × Int × Bool × ByteArray × ByteArray × Int × Bool × Slc × Bool × Bool × ByteArray × ByteArray × Bool × Slc × Slc × Unit) (h : Heap) (Q : Value → Heap → Prop) (hh : bridge_Bridge_Answer p0 p1 h fun x h' => Q (.tuple #[.slice x.1.a x.1.len x.1.cap, .int .u8 x.2.1]) h') :
    HCalls Tryz.prog 18 #[.pointer p0, .agg #[.int .i64 p1.1, .bool p1.2.1, .bool p1.2.2.1, .int .i64 p1.2.2.2.1, .int .i64 p1.2.2.2.2.1, .string p1.2.2.2.2.2.1, .string p1.2.2.2.2.2.2.1, .int .u8 p1.2.2.2.2.2.2.2.1, .slice p1.2.2.2.2.2.2.2.2.1.a p1.2.2.2.2.2.2.2.2.1.len p1.2.2.2.2.2.2.2.2.1.cap, .slice p1.2.2.2.2.2.2.2.2.2.1.a p1.2.2.2.2.2.2.2.2.2.1.len p1.2.2.2.2.2.2.2.2.2.1.cap, .string p1.2.2.2.2.2.2.2.2.2.2.1, .bool p1.2.2.2.2.2.2.2.2.2.2.2.1, .int .i64 p1.2.2.2.2.2.2.2.2.2.2.2.2.1, .bool p1.2.2.2.2.2.2.2.2.2.2.2.2.2.1, .string p1.2.2.2.2.2.2.2.2.2.2.2.2.2.2.1, .string p1.2.2.2.2.2.2.2.2.2.2.2.2.2.2.2.1, .int .i64 p1.2.2.2.2.2.2.2.2.2.2.2.2.2.2.2.2.1, .bool p1.2.2.2.2.2.2.2.2.2.2.2.2.2.2.2.2.2.1, .slice p1.2.2.2.2.2.2.2.2.2.2.2.2.2.2.2.2.2.2.1.a p1.2.2.2.2.2.2.2.2.2.2.2.2.2.2.2.2.2.2.1.len p1.2.2.2.2.2.2.2.2.2.2.2.2.2.2.2.2.2.2.1.cap, .bool p1.2.2.2.2.2.2.2.2.2.2.2.2.2.2.2.2.2.2.2.1, .bool p1.2.2.2.2.2.2.2.2.2.2.2.2.2.2.2.2.2.2.2.2.1, .string p1.2.2.2.2.2.2.2.2.2.2.2.2.2.2.2.2.2.2.2.2.2.1, .string p1.2.2.2.2.2.2.2.2.2.2.2.2.2.2.2.2.2.2.2.2.2.2.1, .bool p1.2.2.2.2.2.2.2.2.2.2.2.2.2.2.2.2.2.2.2.2.2.2.2.1, .slice p1.2.2.2.2.2.2.2.2.2.2.2.2.2.2.2.2.2.2.2.2.2.2.2.2.1.a p1.2.2.2.2.2.2.2.2.2.2.2.2.2.2.2.2.2.2.2.2.2.2.2.2.1.len p1.2.2.2.2.2.2.2.2.2.2.2.2.2.2.2.2.2.2.2.2.2.2.2.2.1.cap, .slice p1.2.2.2.2.2.2.2.2.2.2.2.2.2.2.2.2.2.2.2.2.2.2.2.2.2.1.a p1.2.2.2.2.2.2.2.2.2.2.2.2.2.2.2.2.2.2.2.2.2.2.2.2.2.1.len p1.2.2.2.2.2.2.2.2.2.2.2.2.2.2.2.2.2.2.2.2.2.2.2.2.2.1.cap]] h Q := by
  rw [← bridge_Bridge_Answer_den] at hh
  exact calls_of_den Tryz.func18 (by kernel_rfl) Tryz.ntmps18 (by kernel_rfl) (fun f hf => by
      rcases List.mem_cons.1 hf with rfl | hf
      · exact Tryz.call43
      cases hf) orders hh

/-- (*aqueduct/bridge.Bridge).Begin -/
def bridge_Bridge_Begin (p0 : Option Addr) : HM (Slc × Unit) :=
  HM.ite (Option.isNone p0) (
  HM.pure (⟨none, 0, 0⟩, ())) (
  HM.bind (α := Addr) (HM.nonnil p0) fun (x1 : Addr) =>
  HM.bind (α := Option Addr) (HM.load1 .ptr (Addr.add x1 1)) fun (x2 : Option Addr) =>
  HM.bind (α := Slc) (HM.call1 Tryz.prog (.one .slc) 46 #[.pointer x2, .int .i64 64]) fun (x3 : Slc) =>
  HM.pure (x3, ()))

theorem bridge_Bridge_Begin_den (p0 : Option Addr) : denFn Tryz.prog [46] 10 [0, 2, 4] [0, 4] Tryz.f20.results.toList [.one .slc] (bodyOf Tryz.f20) [Kind.val (.one .ptr) p0] = bridge_Bridge_Begin p0 := by kernel_rfl
theorem bridge_Bridge_Begin_calls (p0 : Option Addr) (h : Heap) (Q : Value → Heap → Prop) (hh : bridge_Bridge_Begin p0 h fun x h' => Q (.slice x.1.a x.1.len x.1.cap) h') :
    HCalls Tryz.prog 20 #[.pointer p0] h Q := by
  rw [← bridge_Bridge_Begin_den] at hh
  exact calls_of_den Tryz.func20 (by kernel_rfl) Tryz.ntmps20 (by kernel_rfl) (fun f hf => by
      rcases List.mem_cons.1 hf with rfl | hf
      · exact Tryz.call46
      cases hf) orders hh

/-- (*aqueduct/bridge.Bridge).End -/
def bridge_Bridge_End (p0 : Option Addr) : HM (Unit) :=
  HM.bind (α := Unit) (HM.ite (!(Option.isNone p0)) (
  HM.bind (α := Addr) (HM.nonnil p0) fun (x2 : Addr) =>
  HM.bind (α := Option Addr) (HM.load1 .ptr (Addr.add x2 1)) fun (x3 : Option Addr) =>
  HM.bind (α := Unit) (HM.callN Tryz.prog [] 49 #[.pointer x3]) fun (x4 : Unit) =>
  HM.pure ()) (
  HM.pure ())) fun (x1 : Unit) =>
  HM.pure ()

theorem bridge_Bridge_End_den (p0 : Option Addr) : denFn Tryz.prog [49] 9 [0, 3] [0, 3] Tryz.f22.results.toList [] (bodyOf Tryz.f22) [Kind.val (.one .ptr) p0] = bridge_Bridge_End p0 := by kernel_rfl
theorem bridge_Bridge_End_calls (p0 : Option Addr) (h : Heap) (Q : Value → Heap → Prop) (hh : bridge_Bridge_End p0 h fun x h' => Q (.tuple #[]) h') :
    HCalls Tryz.prog 22 #[.pointer p0] h Q := by
  rw [← bridge_Bridge_End_den] at hh
  exact calls_of_den Tryz.func22 (by kernel_rfl) Tryz.ntmps22 (by kernel_rfl) (fun f hf => by
      rcases List.mem_cons.1 hf with rfl | hf
      · exact Tryz.call49
      cases hf) orders hh

/-- (*aqueduct/bridge.Bridge).Send -/
def bridge_Bridge_Send (p0 : Option Addr) (p1 : ByteArray × ByteArray × Int × Bool × ByteArray × Unit) : HM (Slc × Int × Unit) :=
  HM.bind (α := Nat) (HM.new (.cells #[.string p1.1, .string p1.2.1, .int .i64 p1.2.2.1, .bool p1.2.2.2.1, .string p1.2.2.2.2.1] 50)) fun (x1 : Nat) =>
  HM.ite (Option.isNone p0) (
  HM.pure (⟨none, 0, 0⟩, 128, ())) (
  HM.bind (α := Unit) (HM.store1 (Addr.add ⟨x1, 0, none⟩ 2) (.int .i64 1)) fun (_ : Unit) =>
  HM.bind (α := ByteArray) (HM.load1 .str (Addr.add ⟨x1, 0, none⟩ 0)) fun (x2 : ByteArray) =>
  HM.bind (α := ByteArray) (HM.load1 .str (Addr.add ⟨x1, 0, none⟩ 1)) fun (x3 : ByteArray) =>
  HM.bind (α := Nat) (HM.new (.cells #[.int .i64 0, .bool false, .bool false, .int .i64 0, .int .i64 0, .string (ByteArray.mk #[]), .string (ByteArray.mk #[]), .int .u8 0, .slice none 0 0, .slice none 0 0, .string (ByteArray.mk #[]), .bool false, .int .i64 0, .bool false, .string (ByteArray.mk #[]), .string (ByteArray.mk #[]), .int .i64 0, .bool false, .slice none 0 0, .bool false, .bool false, .string (ByteArray.mk #[]), .string (ByteArray.mk #[]), .bool false, .slice none 0 0, .slice none 0 0] 34)) fun (x4 : Nat) =>
  HM.bind (α := Unit) (HM.storeN ⟨x4, 0, none⟩ [.int .i64 3, .bool false, .bool false, .int .i64 1, .int .i64 1, .string x2, .string x3, .int .u8 0, .slice none 0 0, .slice none 0 0, .string (ByteArray.mk #[]), .bool false, .int .i64 0, .bool false, .string (ByteArray.mk #[]), .string (ByteArray.mk #[]), .int .i64 0, .bool false, .slice none 0 0, .bool false, .bool false, .string (ByteArray.mk #[]), .string (ByteArray.mk #[]), .bool false, .slice none 0 0, .slice none 0 0]) fun (_ : Unit) =>
  HM.bind (α := ByteArray) (HM.load1 .str (Addr.add ⟨x1, 0, none⟩ 4)) fun (x5 : ByteArray) =>
  HM.bind (α := Unit) (HM.ite (!(decide (x5 = (ByteArray.mk #[])))) (
  HM.bind (α := ByteArray) (HM.load1 .str (Addr.add ⟨x1, 0, none⟩ 4)) fun (x7 : ByteArray) =>
  HM.bind (α := Nat) (HM.new (.cells #[.int .i64 38, .int .i64 0, .string (ByteArray.mk #[116, 97, 103]), .string x7] 44)) fun (x8 : Nat) =>
  HM.bind (α := Unit) (HM.store1 (Addr.add ⟨x4, 0, none⟩ 9) (.slice (some ⟨x8, 0, none⟩) 1 1)) fun (_ : Unit) =>
  HM.pure ()) (
  HM.pure ())) fun (x6 : Unit) =>
  HM.bind (α := Int × Bool × Bool × Int × Int × ByteArray × ByteArray × Int × Slc × Slc × ByteArray × Bool × Int × Bool × ByteArray × ByteArray × Int × Bool × Slc × Bool × Bool × ByteArray × ByteArray × Bool × Slc × Slc × Unit) (HM.loadN [.int .i64, .bool, .bool, .int .i64, .int .i64, .str, .str, .int .u8, .slc, .slc, .str, .bool, .int .i64, .bool, .str, .str, .int .i64, .bool, .slc, .bool, .bool, .str, .str, .bool, .slc, .slc] ⟨x4, 0, none⟩) fun (x9 : Int × Bool × Bool × Int × Int × ByteArray × ByteArray × Int × Slc × Slc × ByteArray × Bool × Int × Bool × ByteArray × ByteArray × Int × Bool × Slc × Bool × Bool × ByteArray × ByteArray × Bool × Slc × Slc × Unit) =>
  HM.bind (α := ByteArray × Int × Unit) (HM.callN Tryz.prog [.one .str, .one (.int .u8)] 50 #[.agg #[.int .i64 x9.1, .bool x9.2.1, .bool x9.2.2.1, .int .i64 x9.2.2.2.1, .int .i64 x9.2.2.2.2.1, .string x9.2.2.2.2.2.1, .string x9.2.2.2.2.2.2.1, .int .u8 x9.2.2.2.2.2.2.2.1, .slice x9.2.2.2.2.2.2.2.2.1.a x9.2.2.2.2.2.2.2.2.1.len x9.2.2.2.2.2.2.2.2.1.cap, .slice x9.2.2.2.2.2.2.2.2.2.1.a x9.2.2.2.2.2.2.2.2.2.1.len x9.2.2.2.2.2.2.2.2.2.1.cap, .string x9.2.2.2.2.2.2.2.2.2.2.1, .bool x9.2.2.2.2.2.2.2.2.2.2.2.1, .int .i64 x9.2.2.2.2.2.2.2.2.2.2.2.2.1, .bool x9.2.2.2.2.2.2.2.2.2.2.2.2.2.1, .string x9.2.2.2.2.2.2.2.2.2.2.2.2.2.2.1, .string x9.2.2.2.2.2.2.2.2.2.2.2.2.2.2.2.1, .int .i64 x9.2.2.2.2.2.2.2.2.2.2.2.2.2.2.2.2.1, .bool x9.2.2.2.2.2.2.2.2.2.2.2.2.2.2.2.2.2.1, .slice x9.2.2.2.2.2.2.2.2.2.2.2.2.2.2.2.2.2.2.1.a x9.2.2.2.2.2.2.2.2.2.2.2.2.2.2.2.2.2.2.1.len x9.2.2.2.2.2.2.2.2.2.2.2.2.2.2.2.2.2.2.1.cap, .bool x9.2.2.2.2.2.2.2.2.2.2.2.2.2.2.2.2.2.2.2.1, .bool x9.2.2.2.2.2.2.2.2.2.2.2.2.2.2.2.2.2.2.2.2.1, .string x9.2.2.2.2.2.2.2.2.2.2.2.2.2.2.2.2.2.2.2.2.2.1, .string x9.2.2.2.2.2.2.2.2.2.2.2.2.2.2.2.2.2.2.2.2.2.2.1, .bool x9.2.2.2.2.2.2.2.2.2.2.2.2.2.2.2.2.2.2.2.2.2.2.2.1, .slice x9.2.2.2.2.2.2.2.2.2.2.2.2.2.2.2.2.2.2.2.2.2.2.2.2.1.a x9.2.2.2.2.2.2.2.2.2.2.2.2.2.2.2.2.2.2.2.2.2.2.2.2.1.len x9.2.2.2.2.2.2.2.2.2.2.2.2.2.2.2.2.2.2.2.2.2.2.2.2.1.cap, .slice x9.2.2.2.2.2.2.2.2.2.2.2.2.2.2.2.2.2.2.2.2.2.2.2.2.2.1.a x9.2.2.2.2.2.2.2.2.2.2.2.2.2.2.2.2.2.2.2.2.2.2.2.2.2.1.len x9.2.2.2.2.2.2.2.2.2.2.2.2.2.2.2.2.2.2.2.2.2.2.2.2.2.1.cap]]) fun (x10 : ByteArray × Int × Unit) =>
  HM.ite (!(x10.2.1 == 0)) (
  HM.pure (⟨none, 0, 0⟩, x10.2.1, ())) (
  HM.bind (α := Addr) (HM.nonnil p0) fun (x11 : Addr) =>
  HM.bind (α := Option Addr) (HM.load1 .ptr (Addr.add x11 1)) fun (x12 : Option Addr) =>
  HM.bind (α := ByteArray × ByteArray × Int × Bool × ByteArray × Unit) (HM.loadN [.str, .str, .int .i64, .bool, .str] ⟨x1, 0, none⟩) fun (x13 : ByteArray × ByteArray × Int × Bool × ByteArray × Unit) =>
  HM.bind (α := Slc × Int × Unit) (HM.callN Tryz.prog [.one .slc, .one (.int .u8)] 51 #[.pointer x12, .agg #[.string x13.1, .string x13.2.1, .int .i64 x13.2.2.1, .bool x13.2.2.2.1, .string x13.2.2.2.2.1]]) fun (x14 : Slc × Int × Unit) =>
  HM.pure (x14.1, x14.2.1, ())))

theorem bridge_Bridge_Send_den (p0 : Option Addr) (p1 : ByteArray × ByteArray × Int × Bool × ByteArray × Unit) : denFn Tryz.prog [50, 51] 41 [0, 1, 3, 4, 5, 6, 8, 10, 19, 31] [0, 1, 3, 6, 8, 10, 19, 31] Tryz.f23.results.toList [.one .slc, .one (.int .u8)] (bodyOf Tryz.f23) [Kind.val (.one .ptr) p0, Kind.val (.agg [.str, .str, .int .i64, .bool, .str]) p1] = bridge_Bridge_Send p0 p1 := by kernel_rfl
theorem bridge_Bridge_Send_calls (p0 : Option Addr) (p1 : ByteArray × ByteArray × Int × Bool × ByteArray × Unit) (h : Heap) (Q : Value → Heap → Prop) (hh : bridge_Bridge_Send p0 p1 h fun x h' => Q (.tuple #[.slice x.1.a x.1.len x.1.cap, .int .u8 x.2.1]) h') :
    HCalls Tryz.prog 23 #[.pointer p0, .agg #[.string p1.1, .string p1.2.1, .int .i64 p1.2.2.1, .bool p1.2.2.2.1, .string p1.2.2.2.2.1]] h Q := by
  rw [← bridge_Bridge_Send_den] at hh
  exact calls_of_den Tryz.func23 (by kernel_rfl) Tryz.ntmps23 (by kernel_rfl) (fun f hf => by
      rcases List.mem_cons.1 hf with rfl | hf
      · exact Tryz.call50
      rcases List.mem_cons.1 hf with rfl | hf
      · exact Tryz.call51
      cases hf) orders hh

/-- (*aqueduct/bridge.Bridge).Left -/
def bridge_Bridge_Left (p0 : Option Addr) : HM (Slc × Unit) :=
  HM.ite (Option.isNone p0) (
  HM.pure (⟨none, 0, 0⟩, ())) (
  HM.bind (α := Addr) (HM.nonnil p0) fun (x1 : Addr) =>
  HM.bind (α := Option Addr) (HM.load1 .ptr (Addr.add x1 1)) fun (x2 : Option Addr) =>
  HM.bind (α := Slc) (HM.call1 Tryz.prog (.one .slc) 54 #[.pointer x2]) fun (x3 : Slc) =>
  HM.bind (α := Slc × Int × Unit) (HM.loop (σ := Slc × Int × Unit) (τ := Slc × Int × Unit) (fun (x5 : Slc × Int × Unit) =>
  HM.ite (decide (x5.2.1 < (((x3.len : Nat) : Int) : Int))) (
  HM.bind (α := Addr) (HM.idx x3.a x3.len x5.2.1 7) fun (x6 : Addr) =>
  HM.bind (α := Int × ByteArray × ByteArray × Int × Bool × ByteArray × Bool × Unit) (HM.loadN [.int .i64, .str, .str, .int .i64, .bool, .str, .bool] x6) fun (x7 : Int × ByteArray × ByteArray × Int × Bool × ByteArray × Bool × Unit) =>
  HM.bind (α := Nat) (HM.new (.cells #[.int .i64 0, .string (ByteArray.mk #[]), .string (ByteArray.mk #[]), .int .i64 0, .bool false, .string (ByteArray.mk #[]), .bool false] 158)) fun (x8 : Nat) =>
  HM.bind (α := Unit) (HM.storeN ⟨x8, 0, none⟩ [.int .i64 x7.1, .string x7.2.1, .string x7.2.2.1, .int .i64 x7.2.2.2.1, .bool x7.2.2.2.2.1, .string x7.2.2.2.2.2.1, .bool x7.2.2.2.2.2.2.1]) fun (_ : Unit) =>
  HM.bind (α := ByteArray × ByteArray × Int × Bool × ByteArray × Unit) (HM.loadN [.str, .str, .int .i64, .bool, .str] (Addr.add ⟨x8, 0, none⟩ 1)) fun (x9 : ByteArray × ByteArray × Int × Bool × ByteArray × Unit) =>
  HM.bind (α := Nat) (HM.new (.cells #[.string x9.1, .string x9.2.1, .int .i64 x9.2.2.1, .bool x9.2.2.2.1, .string x9.2.2.2.2.1] 50)) fun (x10 : Nat) =>
  HM.bind (α := Slc) (HM.append 50 5 64 #[.string (ByteArray.mk #[]), .string (ByteArray.mk #[]), .int .i64 0, .bool false, .string (ByteArray.mk #[])] x5.1 1 (srcSlc 5 (⟨some ⟨x10, 0, none⟩, 1, 1⟩))) fun (x11 : Slc) =>
  HM.pure (.inl (x11, IntKind.wrap .i64 (x5.2.1 + 1), ()))) (
  HM.pure (.inr (x5.1, x5.2.1, ())))) (⟨none, 0, 0⟩, 0, ())) fun (x4 : Slc × Int × Unit) =>
  HM.bind (α := Addr) (HM.nonnil p0) fun (x12 : Addr) =>
  HM.bind (α := Option Addr) (HM.load1 .ptr (Addr.add x12 1)) fun (x13 : Option Addr) =>
  HM.bind (α := Slc) (HM.call1 Tryz.prog (.one .slc) 55 #[.pointer x13]) fun (x14 : Slc) =>
  HM.bind (α := Slc) (HM.append 50 5 64 #[.string (ByteArray.mk #[]), .string (ByteArray.mk #[]), .int .i64 0, .bool false, .string (ByteArray.mk #[])] x4.1 x14.len (srcSlc 5 x14)) fun (x15 : Slc) =>
  HM.pure (x15, ()))

theorem bridge_Bridge_Left_den (p0 : Option Addr) : denFn Tryz.prog [54, 55] 31 [0, 2, 3, 5, 7, 12, 13, 14, 15] [0, 3, 5, 7, 12, 13, 14, 15] Tryz.f26.results.toList [.one .slc] (bodyOf Tryz.f26) [Kind.val (.one .ptr) p0] = bridge_Bridge_Left p0 := by kernel_rfl
theorem bridge_Bridge_Left_calls (p0 : Option Addr) (h : Heap) (Q : Value → Heap → Prop) (hh : bridge_Bridge_Left p0 h fun x h' => Q (.slice x.1.a x.1.len x.1.cap) h') :
    HCalls Tryz.prog 26 #[.pointer p0] h Q := by
  rw [← bridge_Bridge_Left_den] at hh
  exact calls_of_den Tryz.func26 (by kernel_rfl) Tryz.ntmps26 (by kernel_rfl) (fun f hf => by
      rcases List.mem_cons.1 hf with rfl | hf
      · exact Tryz.call54
      rcases List.mem_cons.1 hf with rfl | hf
      · exact Tryz.call55
      cases hf) orders hh

/-- aqueduct/remap.Route -/
def remap_Route (p0 : Slc) (p1 : ByteArray) (p2 : Int) : HM (Slc × Unit) :=
  HM.bind (α := Slc × Int × Unit) (HM.loop (σ := Slc × Int × Unit) (τ := Slc × Int × Unit) (fun (x2 : Slc × Int × Unit) =>
  HM.ite (decide (x2.2.1 < (((p0.len : Nat) : Int) : Int))) (
  HM.bind (α := Addr) (HM.idx p0.a p0.len x2.2.1 5) fun (x3 : Addr) =>
  HM.bind (α := ByteArray × Int × Int × ByteArray × ByteArray × Unit) (HM.loadN [.str, .int .i64, .int .i64, .str, .str] x3) fun (x4 : ByteArray × Int × Int × ByteArray × ByteArray × Unit) =>
  HM.bind (α := Nat) (HM.new (.cells #[.string (ByteArray.mk #[]), .int .i64 0, .int .i64 0, .string (ByteArray.mk #[]), .string (ByteArray.mk #[])] 123)) fun (x5 : Nat) =>
  HM.bind (α := Unit) (HM.storeN ⟨x5, 0, none⟩ [.string x4.1, .int .i64 x4.2.1, .int .i64 x4.2.2.1, .string x4.2.2.2.1, .string x4.2.2.2.2.1]) fun (_ : Unit) =>
  HM.bind (α := ByteArray × Int × Int × ByteArray × ByteArray × Unit) (HM.loadN [.str, .int .i64, .int .i64, .str, .str] ⟨x5, 0, none⟩) fun (x6 : ByteArray × Int × Int × ByteArray × ByteArray × Unit) =>
  HM.bind (α := ByteArray × Bool × Unit) (HM.callN Tryz.prog [.one .str, .one .bool] 56 #[.agg #[.string x6.1, .int .i64 x6.2.1, .int .i64 x6.2.2.1, .string x6.2.2.2.1, .string x6.2.2.2.2.1], .string p1]) fun (x7 : ByteArray × Bool × Unit) =>
  HM.bind (α := Slc × Unit) (HM.ite x7.2.1 (
  HM.bind (α := Int) (HM.load1 (.int .i64) (Addr.add ⟨x5, 0, none⟩ 2)) fun (x9 : Int) =>
  HM.bind (α := Nat) (HM.new (.cells #[.int .i64 x2.2.1, .string x7.1, .int .i64 (if x9 < (p2 : Int) then x9 else p2)] 112)) fun (x10 : Nat) =>
  HM.bind (α := Slc) (HM.append 112 3 32 #[.int .i64 0, .string (ByteArray.mk #[]), .int .i64 0] x2.1 1 (srcSlc 3 (⟨some ⟨x10, 0, none⟩, 1, 1⟩))) fun (x11 : Slc) =>
  HM.pure (x11, ())) (
  HM.pure (x2.1, ()))) fun (x8 : Slc × Unit) =>
  HM.pure (.inl (x8.1, IntKind.wrap .i64 (x2.2.1 + 1), ()))) (
  HM.pure (.inr (x2.1, x2.2.1, ())))) (⟨none, 0, 0⟩, 0, ())) fun (x1 : Slc × Int × Unit) =>
  HM.pure (x1.1, ())

theorem remap_Route_den (p0 : Slc) (p1 : ByteArray) (p2 : Int) : denFn Tryz.prog [56] 38 [0, 1, 2, 6, 7, 8, 9, 10, 11, 12, 13, 14, 15, 25] [0, 1, 2, 7, 8, 9, 10, 11, 12, 13, 14, 15, 25] Tryz.f28.results.toList [.one .slc] (bodyOf Tryz.f28) [Kind.val (.one .slc) p0, Kind.val (.one .str) p1, Kind.val (.one (.int .i64)) p2] = remap_Route p0 p1 p2 := by kernel_rfl
theorem remap_Route_calls (p0 : Slc) (p1 : ByteArray) (p2 : Int) (h : Heap) (Q : Value → Heap → Prop) (hh : remap_Route p0 p1 p2 h fun x h' => Q (.slice x.1.a x.1.len x.1.cap) h') :
    HCalls Tryz.prog 28 #[.slice p0.a p0.len p0.cap, .string p1, .int .i64 p2] h Q := by
  rw [← remap_Route_den] at hh
  exact calls_of_den Tryz.func28 (by kernel_rfl) Tryz.ntmps28 (by kernel_rfl) (fun f hf => by
      rcases List.mem_cons.1 hf with rfl | hf
      · exact Tryz.call56
      cases hf) orders hh

/-- (aqueduct/tags.Label).Text -/
def tags_Label_Text (p0 : Int × Int × Int × Int × Unit) : HM (ByteArray × Unit) :=
  HM.bind (α := Nat) (HM.new (.cells #[.int .i64 p0.1, .int .i64 p0.2.1, .int .i64 p0.2.2.1, .int .i64 p0.2.2.2.1] 49)) fun (x1 : Nat) =>
  HM.bind (α := Int × Int × Int × Int × Unit) (HM.loadN [.int .i64, .int .i64, .int .i64, .int .i64] ⟨x1, 0, none⟩) fun (x2 : Int × Int × Int × Int × Unit) =>
  HM.bind (α := Bool) (HM.call1 Tryz.prog (.one .bool) 57 #[.agg #[.int .i64 x2.1, .int .i64 x2.2.1, .int .i64 x2.2.2.1, .int .i64 x2.2.2.2.1]]) fun (x3 : Bool) =>
  HM.ite (!x3) (
  HM.pure (ByteArray.mk #[], ())) (
  HM.bind (α := Int) (HM.load1 (.int .i64) (Addr.add (Addr.add ⟨x1, 0, none⟩ 0) 0)) fun (x4 : Int) =>
  HM.bind (α := Int) (HM.load1 (.int .i64) (Addr.add (Addr.add ⟨x1, 0, none⟩ 0) 1)) fun (x5 : Int) =>
  HM.bind (α := Int) (HM.load1 (.int .i64) (Addr.add ⟨x1, 0, none⟩ 2)) fun (x6 : Int) =>
  HM.bind (α := Int) (HM.load1 (.int .i64) (Addr.add ⟨x1, 0, none⟩ 3)) fun (x7 : Int) =>
  HM.bind (α := ByteArray) (HM.call1 Tryz.prog (.one .str) 59 #[.int .i64 x4]) fun (x8 : ByteArray) =>
  HM.bind (α := Int) (HM.load1 (.int .i64) (Addr.add ⟨x1, 0, none⟩ 3)) fun (x9 : Int) =>
  HM.req ((.int .i64 x9 : Value) = .int .i64 x7) <|
  HM.bind (α := Int) (HM.load1 (.int .i64) (Addr.add ⟨x1, 0, none⟩ 2)) fun (x10 : Int) =>
  HM.req ((.int .i64 x10 : Value) = .int .i64 x6) <|
  HM.bind (α := Int) (HM.load1 (.int .i64) (Addr.add (Addr.add ⟨x1, 0, none⟩ 0) 1)) fun (x11 : Int) =>
  HM.req ((.int .i64 x11 : Value) = .int .i64 x5) <|
  HM.bind (α := ByteArray) (HM.call1 Tryz.prog (.one .str) 60 #[.int .i64 x5, .int .i64 10]) fun (x12 : ByteArray) =>
  HM.bind (α := Int) (HM.load1 (.int .i64) (Addr.add ⟨x1, 0, none⟩ 3)) fun (x13 : Int) =>
  HM.req ((.int .i64 x13 : Value) = .int .i64 x7) <|
  HM.bind (α := Int) (HM.load1 (.int .i64) (Addr.add ⟨x1, 0, none⟩ 2)) fun (x14 : Int) =>
  HM.req ((.int .i64 x14 : Value) = .int .i64 x6) <|
  HM.bind (α := ByteArray) (HM.call1 Tryz.prog (.one .str) 59 #[.int .i64 x6]) fun (x15 : ByteArray) =>
  HM.bind (α := Int) (HM.load1 (.int .i64) (Addr.add ⟨x1, 0, none⟩ 3)) fun (x16 : Int) =>
  HM.req ((.int .i64 x16 : Value) = .int .i64 x7) <|
  HM.bind (α := ByteArray) (HM.call1 Tryz.prog (.one .str) 59 #[.int .i64 x7]) fun (x17 : ByteArray) =>
  HM.bind (α := Nat) (HM.new (.cells #[.string x8, .string x12, .string x15, .string x17] 9)) fun (x18 : Nat) =>
  HM.bind (α := ByteArray) (HM.call1 Tryz.prog (.one .str) 58 #[.slice (some ⟨x18, 0, none⟩) 4 4, .string (ByteArray.mk #[46])]) fun (x19 : ByteArray) =>
  HM.pure (x19, ()))

theorem tags_Label_Text_den (p0 : Int × Int × Int × Int × Unit) : denFn Tryz.prog [57, 59, 60, 58] 22 [0, 1, 2, 5] [0, 1, 5] Tryz.f29.results.toList [.one .str] (bodyOf Tryz.f29) [Kind.val (.agg [.int .i64, .int .i64, .int .i64, .int .i64]) p0] = tags_Label_Text p0 := by kernel_rfl
theorem tags_Label_Text_calls (p0 : Int × Int × Int × Int × Unit) (h : Heap) (Q : Value → Heap → Prop) (hh : tags_Label_Text p0 h fun x h' => Q (.string x.1) h') :
    HCalls Tryz.prog 29 #[.agg #[.int .i64 p0.1, .int .i64 p0.2.1, .int .i64 p0.2.2.1, .int .i64 p0.2.2.2.1]] h Q := by
  rw [← tags_Label_Text_den] at hh
  exact calls_of_den Tryz.func29 (by kernel_rfl) Tryz.ntmps29 (by kernel_rfl) (fun f hf => by
      rcases List.mem_cons.1 hf with rfl | hf
      · exact Tryz.call57
      rcases List.mem_cons.1 hf with rfl | hf
      · exact Tryz.call59
      rcases List.mem_cons.1 hf with rfl | hf
      · exact Tryz.call60
      rcases List.mem_cons.1 hf with rfl | hf
      · exact Tryz.call58
      cases hf) orders hh

/-- aqueduct/prop.Users -/
def prop_Users (p0 : Slc) (p1 : ByteArray) : HM (Slc × Unit) :=
  HM.bind (α := Slc × Int × Unit) (HM.loop (σ := Slc × Int × Unit) (τ := Slc × Int × Unit) (fun (x2 : Slc × Int × Unit) =>
  HM.ite (decide (x2.2.1 < (((p0.len : Nat) : Int) : Int))) (
  HM.bind (α := Addr) (HM.idx p0.a p0.len x2.2.1 4) fun (x3 : Addr) =>
  HM.bind (α := Int × Int × ByteArray × ByteArray × Unit) (HM.loadN [.int .i64, .int .i64, .str, .str] x3) fun (x4 : Int × Int × ByteArray × ByteArray × Unit) =>
  HM.bind (α := Nat) (HM.new (.cells #[.int .i64 0, .int .i64 0, .string (ByteArray.mk #[]), .string (ByteArray.mk #[])] 44)) fun (x5 : Nat) =>
  HM.bind (α := Unit) (HM.storeN ⟨x5, 0, none⟩ [.int .i64 x4.1, .int .i64 x4.2.1, .string x4.2.2.1, .string x4.2.2.2.1]) fun (_ : Unit) =>
  HM.bind (α := Bool × Unit) (HM.bind (α := Int) (HM.load1 (.int .i64) (Addr.add ⟨x5, 0, none⟩ 0)) fun (x6 : Int) =>
  HM.ite (x6 == 38) (
  HM.bind (α := ByteArray) (HM.load1 .str (Addr.add ⟨x5, 0, none⟩ 2)) fun (x7 : ByteArray) =>
  HM.pure (decide (x7 = p1), ())) (
  HM.pure (false, ()))) fun (x8 : Bool × Unit) =>
  HM.bind (α := Slc × Unit) (HM.ite x8.1 (
  HM.bind (α := ByteArray) (HM.load1 .str (Addr.add ⟨x5, 0, none⟩ 3)) fun (x10 : ByteArray) =>
  HM.bind (α := Nat) (HM.new (.cells #[.string x10] 9)) fun (x11 : Nat) =>
  HM.bind (α := Slc) (HM.append 9 1 16 #[.string (ByteArray.mk #[])] x2.1 1 (srcSlc 1 (⟨some ⟨x11, 0, none⟩, 1, 1⟩))) fun (x12 : Slc) =>
  HM.pure (x12, ())) (
  HM.pure (x2.1, ()))) fun (x9 : Slc × Unit) =>
  HM.pure (.inl (x9.1, IntKind.wrap .i64 (x2.2.1 + 1), ()))) (
  HM.pure (.inr (x2.1, x2.2.1, ())))) (⟨none, 0, 0⟩, 0, ())) fun (x1 : Slc × Int × Unit) =>
  HM.pure (x1.1, ())

theorem prop_Users_den (p0 : Slc) (p1 : ByteArray) : denFn Tryz.prog [] 30 [0, 1, 4, 5, 7, 8, 9, 10, 11, 22] [0, 1, 5, 7, 8, 9, 10, 11, 22] Tryz.f30.results.toList [.one .slc] (bodyOf Tryz.f30) [Kind.val (.one .slc) p0, Kind.val (.one .str) p1] = prop_Users p0 p1 := by kernel_rfl
theorem prop_Users_calls (p0 : Slc) (p1 : ByteArray) (h : Heap) (Q : Value → Heap → Prop) (hh : prop_Users p0 p1 h fun x h' => Q (.slice x.1.a x.1.len x.1.cap) h') :
    HCalls Tryz.prog 30 #[.slice p0.a p0.len p0.cap, .string p1] h Q := by
  rw [← prop_Users_den] at hh
  exact calls_of_den Tryz.func30 (by kernel_rfl) Tryz.ntmps30 (by kernel_rfl) (fun f hf => by cases hf) orders hh

/-- aqueduct/tags.Parse -/
def tags_Parse (p0 : ByteArray) : HM ((Int × Int × Int × Int × Unit) × Bool × Unit) :=
  HM.bind (α := Nat) (HM.new (.cells #[.int .i64 0, .int .i64 0, .int .i64 0, .int .i64 0] 49)) fun (x1 : Nat) =>
  HM.bind (α := Slc) (HM.call1 Tryz.prog (.one .slc) 61 #[.string p0, .string (ByteArray.mk #[46])]) fun (x2 : Slc) =>
  HM.ite (!(((x2.len : Nat) : Int) == 4)) (
  HM.bind (α := Unit) (HM.storeN ⟨x1, 0, none⟩ [.int .i64 0, .int .i64 0, .int .i64 0, .int .i64 0]) fun (_ : Unit) =>
  HM.bind (α := Int × Int × Int × Int × Unit) (HM.loadN [.int .i64, .int .i64, .int .i64, .int .i64] ⟨x1, 0, none⟩) fun (x3 : Int × Int × Int × Int × Unit) =>
  HM.pure ((x3.1, x3.2.1, x3.2.2.1, x3.2.2.2.1, ()), false, ())) (
  HM.bind (α := Nat) (HM.new (.cells #[.int .i64 0, .int .i64 0, .int .i64 0, .int .i64 0] 165)) fun (x4 : Nat) =>
  HM.bind (α := Int × Unit) (HM.loop (σ := Int × Unit) (τ := Int × Unit) (fun (x6 : Int × Unit) =>
  HM.ite (decide (x6.1 < (4 : Int))) (
  HM.bind (α := Addr) (HM.idx x2.a x2.len x6.1 1) fun (x7 : Addr) =>
  HM.bind (α := ByteArray) (HM.load1 .str x7) fun (x8 : ByteArray) =>
  HM.bind (α := Int × Value × Unit) (HM.callN Tryz.prog [.one (.int .i64), .one .any] 62 #[.string x8, .int .i64 10, .int .i64 64]) fun (x9 : Int × Value × Unit) =>
  HM.bind (α := Addr) (HM.idx (some ⟨x4, 0, none⟩) 4 x6.1 1) fun (x10 : Addr) =>
  HM.bind (α := Unit) (HM.store1 x10 (.int .i64 x9.1)) fun (_ : Unit) =>
  HM.pure (.inl (IntKind.wrap .i64 (x6.1 + 1), ()))) (
  HM.pure (.inr (x6.1, ())))) (0, ())) fun (x5 : Int × Unit) =>
  HM.bind (α := Addr) (HM.idx (some ⟨x4, 0, none⟩) 4 0 1) fun (x11 : Addr) =>
  HM.bind (α := Int) (HM.load1 (.int .i64) x11) fun (x12 : Int) =>
  HM.bind (α := Addr) (HM.idx (some ⟨x4, 0, none⟩) 4 1 1) fun (x13 : Addr) =>
  HM.bind (α := Int) (HM.load1 (.int .i64) x13) fun (x14 : Int) =>
  HM.bind (α := Addr) (HM.idx (some ⟨x4, 0, none⟩) 4 2 1) fun (x15 : Addr) =>
  HM.bind (α := Int) (HM.load1 (.int .i64) x15) fun (x16 : Int) =>
  HM.bind (α := Addr) (HM.idx (some ⟨x4, 0, none⟩) 4 3 1) fun (x17 : Addr) =>
  HM.bind (α := Int) (HM.load1 (.int .i64) x17) fun (x18 : Int) =>
  HM.bind (α := Nat) (HM.new (.cells #[.int .i64 0, .int .i64 0, .int .i64 0, .int .i64 0] 49)) fun (x19 : Nat) =>
  HM.bind (α := Unit) (HM.storeN ⟨x19, 0, none⟩ [.int .i64 x12, .int .i64 x14, .int .i64 x16, .int .i64 x18]) fun (_ : Unit) =>
  HM.bind (α := Bool × Unit) (HM.bind (α := Int × Int × Int × Int × Unit) (HM.loadN [.int .i64, .int .i64, .int .i64, .int .i64] ⟨x19, 0, none⟩) fun (x20 : Int × Int × Int × Int × Unit) =>
  HM.bind (α := Bool) (HM.call1 Tryz.prog (.one .bool) 57 #[.agg #[.int .i64 x20.1, .int .i64 x20.2.1, .int .i64 x20.2.2.1, .int .i64 x20.2.2.2.1]]) fun (x21 : Bool) =>
  HM.ite (!x21) (
  HM.pure (true, ())) (
  HM.bind (α := Int × Int × Int × Int × Unit) (HM.loadN [.int .i64, .int .i64, .int .i64, .int .i64] ⟨x19, 0, none⟩) fun (x22 : Int × Int × Int × Int × Unit) =>
  HM.bind (α := ByteArray) (HM.call1 Tryz.prog (.one .str) 29 #[.agg #[.int .i64 x22.1, .int .i64 x22.2.1, .int .i64 x22.2.2.1, .int .i64 x22.2.2.2.1]]) fun (x23 : ByteArray) =>
  HM.pure (!(decide (x23 = p0)), ()))) fun (x24 : Bool × Unit) =>
  HM.ite x24.1 (
  HM.bind (α := Unit) (HM.storeN ⟨x1, 0, none⟩ [.int .i64 0, .int .i64 0, .int .i64 0, .int .i64 0]) fun (_ : Unit) =>
  HM.bind (α := Int × Int × Int × Int × Unit) (HM.loadN [.int .i64, .int .i64, .int .i64, .int .i64] ⟨x1, 0, none⟩) fun (x25 : Int × Int × Int × Int × Unit) =>
  HM.pure ((x25.1, x25.2.1, x25.2.2.1, x25.2.2.2.1, ()), false, ())) (
  HM.bind (α := Int × Int × Int × Int × Unit) (HM.loadN [.int .i64, .int .i64, .int .i64, .int .i64] ⟨x19, 0, none⟩) fun (x26 : Int × Int × Int × Int × Unit) =>
  HM.bind (α := Unit) (HM.storeN ⟨x1, 0, none⟩ [.int .i64 x26.1, .int .i64 x26.2.1, .int .i64 x26.2.2.1, .int .i64 x26.2.2.2.1]) fun (_ : Unit) =>
  HM.bind (α := Int × Int × Int × Int × Unit) (HM.loadN [.int .i64, .int .i64, .int .i64, .int .i64] ⟨x1, 0, none⟩) fun (x27 : Int × Int × Int × Int × Unit) =>
  HM.pure ((x27.1, x27.2.1, x27.2.2.1, x27.2.2.2.1, ()), true, ())))

theorem tags_Parse_den (p0 : ByteArray) : denFn Tryz.prog [61, 62, 57, 29] 49 [0, 2, 3, 4, 5, 6, 7, 12, 14, 15, 46] [0, 2, 4, 5, 6, 7, 12, 14, 15, 46] Tryz.f31.results.toList [.agg [.int .i64, .int .i64, .int .i64, .int .i64], .one .bool] (bodyOf Tryz.f31) [Kind.val (.one .str) p0] = tags_Parse p0 := by kernel_rfl
theorem tags_Parse_calls (p0 : ByteArray) (h : Heap) (Q : Value → Heap → Prop) (hh : tags_Parse p0 h fun x h' => Q (.tuple #[.agg #[.int .i64 x.1.1, .int .i64 x.1.2.1, .int .i64 x.1.2.2.1, .int .i64 x.1.2.2.2.1], .bool x.2.1]) h') :
    HCalls Tryz.prog 31 #[.string p0] h Q := by
  rw [← tags_Parse_den] at hh
  exact calls_of_den Tryz.func31 (by kernel_rfl) Tryz.ntmps31 (by kernel_rfl) (fun f hf => by
      rcases List.mem_cons.1 hf with rfl | hf
      · exact Tryz.call61
      rcases List.mem_cons.1 hf with rfl | hf
      · exact Tryz.call62
      rcases List.mem_cons.1 hf with rfl | hf
      · exact Tryz.call57
      rcases List.mem_cons.1 hf with rfl | hf
      · exact Tryz.call29
      cases hf) orders hh

/-- aqueduct/aqueductref04.Users -/
def ref04_Users (p0 : Slc) (p1 : ByteArray) : HM (Slc × Unit) :=
  HM.bind (α := Slc × Int × Unit) (HM.loop (σ := Slc × Int × Unit) (τ := Slc × Int × Unit) (fun (x2 : Slc × Int × Unit) =>
  HM.ite (decide (x2.2.1 < (((p0.len : Nat) : Int) : Int))) (
  HM.bind (α := Bool × Unit) (HM.bind (α := Addr) (HM.idx p0.a p0.len x2.2.1 4) fun (x3 : Addr) =>
  HM.bind (α := Int) (HM.load1 (.int .i64) (Addr.add x3 0)) fun (x4 : Int) =>
  HM.ite (x4 == 38) (
  HM.bind (α := Addr) (HM.idx p0.a p0.len x2.2.1 4) fun (x5 : Addr) =>
  HM.bind (α := ByteArray) (HM.load1 .str (Addr.add x5 2)) fun (x6 : ByteArray) =>
  HM.pure (decide (x6 = p1), ())) (
  HM.pure (false, ()))) fun (x7 : Bool × Unit) =>
  HM.bind (α := Slc × Unit) (HM.ite x7.1 (
  HM.bind (α := Addr) (HM.idx p0.a p0.len x2.2.1 4) fun (x9 : Addr) =>
  HM.bind (α := ByteArray) (HM.load1 .str (Addr.add x9 3)) fun (x10 : ByteArray) =>
  HM.bind (α := Nat) (HM.new (.cells #[.string x10] 9)) fun (x11 : Nat) =>
  HM.bind (α := Slc) (HM.append 9 1 16 #[.string (ByteArray.mk #[])] x2.1 1 (srcSlc 1 (⟨some ⟨x11, 0, none⟩, 1, 1⟩))) fun (x12 : Slc) =>
  HM.pure (x12, ())) (
  HM.pure (x2.1, ()))) fun (x8 : Slc × Unit) =>
  HM.pure (.inl (x8.1, IntKind.wrap .i64 (x2.2.1 + 1), ()))) (
  HM.pure (.inr (x2.1, x2.2.1, ())))) (⟨none, 0, 0⟩, 0, ())) fun (x1 : Slc × Int × Unit) =>
  HM.pure (x1.1, ())

theorem ref04_Users_den (p0 : Slc) (p1 : ByteArray) : denFn Tryz.prog [] 37 [0, 1, 4, 5, 6, 10, 27] [0, 1, 5, 6, 10, 27] Tryz.f32.results.toList [.one .slc] (bodyOf Tryz.f32) [Kind.val (.one .slc) p0, Kind.val (.one .str) p1] = ref04_Users p0 p1 := by kernel_rfl
theorem ref04_Users_calls (p0 : Slc) (p1 : ByteArray) (h : Heap) (Q : Value → Heap → Prop) (hh : ref04_Users p0 p1 h fun x h' => Q (.slice x.1.a x.1.len x.1.cap) h') :
    HCalls Tryz.prog 32 #[.slice p0.a p0.len p0.cap, .string p1] h Q := by
  rw [← ref04_Users_den] at hh
  exact calls_of_den Tryz.func32 (by kernel_rfl) Tryz.ntmps32 (by kernel_rfl) (fun f hf => by cases hf) orders hh

/-- aqueduct/aqueductref16.Parse -/
def ref16_Parse (p0 : ByteArray) : HM ((Int × Int × Int × Int × Unit) × Bool × Unit) :=
  HM.bind (α := Nat) (HM.new (.cells #[.int .i64 0, .int .i64 0, .int .i64 0, .int .i64 0] 55)) fun (x1 : Nat) =>
  HM.bind (α := Nat) (HM.new (.cells #[.int .i64 0, .int .i64 0, .int .i64 0, .int .i64 0] 165)) fun (x2 : Nat) =>
  HM.bind (α := (Int × Int × Unit) ⊕ ((Int × Int × Int × Int × Unit) × Bool × Unit)) (HM.loop (σ := Int × Int × Unit) (τ := (Int × Int × Unit) ⊕ ((Int × Int × Int × Int × Unit) × Bool × Unit)) (fun (x4 : Int × Int × Unit) =>
  HM.ite (decide (x4.2.1 < (4 : Int))) (
  HM.bind (α := (Int × Unit) ⊕ ((Int × Int × Unit) ⊕ ((Int × Int × Unit) ⊕ ((Int × Int × Int × Int × Unit) × Bool × Unit)))) (HM.ite (decide (0 < (x4.2.1 : Int))) (
  HM.bind (α := Bool × Unit) (HM.ite (decide (((ByteArray.size p0 : Nat) : Int) ≤ (x4.1 : Int))) (
  HM.pure (true, ())) (
  HM.bind (α := Int) (HM.strIdx p0 x4.1) fun (x6 : Int) =>
  HM.pure (!(x6 == 46), ()))) fun (x7 : Bool × Unit) =>
  HM.ite x7.1 (
  HM.bind (α := Unit) (HM.storeN ⟨x1, 0, none⟩ [.int .i64 0, .int .i64 0, .int .i64 0, .int .i64 0]) fun (_ : Unit) =>
  HM.bind (α := Int × Int × Int × Int × Unit) (HM.loadN [.int .i64, .int .i64, .int .i64, .int .i64] ⟨x1, 0, none⟩) fun (x8 : Int × Int × Int × Int × Unit) =>
  HM.pure (.inr (.inr (.inr ((x8.1, x8.2.1, x8.2.2.1, x8.2.2.2.1, ()), false, ()))))) (
  HM.pure (.inl (IntKind.wrap .i64 (x4.1 + 1), ())))) (
  HM.pure (.inl (x4.1, ())))) (Sum.elim (fun (x5 : Int × Unit) =>
  HM.bind (α := Int × Int × Unit) (HM.callN Tryz.prog [.one (.int .i64), .one (.int .i64)] 63 #[.string p0, .int .i64 x5.1]) fun (x9 : Int × Int × Unit) =>
  HM.ite (decide (x9.1 < (0 : Int))) (
  HM.bind (α := Unit) (HM.storeN ⟨x1, 0, none⟩ [.int .i64 0, .int .i64 0, .int .i64 0, .int .i64 0]) fun (_ : Unit) =>
  HM.bind (α := Int × Int × Int × Int × Unit) (HM.loadN [.int .i64, .int .i64, .int .i64, .int .i64] ⟨x1, 0, none⟩) fun (x10 : Int × Int × Int × Int × Unit) =>
  HM.pure (.inr (.inr ((x10.1, x10.2.1, x10.2.2.1, x10.2.2.2.1, ()), false, ())))) (
  HM.bind (α := Addr) (HM.idx (some ⟨x2, 0, none⟩) 4 x4.2.1 1) fun (x11 : Addr) =>
  HM.bind (α := Unit) (HM.store1 x11 (.int .i64 x9.1)) fun (_ : Unit) =>
  HM.pure (.inl (x9.2.1, IntKind.wrap .i64 (x4.2.1 + 1), ())))) HM.pure)) (
  HM.pure (.inr (.inl (x4.1, x4.2.1, ()))))) (0, 0, ())) (Sum.elim (fun (x3 : Int × Int × Unit) =>
  HM.bind (α := Addr) (HM.idx (some ⟨x2, 0, none⟩) 4 0 1) fun (x12 : Addr) =>
  HM.bind (α := Int) (HM.load1 (.int .i64) x12) fun (x13 : Int) =>
  HM.bind (α := Addr) (HM.idx (some ⟨x2, 0, none⟩) 4 1 1) fun (x14 : Addr) =>
  HM.bind (α := Int) (HM.load1 (.int .i64) x14) fun (x15 : Int) =>
  HM.bind (α := Addr) (HM.idx (some ⟨x2, 0, none⟩) 4 2 1) fun (x16 : Addr) =>
  HM.bind (α := Int) (HM.load1 (.int .i64) x16) fun (x17 : Int) =>
  HM.bind (α := Addr) (HM.idx (some ⟨x2, 0, none⟩) 4 3 1) fun (x18 : Addr) =>
  HM.bind (α := Int) (HM.load1 (.int .i64) x18) fun (x19 : Int) =>
  HM.bind (α := Nat) (HM.new (.cells #[.int .i64 0, .int .i64 0, .int .i64 0, .int .i64 0] 55)) fun (x20 : Nat) =>
  HM.bind (α := Unit) (HM.storeN ⟨x20, 0, none⟩ [.int .i64 x13, .int .i64 x15, .int .i64 x17, .int .i64 x19]) fun (_ : Unit) =>
  HM.bind (α := Int × Int × Int × Int × Unit) (HM.loadN [.int .i64, .int .i64, .int .i64, .int .i64] ⟨x20, 0, none⟩) fun (x21 : Int × Int × Int × Int × Unit) =>
  HM.bind (α := Bool) (HM.call1 Tryz.prog (.one .bool) 64 #[.agg #[.int .i64 x21.1, .int .i64 x21.2.1, .int .i64 x21.2.2.1, .int .i64 x21.2.2.2.1]]) fun (x22 : Bool) =>
  HM.bind (α := Bool × Unit) (HM.ite (!x22) (
  HM.pure (true, ())) (
  HM.pure (decide (x3.1 < (((ByteArray.size p0 : Nat) : Int) : Int)), ()))) fun (x23 : Bool × Unit) =>
  HM.ite x23.1 (
  HM.bind (α := Unit) (HM.storeN ⟨x1, 0, none⟩ [.int .i64 0, .int .i64 0, .int .i64 0, .int .i64 0]) fun (_ : Unit) =>
  HM.bind (α := Int × Int × Int × Int × Unit) (HM.loadN [.int .i64, .int .i64, .int .i64, .int .i64] ⟨x1, 0, none⟩) fun (x24 : Int × Int × Int × Int × Unit) =>
  HM.pure ((x24.1, x24.2.1, x24.2.2.1, x24.2.2.2.1, ()), false, ())) (
  HM.bind (α := Int × Int × Int × Int × Unit) (HM.loadN [.int .i64, .int .i64, .int .i64, .int .i64] ⟨x20, 0, none⟩) fun (x25 : Int × Int × Int × Int × Unit) =>
  HM.bind (α := Unit) (HM.storeN ⟨x1, 0, none⟩ [.int .i64 x25.1, .int .i64 x25.2.1, .int .i64 x25.2.2.1, .int .i64 x25.2.2.2.1]) fun (_ : Unit) =>
  HM.bind (α := Int × Int × Int × Int × Unit) (HM.loadN [.int .i64, .int .i64, .int .i64, .int .i64] ⟨x1, 0, none⟩) fun (x26 : Int × Int × Int × Int × Unit) =>
  HM.pure ((x26.1, x26.2.1, x26.2.2.1, x26.2.2.2.1, ()), true, ()))) HM.pure)

theorem ref16_Parse_den (p0 : ByteArray) : denFn Tryz.prog [63, 64] 65 [0, 2, 3, 4, 5, 6, 7, 8, 9, 10, 12, 16, 26, 37, 62] [0, 2, 4, 5, 6, 7, 8, 9, 10, 12, 16, 26, 37, 62] Tryz.f33.results.toList [.agg [.int .i64, .int .i64, .int .i64, .int .i64], .one .bool] (bodyOf Tryz.f33) [Kind.val (.one .str) p0] = ref16_Parse p0 := by kernel_rfl
theorem ref16_Parse_calls (p0 : ByteArray) (h : Heap) (Q : Value → Heap → Prop) (hh : ref16_Parse p0 h fun x h' => Q (.tuple #[.agg #[.int .i64 x.1.1, .int .i64 x.1.2.1, .int .i64 x.1.2.2.1, .int .i64 x.1.2.2.2.1], .bool x.2.1]) h') :
    HCalls Tryz.prog 33 #[.string p0] h Q := by
  rw [← ref16_Parse_den] at hh
  exact calls_of_den Tryz.func33 (by kernel_rfl) Tryz.ntmps33 (by kernel_rfl) (fun f hf => by
      rcases List.mem_cons.1 hf with rfl | hf
      · exact Tryz.call63
      rcases List.mem_cons.1 hf with rfl | hf
      · exact Tryz.call64
      cases hf) orders hh

/-- aqueduct/bridge.Delay -/
def bridge_Delay (p0 : Int) (p1 : Int) (p2 : Int) (p3 : Int) : HM (Int × Unit) :=
  HM.bind (α := Int × Int × Unit) (HM.loop (σ := Int × Int × Unit) (τ := Int × Int × Unit) (fun (x2 : Int × Int × Unit) =>
  HM.bind (α := Bool × Unit) (HM.ite (decide (0 < (x2.2.1 : Int))) (
  HM.pure (decide (x2.1 < ((if (if 1 < ((if 1048576 < (p1 : Int) then 1048576 else p1) : Int) then (if 1048576 < (p1 : Int) then 1048576 else p1) else 1) < ((if 1048576 < (p2 : Int) then 1048576 else p2) : Int) then (if 1048576 < (p2 : Int) then 1048576 else p2) else (if 1 < ((if 1048576 < (p1 : Int) then 1048576 else p1) : Int) then (if 1048576 < (p1 : Int) then 1048576 else p1) else 1)) : Int)), ())) (
  HM.pure (false, ()))) fun (x3 : Bool × Unit) =>
  HM.ite x3.1 (
  HM.pure (.inl (IntKind.wrap .i64 (x2.1 * 2), IntKind.wrap .i64 (x2.2.1 - 1), ()))) (
  HM.pure (.inr (x2.1, x2.2.1, ())))) (if 1 < ((if 1048576 < (p1 : Int) then 1048576 else p1) : Int) then (if 1048576 < (p1 : Int) then 1048576 else p1) else 1, p0, ())) fun (x1 : Int × Int × Unit) =>
  HM.req (2 ≠ (0 : Int)) <|
  HM.req ((IntKind.wrap .u64 (IntKind.wrap .i64 ((IntKind.wrap .i64 (Int.tdiv (if (if (if 1 < ((if 1048576 < (p1 : Int) then 1048576 else p1) : Int) then (if 1048576 < (p1 : Int) then 1048576 else p1) else 1) < ((if 1048576 < (p2 : Int) then 1048576 else p2) : Int) then (if 1048576 < (p2 : Int) then 1048576 else p2) else (if 1 < ((if 1048576 < (p1 : Int) then 1048576 else p1) : Int) then (if 1048576 < (p1 : Int) then 1048576 else p1) else 1)) < (x1.1 : Int) then (if (if 1 < ((if 1048576 < (p1 : Int) then 1048576 else p1) : Int) then (if 1048576 < (p1 : Int) then 1048576 else p1) else 1) < ((if 1048576 < (p2 : Int) then 1048576 else p2) : Int) then (if 1048576 < (p2 : Int) then 1048576 else p2) else (if 1 < ((if 1048576 < (p1 : Int) then 1048576 else p1) : Int) then (if 1048576 < (p1 : Int) then 1048576 else p1) else 1)) else x1.1) 2)) + 1))) ≠ (0 : Int)) <|
  HM.pure (IntKind.wrap .i64 ((if (if (if 1 < ((if 1048576 < (p1 : Int) then 1048576 else p1) : Int) then (if 1048576 < (p1 : Int) then 1048576 else p1) else 1) < ((if 1048576 < (p2 : Int) then 1048576 else p2) : Int) then (if 1048576 < (p2 : Int) then 1048576 else p2) else (if 1 < ((if 1048576 < (p1 : Int) then 1048576 else p1) : Int) then (if 1048576 < (p1 : Int) then 1048576 else p1) else 1)) < (x1.1 : Int) then (if (if 1 < ((if 1048576 < (p1 : Int) then 1048576 else p1) : Int) then (if 1048576 < (p1 : Int) then 1048576 else p1) else 1) < ((if 1048576 < (p2 : Int) then 1048576 else p2) : Int) then (if 1048576 < (p2 : Int) then 1048576 else p2) else (if 1 < ((if 1048576 < (p1 : Int) then 1048576 else p1) : Int) then (if 1048576 < (p1 : Int) then 1048576 else p1) else 1)) else x1.1) + (IntKind.wrap .i64 (Int.tmod p3 (IntKind.wrap .u64 (IntKind.wrap .i64 ((IntKind.wrap .i64 (Int.tdiv (if (if (if 1 < ((if 1048576 < (p1 : Int) then 1048576 else p1) : Int) then (if 1048576 < (p1 : Int) then 1048576 else p1) else 1) < ((if 1048576 < (p2 : Int) then 1048576 else p2) : Int) then (if 1048576 < (p2 : Int) then 1048576 else p2) else (if 1 < ((if 1048576 < (p1 : Int) then 1048576 else p1) : Int) then (if 1048576 < (p1 : Int) then 1048576 else p1) else 1)) < (x1.1 : Int) then (if (if 1 < ((if 1048576 < (p1 : Int) then 1048576 else p1) : Int) then (if 1048576 < (p1 : Int) then 1048576 else p1) else 1) < ((if 1048576 < (p2 : Int) then 1048576 else p2) : Int) then (if 1048576 < (p2 : Int) then 1048576 else p2) else (if 1 < ((if 1048576 < (p1 : Int) then 1048576 else p1) : Int) then (if 1048576 < (p1 : Int) then 1048576 else p1) else 1)) else x1.1) 2)) + 1)))))), ())

theorem bridge_Delay_den (p0 : Int) (p1 : Int) (p2 : Int) (p3 : Int) : denFn Tryz.prog [] 40 [0, 1, 2, 3, 8, 9, 23] [0, 1, 2, 3, 9, 23] Tryz.f34.results.toList [.one (.int .i64)] (bodyOf Tryz.f34) [Kind.val (.one (.int .i64)) p0, Kind.val (.one (.int .i64)) p1, Kind.val (.one (.int .i64)) p2, Kind.val (.one (.int .u64)) p3] = bridge_Delay p0 p1 p2 p3 := by kernel_rfl
theorem bridge_Delay_calls (p0 : Int) (p1 : Int) (p2 : Int) (p3 : Int) (h : Heap) (Q : Value → Heap → Prop) (hh : bridge_Delay p0 p1 p2 p3 h fun x h' => Q (.int .i64 x.1) h') :
    HCalls Tryz.prog 34 #[.int .i64 p0, .int .i64 p1, .int .i64 p2, .int .u64 p3] h Q := by
  rw [← bridge_Delay_den] at hh
  exact calls_of_den Tryz.func34 (by kernel_rfl) Tryz.ntmps34 (by kernel_rfl) (fun f hf => by cases hf) orders hh

/-- (aqueduct/remap.Rule).Check -/
def remap_Rule_Check (p0 : ByteArray × Int × Int × ByteArray × ByteArray × Unit) : HM (Int × Unit) :=
  HM.bind (α := Nat) (HM.new (.cells #[.string p0.1, .int .i64 p0.2.1, .int .i64 p0.2.2.1, .string p0.2.2.2.1, .string p0.2.2.2.2.1] 123)) fun (x1 : Nat) =>
  HM.bind (α := ByteArray) (HM.load1 .str (Addr.add ⟨x1, 0, none⟩ 0)) fun (x2 : ByteArray) =>
  HM.bind (α := Int) (HM.call1 Tryz.prog (.one (.int .u8)) 65 #[.string x2]) fun (x3 : Int) =>
  HM.ite (!(x3 == 0)) (
  HM.pure (143, ())) (
  HM.bind (α := Bool × Unit) (HM.bind (α := ByteArray) (HM.load1 .str (Addr.add ⟨x1, 0, none⟩ 3)) fun (x4 : ByteArray) =>
  HM.bind (α := Bool) (HM.call1 Tryz.prog (.one .bool) 66 #[.string x4]) fun (x5 : Bool) =>
  HM.ite (!x5) (
  HM.pure (true, ())) (
  HM.bind (α := ByteArray) (HM.load1 .str (Addr.add ⟨x1, 0, none⟩ 4)) fun (x6 : ByteArray) =>
  HM.bind (α := Bool) (HM.call1 Tryz.prog (.one .bool) 66 #[.string x6]) fun (x7 : Bool) =>
  HM.pure (!x7, ()))) fun (x8 : Bool × Unit) =>
  HM.ite x8.1 (
  HM.pure (144, ())) (
  HM.bind (α := Bool × Unit) (HM.bind (α := Int) (HM.load1 (.int .i64) (Addr.add ⟨x1, 0, none⟩ 1)) fun (x9 : Int) =>
  HM.ite (decide (x9 < (0 : Int))) (
  HM.pure (true, ())) (
  HM.bind (α := Int) (HM.load1 (.int .i64) (Addr.add ⟨x1, 0, none⟩ 1)) fun (x10 : Int) =>
  HM.pure (decide (2 < (x10 : Int)), ()))) fun (x11 : Bool × Unit) =>
  HM.ite x11.1 (
  HM.pure (128, ())) (
  HM.bind (α := Bool × Unit) (HM.bind (α := Int) (HM.load1 (.int .i64) (Addr.add ⟨x1, 0, none⟩ 2)) fun (x12 : Int) =>
  HM.ite (decide (x12 < (0 : Int))) (
  HM.pure (true, ())) (
  HM.bind (α := Int) (HM.load1 (.int .i64) (Addr.add ⟨x1, 0, none⟩ 2)) fun (x13 : Int) =>
  HM.pure (decide (2 < (x13 : Int)), ()))) fun (x14 : Bool × Unit) =>
  HM.ite x14.1 (
  HM.pure (155, ())) (
  HM.pure (0, ())))))

theorem remap_Rule_Check_den (p0 : ByteArray × Int × Int × ByteArray × ByteArray × Unit) : denFn Tryz.prog [65, 66] 37 [0, 1, 2, 3, 8, 19, 28] [0, 1, 3, 8, 19, 28] Tryz.f36.results.toList [.one (.int .u8)] (bodyOf Tryz.f36) [Kind.val (.agg [.str, .int .i64, .int .i64, .str, .str]) p0] = remap_Rule_Check p0 := by kernel_rfl
theorem remap_Rule_Check_calls (p0 : ByteArray × Int × Int × ByteArray × ByteArray × Unit) (h : Heap) (Q : Value → Heap → Prop) (hh : remap_Rule_Check p0 h fun x h' => Q (.int .u8 x.1) h') :
    HCalls Tryz.prog 36 #[.agg #[.string p0.1, .int .i64 p0.2.1, .int .i64 p0.2.2.1, .string p0.2.2.2.1, .string p0.2.2.2.2.1]] h Q := by
  rw [← remap_Rule_Check_den] at hh
  exact calls_of_den Tryz.func36 (by kernel_rfl) Tryz.ntmps36 (by kernel_rfl) (fun f hf => by
      rcases List.mem_cons.1 hf with rfl | hf
      · exact Tryz.call65
      rcases List.mem_cons.1 hf with rfl | hf
      · exact Tryz.call66
      cases hf) orders hh

/-- slices.Clone[[]aqueduct/remap.Rule,aqueduct/remap.Rule] -/
def slices_Clone_Rule (p0 : Slc) : HM (Slc × Unit) :=
  HM.ite (Option.isNone p0.a) (
  HM.pure (⟨none, 0, 0⟩, ())) (
  HM.bind (α := Nat) (HM.new (.cells #[] 123)) fun (x1 : Nat) =>
  HM.bind (α := Slc) (HM.append 123 5 64 #[.string (ByteArray.mk #[]), .int .i64 0, .int .i64 0, .string (ByteArray.mk #[]), .string (ByteArray.mk #[])] (⟨some ⟨x1, 0, none⟩, 0, 0⟩) p0.len (srcSlc 5 p0)) fun (x2 : Slc) =>
  HM.pure (x2, ()))

theorem slices_Clone_Rule_den (p0 : Slc) : denFn Tryz.prog [] 8 [0, 2, 4] [0, 4] Tryz.f37.results.toList [.one .slc] (bodyOf Tryz.f37) [Kind.val (.one .slc) p0] = slices_Clone_Rule p0 := by kernel_rfl
theorem slices_Clone_Rule_calls (p0 : Slc) (h : Heap) (Q : Value → Heap → Prop) (hh : slices_Clone_Rule p0 h fun x h' => Q (.slice x.1.a x.1.len x.1.cap) h') :
    HCalls Tryz.prog 37 #[.slice p0.a p0.len p0.cap] h Q := by
  rw [← slices_Clone_Rule_den] at hh
  exact calls_of_den Tryz.func37 (by kernel_rfl) Tryz.ntmps37 (by kernel_rfl) (fun f hf => by cases hf) orders hh

/-- aqueduct/outflow.New -/
def outflow_New (p0 : Int) : HM (Option Addr × Unit) :=
  HM.bind (α := Option Addr) (HM.call1 Tryz.prog (.one .ptr) 67 #[.int .i64 64]) fun (x1 : Option Addr) =>
  HM.bind (α := Int) (HM.call1 Tryz.prog (.one (.int .i64)) 68 #[.int .i64 p0]) fun (x2 : Int) =>
  HM.bind (α := Nat) (HM.new (.cells #[.pointer x1, .int .i64 x2, .bool false, .slice none 0 0, .slice none 0 0] 178)) fun (x3 : Nat) =>
  HM.pure (some ⟨x3, 0, none⟩, ())

theorem outflow_New_den (p0 : Int) : denFn Tryz.prog [67, 68] 8 [0, 2] [0] Tryz.f38.results.toList [.one .ptr] (bodyOf Tryz.f38) [Kind.val (.one (.int .i64)) p0] = outflow_New p0 := by kernel_rfl
theorem outflow_New_calls (p0 : Int) (h : Heap) (Q : Value → Heap → Prop) (hh : outflow_New p0 h fun x h' => Q (.pointer x.1) h') :
    HCalls Tryz.prog 38 #[.int .i64 p0] h Q := by
  rw [← outflow_New_den] at hh
  exact calls_of_den Tryz.func38 (by kernel_rfl) Tryz.ntmps38 (by kernel_rfl) (fun f hf => by
      rcases List.mem_cons.1 hf with rfl | hf
      · exact Tryz.call67
      rcases List.mem_cons.1 hf with rfl | hf
      · exact Tryz.call68
      cases hf) orders hh

/-- aqueduct/aqueductref10.Check -/
def ref10_Check (p0 : ByteArray × Int × Int × ByteArray × ByteArray × Unit) : HM (Int × Unit) :=
  HM.bind (α := Nat) (HM.new (.cells #[.string p0.1, .int .i64 p0.2.1, .int .i64 p0.2.2.1, .string p0.2.2.2.1, .string p0.2.2.2.2.1] 128)) fun (x1 : Nat) =>
  HM.bind (α := ByteArray) (HM.load1 .str (Addr.add ⟨x1, 0, none⟩ 0)) fun (x2 : ByteArray) =>
  HM.bind (α := Int) (HM.call1 Tryz.prog (.one (.int .i64)) 69 #[.string x2]) fun (x3 : Int) =>
  HM.bind (α := ByteArray) (HM.load1 .str (Addr.add ⟨x1, 0, none⟩ 3)) fun (x4 : ByteArray) =>
  HM.bind (α := Int) (HM.call1 Tryz.prog (.one (.int .i64)) 70 #[.string x4]) fun (x5 : Int) =>
  HM.bind (α := ByteArray) (HM.load1 .str (Addr.add ⟨x1, 0, none⟩ 4)) fun (x6 : ByteArray) =>
  HM.bind (α := Int) (HM.call1 Tryz.prog (.one (.int .i64)) 70 #[.string x6]) fun (x7 : Int) =>
  HM.ite (!(x3 == 0)) (
  HM.pure (143, ())) (
  HM.bind (α := Bool × Unit) (HM.bind (α := ByteArray) (HM.load1 .str (Addr.add ⟨x1, 0, none⟩ 3)) fun (x8 : ByteArray) =>
  HM.ite (!(decide (x8 = (ByteArray.mk #[])))) (
  HM.ite (!(x5 == 0)) (
  HM.pure (true, ())) (
  HM.bind (α := ByteArray) (HM.load1 .str (Addr.add ⟨x1, 0, none⟩ 4)) fun (x9 : ByteArray) =>
  HM.ite (!(decide (x9 = (ByteArray.mk #[])))) (
  HM.pure (!(x7 == 0), ())) (
  HM.pure (false, ())))) (
  HM.bind (α := ByteArray) (HM.load1 .str (Addr.add ⟨x1, 0, none⟩ 4)) fun (x10 : ByteArray) =>
  HM.ite (!(decide (x10 = (ByteArray.mk #[])))) (
  HM.pure (!(x7 == 0), ())) (
  HM.pure (false, ())))) fun (x11 : Bool × Unit) =>
  HM.ite x11.1 (
  HM.pure (144, ())) (
  HM.bind (α := Bool × Unit) (HM.bind (α := Int) (HM.load1 (.int .i64) (Addr.add ⟨x1, 0, none⟩ 1)) fun (x12 : Int) =>
  HM.ite (decide (x12 < (0 : Int))) (
  HM.pure (true, ())) (
  HM.bind (α := Int) (HM.load1 (.int .i64) (Addr.add ⟨x1, 0, none⟩ 1)) fun (x13 : Int) =>
  HM.pure (decide (2 < (x13 : Int)), ()))) fun (x14 : Bool × Unit) =>
  HM.ite x14.1 (
  HM.pure (128, ())) (
  HM.bind (α := Bool × Unit) (HM.bind (α := Int) (HM.load1 (.int .i64) (Addr.add ⟨x1, 0, none⟩ 2)) fun (x15 : Int) =>
  HM.ite (decide (x15 < (0 : Int))) (
  HM.pure (true, ())) (
  HM.bind (α := Int) (HM.load1 (.int .i64) (Addr.add ⟨x1, 0, none⟩ 2)) fun (x16 : Int) =>
  HM.pure (decide (2 < (x16 : Int)), ()))) fun (x17 : Bool × Unit) =>
  HM.ite x17.1 (
  HM.pure (155, ())) (
  HM.pure (0, ())))))

theorem ref10_Check_den (p0 : ByteArray × Int × Int × ByteArray × ByteArray × Unit) : denFn Tryz.prog [69, 70] 49 [0, 1, 2, 3, 4, 5, 16, 32, 40, 48] [0, 1, 3, 4, 5, 16, 32, 40, 48] Tryz.f39.results.toList [.one (.int .i64)] (bodyOf Tryz.f39) [Kind.val (.agg [.str, .int .i64, .int .i64, .str, .str]) p0] = ref10_Check p0 := by kernel_rfl
theorem ref10_Check_calls (p0 : ByteArray × Int × Int × ByteArray × ByteArray × Unit) (h : Heap) (Q : Value → Heap → Prop) (hh : ref10_Check p0 h fun x h' => Q (.int .i64 x.1) h') :
    HCalls Tryz.prog 39 #[.agg #[.string p0.1, .int .i64 p0.2.1, .int .i64 p0.2.2.1, .string p0.2.2.2.1, .string p0.2.2.2.2.1]] h Q := by
  rw [← ref10_Check_den] at hh
  exact calls_of_den Tryz.func39 (by kernel_rfl) Tryz.ntmps39 (by kernel_rfl) (fun f hf => by
      rcases List.mem_cons.1 hf with rfl | hf
      · exact Tryz.call69
      rcases List.mem_cons.1 hf with rfl | hf
      · exact Tryz.call70
      cases hf) orders hh

/-- (aqueduct/remap.Rule).ToRemote -/
def remap_Rule_ToRemote (p0 : ByteArray × Int × Int × ByteArray × ByteArray × Unit) (p1 : ByteArray) : HM (ByteArray × Bool × Unit) :=
  HM.bind (α := Nat) (HM.new (.cells #[.string p0.1, .int .i64 p0.2.1, .int .i64 p0.2.2.1, .string p0.2.2.2.1, .string p0.2.2.2.2.1] 123)) fun (x1 : Nat) =>
  HM.bind (α := Int) (HM.load1 (.int .i64) (Addr.add ⟨x1, 0, none⟩ 1)) fun (x2 : Int) =>
  HM.ite (x2 == 1) (
  HM.pure (ByteArray.mk #[], false, ())) (
  HM.bind (α := ByteArray × Int × Int × ByteArray × ByteArray × Unit) (HM.loadN [.str, .int .i64, .int .i64, .str, .str] ⟨x1, 0, none⟩) fun (x3 : ByteArray × Int × Int × ByteArray × ByteArray × Unit) =>
  HM.bind (α := ByteArray) (HM.load1 .str (Addr.add ⟨x1, 0, none⟩ 3)) fun (x4 : ByteArray) =>
  HM.bind (α := ByteArray) (HM.load1 .str (Addr.add ⟨x1, 0, none⟩ 4)) fun (x5 : ByteArray) =>
  HM.bind (α := ByteArray × Bool × Unit) (HM.callN Tryz.prog [.one .str, .one .bool] 97 #[.agg #[.string x3.1, .int .i64 x3.2.1, .int .i64 x3.2.2.1, .string x3.2.2.2.1, .string x3.2.2.2.2.1], .string p1, .string x4, .string x5]) fun (x6 : ByteArray × Bool × Unit) =>
  HM.pure (x6.1, x6.2.1, ()))

theorem remap_Rule_ToRemote_den (p0 : ByteArray × Int × Int × ByteArray × ByteArray × Unit) (p1 : ByteArray) : denFn Tryz.prog [97] 18 [0, 1, 2, 4, 5, 8] [0, 1, 2, 8] Tryz.f56.results.toList [.one .str, .one .bool] (bodyOf Tryz.f56) [Kind.val (.agg [.str, .int .i64, .int .i64, .str, .str]) p0, Kind.val (.one .str) p1] = remap_Rule_ToRemote p0 p1 := by kernel_rfl
theorem remap_Rule_ToRemote_calls (p0 : ByteArray × Int × Int × ByteArray × ByteArray × Unit) (p1 : ByteArray) (h : Heap) (Q : Value → Heap → Prop) (hh : remap_Rule_ToRemote p0 p1 h fun x h' => Q (.tuple #[.string x.1, .bool x.2.1]) h') :
    HCalls Tryz.prog 56 #[.agg #[.string p0.1, .int .i64 p0.2.1, .int .i64 p0.2.2.1, .string p0.2.2.2.1, .string p0.2.2.2.2.1], .string p1] h Q := by
  rw [← remap_Rule_ToRemote_den] at hh
  exact calls_of_den Tryz.func56 (by kernel_rfl) Tryz.ntmps56 (by kernel_rfl) (fun f hf => by
      rcases List.mem_cons.1 hf with rfl | hf
      · exact Tryz.call97
      cases hf) orders hh

/-- (aqueduct/tags.Label).good -/
def tags_Label_good (p0 : Int × Int × Int × Int × Unit) : HM (Bool × Unit) :=
  HM.bind (α := Nat) (HM.new (.cells #[.int .i64 p0.1, .int .i64 p0.2.1, .int .i64 p0.2.2.1, .int .i64 p0.2.2.2.1] 49)) fun (x1 : Nat) =>
  HM.bind (α := Bool × Unit) (HM.bind (α := Int × Int × Unit) (HM.loadN [.int .i64, .int .i64] (Addr.add ⟨x1, 0, none⟩ 0)) fun (x2 : Int × Int × Unit) =>
  HM.bind (α := Bool) (HM.call1 Tryz.prog (.one .bool) 98 #[.agg #[.int .i64 x2.1, .int .i64 x2.2.1]]) fun (x3 : Bool) =>
  HM.ite x3 (
  HM.bind (α := Int) (HM.load1 (.int .i64) (Addr.add ⟨x1, 0, none⟩ 2)) fun (x4 : Int) =>
  HM.ite (decide (0 ≤ (x4 : Int))) (
  HM.bind (α := Int) (HM.load1 (.int .i64) (Addr.add ⟨x1, 0, none⟩ 2)) fun (x5 : Int) =>
  HM.ite (decide (x5 ≤ (32 : Int))) (
  HM.bind (α := Int) (HM.load1 (.int .i64) (Addr.add ⟨x1, 0, none⟩ 3)) fun (x6 : Int) =>
  HM.ite (decide (0 ≤ (x6 : Int))) (
  HM.bind (α := Int) (HM.load1 (.int .i64) (Addr.add ⟨x1, 0, none⟩ 3)) fun (x7 : Int) =>
  HM.pure (decide (x7 ≤ (2 : Int)), ())) (
  HM.pure (false, ()))) (
  HM.pure (false, ()))) (
  HM.pure (false, ()))) (
  HM.pure (false, ()))) fun (x8 : Bool × Unit) =>
  HM.pure (x8.1, ())

theorem tags_Label_good_den (p0 : Int × Int × Int × Int × Unit) : denFn Tryz.prog [98] 26 [0, 1, 2] [0, 1] Tryz.f57.results.toList [.one .bool] (bodyOf Tryz.f57) [Kind.val (.agg [.int .i64, .int .i64, .int .i64, .int .i64]) p0] = tags_Label_good p0 := by kernel_rfl
theorem tags_Label_good_calls (p0 : Int × Int × Int × Int × Unit) (h : Heap) (Q : Value → Heap → Prop) (hh : tags_Label_good p0 h fun x h' => Q (.bool x.1) h') :
    HCalls Tryz.prog 57 #[.agg #[.int .i64 p0.1, .int .i64 p0.2.1, .int .i64 p0.2.2.1, .int .i64 p0.2.2.2.1]] h Q := by
  rw [← tags_Label_good_den] at hh
  exact calls_of_den Tryz.func57 (by kernel_rfl) Tryz.ntmps57 (by kernel_rfl) (fun f hf => by
      rcases List.mem_cons.1 hf with rfl | hf
      · exact Tryz.call98
      cases hf) orders hh

/-- aqueduct/aqueductref16.number -/
def ref16_number (p0 : ByteArray) (p1 : Int) : HM (Int × Int × Unit) :=
  HM.bind (α := (Int × Int × Unit) ⊕ (Int × Int × Unit)) (HM.loop (σ := Int × Int × Unit) (τ := (Int × Int × Unit) ⊕ (Int × Int × Unit)) (fun (x2 : Int × Int × Unit) =>
  HM.bind (α := Bool × Unit) (HM.ite (decide (x2.2.1 < (((ByteArray.size p0 : Nat) : Int) : Int))) (
  HM.bind (α := Int) (HM.strIdx p0 x2.2.1) fun (x3 : Int) =>
  HM.ite (decide (48 ≤ (x3 : Int))) (
  HM.bind (α := Int) (HM.strIdx p0 x2.2.1) fun (x4 : Int) =>
  HM.pure (decide (x4 ≤ (57 : Int)), ())) (
  HM.pure (false, ()))) (
  HM.pure (false, ()))) fun (x5 : Bool × Unit) =>
  HM.ite x5.1 (
  HM.ite (decide (17 ≤ ((IntKind.wrap .i64 (x2.2.1 - p1)) : Int))) (
  HM.pure (.inr (.inr ((-1), p1, ())))) (
  HM.bind (α := Int) (HM.strIdx p0 x2.2.1) fun (x6 : Int) =>
  HM.pure (.inl (IntKind.wrap .i64 ((IntKind.wrap .i64 (10 * x2.1)) + (IntKind.wrap .i64 (IntKind.wrap .u8 (x6 - 48)))), IntKind.wrap .i64 (x2.2.1 + 1), ())))) (
  HM.pure (.inr (.inl (x2.1, x2.2.1, ()))))) (0, p1, ())) (Sum.elim (fun (x1 : Int × Int × Unit) =>
  HM.bind (α := Bool × Unit) (HM.ite (x1.2.1 == p1) (
  HM.pure (true, ())) (
  HM.bind (α := Int) (HM.strIdx p0 p1) fun (x7 : Int) =>
  HM.ite (x7 == 48) (
  HM.pure (decide ((IntKind.wrap .i64 (p1 + 1)) < (x1.2.1 : Int)), ())) (
  HM.pure (false, ())))) fun (x8 : Bool × Unit) =>
  HM.ite x8.1 (
  HM.pure ((-1), p1, ())) (
  HM.pure (x1.1, x1.2.1, ()))) HM.pure)

theorem ref16_number_den (p0 : ByteArray) (p1 : Int) : denFn Tryz.prog [] 58 [0, 1, 4, 5, 6, 7, 24, 28, 54] [0, 1, 6, 7, 24, 28, 54] Tryz.f63.results.toList [.one (.int .i64), .one (.int .i64)] (bodyOf Tryz.f63) [Kind.val (.one .str) p0, Kind.val (.one (.int .i64)) p1] = ref16_number p0 p1 := by kernel_rfl
theorem ref16_number_calls (p0 : ByteArray) (p1 : Int) (h : Heap) (Q : Value → Heap → Prop) (hh : ref16_number p0 p1 h fun x h' => Q (.tuple #[.int .i64 x.1, .int .i64 x.2.1]) h') :
    HCalls Tryz.prog 63 #[.string p0, .int .i64 p1] h Q := by
  rw [← ref16_number_den] at hh
  exact calls_of_den Tryz.func63 (by kernel_rfl) Tryz.ntmps63 (by kernel_rfl) (fun f hf => by cases hf) orders hh

/-- aqueduct/aqueductref16.goodLabel -/
def ref16_goodLabel (p0 : Int × Int × Int × Int × Unit) : HM (Bool × Unit) :=
  HM.bind (α := Nat) (HM.new (.cells #[.int .i64 p0.1, .int .i64 p0.2.1, .int .i64 p0.2.2.1, .int .i64 p0.2.2.2.1] 55)) fun (x1 : Nat) =>
  HM.bind (α := Int × Int × Unit) (HM.loadN [.int .i64, .int .i64] (Addr.add ⟨x1, 0, none⟩ 0)) fun (x2 : Int × Int × Unit) =>
  HM.bind (α := Bool) (HM.call1 Tryz.prog (.one .bool) 106 #[.agg #[.int .i64 x2.1, .int .i64 x2.2.1]]) fun (x3 : Bool) =>
  HM.bind (α := Bool × Unit) (HM.ite x3 (
  HM.bind (α := Int) (HM.load1 (.int .i64) (Addr.add ⟨x1, 0, none⟩ 2)) fun (x4 : Int) =>
  HM.ite (decide (0 ≤ (x4 : Int))) (
  HM.bind (α := Int) (HM.load1 (.int .i64) (Addr.add ⟨x1, 0, none⟩ 2)) fun (x5 : Int) =>
  HM.ite (decide (x5 ≤ (32 : Int))) (
  HM.bind (α := Int) (HM.load1 (.int .i64) (Addr.add ⟨x1, 0, none⟩ 3)) fun (x6 : Int) =>
  HM.ite (decide (0 ≤ (x6 : Int))) (
  HM.bind (α := Int) (HM.load1 (.int .i64) (Addr.add ⟨x1, 0, none⟩ 3)) fun (x7 : Int) =>
  HM.pure (decide (x7 < (3 : Int)), ())) (
  HM.pure (false, ()))) (
  HM.pure (false, ()))) (
  HM.pure (false, ()))) (
  HM.pure (false, ()))) fun (x8 : Bool × Unit) =>
  HM.pure (x8.1, ())

theorem ref16_goodLabel_den (p0 : Int × Int × Int × Int × Unit) : denFn Tryz.prog [106] 28 [0, 1, 2, 3] [0, 1, 3] Tryz.f64.results.toList [.one .bool] (bodyOf Tryz.f64) [Kind.val (.agg [.int .i64, .int .i64, .int .i64, .int .i64]) p0] = ref16_goodLabel p0 := by kernel_rfl
theorem ref16_goodLabel_calls (p0 : Int × Int × Int × Int × Unit) (h : Heap) (Q : Value → Heap → Prop) (hh : ref16_goodLabel p0 h fun x h' => Q (.bool x.1) h') :
    HCalls Tryz.prog 64 #[.agg #[.int .i64 p0.1, .int .i64 p0.2.1, .int .i64 p0.2.2.1, .int .i64 p0.2.2.2.1]] h Q := by
  rw [← ref16_goodLabel_den] at hh
  exact calls_of_den Tryz.func64 (by kernel_rfl) Tryz.ntmps64 (by kernel_rfl) (fun f hf => by
      rcases List.mem_cons.1 hf with rfl | hf
      · exact Tryz.call106
      cases hf) orders hh

/-- aqueduct/topic.CheckFilter -/
def topic_CheckFilter (p0 : ByteArray) : HM (Int × Unit) :=
  HM.bind (α := Bool) (HM.call1 Tryz.prog (.one .bool) 107 #[.string p0]) fun (x1 : Bool) =>
  HM.ite (!x1) (
  HM.pure (143, ())) (
  HM.bind (α := Slc) (HM.call1 Tryz.prog (.one .slc) 108 #[.string p0]) fun (x2 : Slc) =>
  HM.bind (α := (Int × Unit) ⊕ (Int × Unit)) (HM.loop (σ := Int × Unit) (τ := (Int × Unit) ⊕ (Int × Unit)) (fun (x4 : Int × Unit) =>
  HM.ite (decide (x4.1 < (((x2.len : Nat) : Int) : Int))) (
  HM.bind (α := Addr) (HM.idx x2.a x2.len x4.1 1) fun (x5 : Addr) =>
  HM.bind (α := ByteArray) (HM.load1 .str x5) fun (x6 : ByteArray) =>
  HM.bind (α := (Unit) ⊕ ((Int × Unit) ⊕ ((Int × Unit) ⊕ (Int × Unit)))) (HM.bind (α := (Unit) ⊕ ((Unit) ⊕ ((Int × Unit) ⊕ ((Int × Unit) ⊕ (Int × Unit))))) (HM.bind (α := (Unit) ⊕ ((Unit) ⊕ ((Unit) ⊕ ((Int × Unit) ⊕ ((Int × Unit) ⊕ (Int × Unit)))))) (HM.bind (α := Bool) (HM.call1 Tryz.prog (.one .bool) 109 #[.string x6, .string (ByteArray.mk #[35])]) fun (x10 : Bool) =>
  HM.ite x10 (
  HM.pure (.inl ())) (
  HM.bind (α := Bool) (HM.call1 Tryz.prog (.one .bool) 109 #[.string x6, .string (ByteArray.mk #[43])]) fun (x11 : Bool) =>
  HM.ite x11 (
  HM.pure (.inr (.inl ()))) (
  HM.pure (.inr (.inr (.inl ())))))) (Sum.elim (fun (x9 : Unit) =>
  HM.ite (decide (x4.1 < ((IntKind.wrap .i64 (((x2.len : Nat) : Int) - 1)) : Int))) (
  HM.pure (.inr (.inr (.inr (.inr (143, ())))))) (
  HM.pure (.inl ()))) HM.pure)) (Sum.elim (fun (x8 : Unit) =>
  HM.ite (decide (1 < (((ByteArray.size x6 : Nat) : Int) : Int))) (
  HM.pure (.inr (.inr (.inr (143, ()))))) (
  HM.pure (.inl ()))) HM.pure)) (Sum.elim (fun (x7 : Unit) =>
  HM.pure (.inl (IntKind.wrap .i64 (x4.1 + 1), ()))) HM.pure)) (
  HM.pure (.inr (.inl (x4.1, ()))))) (0, ())) (Sum.elim (fun (x3 : Int × Unit) =>
  HM.pure (0, ())) HM.pure))

theorem topic_CheckFilter_den (p0 : ByteArray) : denFn Tryz.prog [107, 108, 109] 33 [0, 2, 3, 4, 5, 8, 11, 12, 13, 14, 18, 21, 28, 31] [0, 3, 4, 5, 8, 11, 12, 13, 14, 18, 21, 28, 31] Tryz.f65.results.toList [.one (.int .u8)] (bodyOf Tryz.f65) [Kind.val (.one .str) p0] = topic_CheckFilter p0 := by kernel_rfl
theorem topic_CheckFilter_calls (p0 : ByteArray) (h : Heap) (Q : Value → Heap → Prop) (hh : topic_CheckFilter p0 h fun x h' => Q (.int .u8 x.1) h') :
    HCalls Tryz.prog 65 #[.string p0] h Q := by
  rw [← topic_CheckFilter_den] at hh
  exact calls_of_den Tryz.func65 (by kernel_rfl) Tryz.ntmps65 (by kernel_rfl) (fun f hf => by
      rcases List.mem_cons.1 hf with rfl | hf
      · exact Tryz.call107
      rcases List.mem_cons.1 hf with rfl | hf
      · exact Tryz.call108
      rcases List.mem_cons.1 hf with rfl | hf
      · exact Tryz.call109
      cases hf) orders hh

/-- aqueduct/remap.prefix -/
def remap_prefix (p0 : ByteArray) : HM (Bool × Unit) :=
  HM.bind (α := Bool × Unit) (HM.ite (decide (p0 = (ByteArray.mk #[]))) (
  HM.pure (true, ())) (
  HM.bind (α := Int) (HM.call1 Tryz.prog (.one (.int .u8)) 110 #[.string p0]) fun (x1 : Int) =>
  HM.pure (x1 == 0, ()))) fun (x2 : Bool × Unit) =>
  HM.pure (x2.1, ())

theorem remap_prefix_den (p0 : ByteArray) : denFn Tryz.prog [110] 10 [0, 2] [0] Tryz.f66.results.toList [.one .bool] (bodyOf Tryz.f66) [Kind.val (.one .str) p0] = remap_prefix p0 := by kernel_rfl
theorem remap_prefix_calls (p0 : ByteArray) (h : Heap) (Q : Value → Heap → Prop) (hh : remap_prefix p0 h fun x h' => Q (.bool x.1) h') :
    HCalls Tryz.prog 66 #[.string p0] h Q := by
  rw [← remap_prefix_den] at hh
  exact calls_of_den Tryz.func66 (by kernel_rfl) Tryz.ntmps66 (by kernel_rfl) (fun f hf => by
      rcases List.mem_cons.1 hf with rfl | hf
      · exact Tryz.call110
      cases hf) orders hh

/-- aqueduct/ids.New -/
def ids_New (p0 : Int) : HM (Option Addr × Unit) :=
  HM.bind (α := Nat) (HM.new (.map #[] 0)) fun (x1 : Nat) =>
  HM.bind (α := Nat) (HM.new (.cells #[.int .i64 (if 1 < ((if 64 < (p0 : Int) then 64 else p0) : Int) then (if 64 < (p0 : Int) then 64 else p0) else 1), .int .i64 0, .map (some x1)] 226)) fun (x2 : Nat) =>
  HM.pure (some ⟨x2, 0, none⟩, ())

theorem ids_New_den (p0 : Int) : denFn Tryz.prog [] 9 [0, 2] [0] Tryz.f67.results.toList [.one .ptr] (bodyOf Tryz.f67) [Kind.val (.one (.int .i64)) p0] = ids_New p0 := by kernel_rfl
theorem ids_New_calls (p0 : Int) (h : Heap) (Q : Value → Heap → Prop) (hh : ids_New p0 h fun x h' => Q (.pointer x.1) h') :
    HCalls Tryz.prog 67 #[.int .i64 p0] h Q := by
  rw [← ids_New_den] at hh
  exact calls_of_den Tryz.func67 (by kernel_rfl) Tryz.ntmps67 (by kernel_rfl) (fun f hf => by cases hf) orders hh

/-- aqueduct/outflow.bounded -/
def outflow_bounded (p0 : Int) : HM (Int × Unit) :=
  HM.pure (if 1 < ((if 64 < (p0 : Int) then 64 else p0) : Int) then (if 64 < (p0 : Int) then 64 else p0) else 1, ())

theorem outflow_bounded_den (p0 : Int) : denFn Tryz.prog [] 6 [0, 2] [0] Tryz.f68.results.toList [.one (.int .i64)] (bodyOf Tryz.f68) [Kind.val (.one (.int .i64)) p0] = outflow_bounded p0 := by kernel_rfl
theorem outflow_bounded_calls (p0 : Int) (h : Heap) (Q : Value → Heap → Prop) (hh : outflow_bounded p0 h fun x h' => Q (.int .i64 x.1) h') :
    HCalls Tryz.prog 68 #[.int .i64 p0] h Q := by
  rw [← outflow_bounded_den] at hh
  exact calls_of_den Tryz.func68 (by kernel_rfl) Tryz.ntmps68 (by kernel_rfl) (fun f hf => by cases hf) orders hh

/-- aqueduct/aqueductref07.CheckFilter -/
def ref07_CheckFilter (p0 : ByteArray) : HM (Int × Unit) :=
  HM.bind (α := Bool) (HM.call1 Tryz.prog (.one .bool) 111 #[.string p0]) fun (x1 : Bool) =>
  HM.ite (!x1) (
  HM.pure (143, ())) (
  HM.bind (α := Slc) (HM.call1 Tryz.prog (.one .slc) 112 #[.string p0]) fun (x2 : Slc) =>
  HM.bind (α := (Int × Unit) ⊕ (Int × Unit)) (HM.loop (σ := Int × Unit) (τ := (Int × Unit) ⊕ (Int × Unit)) (fun (x4 : Int × Unit) =>
  HM.ite (decide (x4.1 < (((x2.len : Nat) : Int) : Int))) (
  HM.bind (α := Addr) (HM.idx x2.a x2.len x4.1 1) fun (x5 : Addr) =>
  HM.bind (α := ByteArray) (HM.load1 .str x5) fun (x6 : ByteArray) =>
  HM.bind (α := Bool) (HM.call1 Tryz.prog (.one .bool) 113 #[.string x6, .int .u8 43]) fun (x7 : Bool) =>
  HM.bind (α := Addr) (HM.idx x2.a x2.len x4.1 1) fun (x8 : Addr) =>
  HM.bind (α := ByteArray) (HM.load1 .str x8) fun (x9 : ByteArray) =>
  HM.bind (α := Bool) (HM.call1 Tryz.prog (.one .bool) 113 #[.string x9, .int .u8 35]) fun (x10 : Bool) =>
  HM.bind (α := Bool × Unit) (HM.ite x7 (
  HM.bind (α := Addr) (HM.idx x2.a x2.len x4.1 1) fun (x11 : Addr) =>
  HM.bind (α := ByteArray) (HM.load1 .str x11) fun (x12 : ByteArray) =>
  HM.pure (!(decide (x12 = (ByteArray.mk #[43]))), ())) (
  HM.pure (false, ()))) fun (x13 : Bool × Unit) =>
  HM.ite x13.1 (
  HM.pure (.inr (.inr (143, ())))) (
  HM.bind (α := Bool × Unit) (HM.ite x10 (
  HM.bind (α := Addr) (HM.idx x2.a x2.len x4.1 1) fun (x14 : Addr) =>
  HM.bind (α := ByteArray) (HM.load1 .str x14) fun (x15 : ByteArray) =>
  HM.ite (!(decide (x15 = (ByteArray.mk #[35])))) (
  HM.pure (true, ())) (
  HM.pure (decide (x4.1 < ((IntKind.wrap .i64 (((x2.len : Nat) : Int) - 1)) : Int)), ()))) (
  HM.pure (false, ()))) fun (x16 : Bool × Unit) =>
  HM.ite x16.1 (
  HM.pure (.inr (.inr (143, ())))) (
  HM.pure (.inl (IntKind.wrap .i64 (x4.1 + 1), ()))))) (
  HM.pure (.inr (.inl (x4.1, ()))))) (0, ())) (Sum.elim (fun (x3 : Int × Unit) =>
  HM.pure (0, ())) HM.pure))

theorem ref07_CheckFilter_den (p0 : ByteArray) : denFn Tryz.prog [111, 112, 113] 53 [0, 2, 3, 4, 5, 6, 7, 11, 17, 37, 52] [0, 3, 4, 5, 6, 7, 11, 17, 37, 52] Tryz.f69.results.toList [.one (.int .i64)] (bodyOf Tryz.f69) [Kind.val (.one .str) p0] = ref07_CheckFilter p0 := by kernel_rfl
theorem ref07_CheckFilter_calls (p0 : ByteArray) (h : Heap) (Q : Value → Heap → Prop) (hh : ref07_CheckFilter p0 h fun x h' => Q (.int .i64 x.1) h') :
    HCalls Tryz.prog 69 #[.string p0] h Q := by
  rw [← ref07_CheckFilter_den] at hh
  exact calls_of_den Tryz.func69 (by kernel_rfl) Tryz.ntmps69 (by kernel_rfl) (fun f hf => by
      rcases List.mem_cons.1 hf with rfl | hf
      · exact Tryz.call111
      rcases List.mem_cons.1 hf with rfl | hf
      · exact Tryz.call112
      rcases List.mem_cons.1 hf with rfl | hf
      · exact Tryz.call113
      cases hf) orders hh

/-- aqueduct/aqueductref07.CheckName -/
def ref07_CheckName (p0 : ByteArray) : HM (Int × Unit) :=
  HM.bind (α := Bool) (HM.call1 Tryz.prog (.one .bool) 111 #[.string p0]) fun (x1 : Bool) =>
  HM.bind (α := Bool) (HM.call1 Tryz.prog (.one .bool) 113 #[.string p0, .int .u8 43]) fun (x2 : Bool) =>
  HM.bind (α := Bool) (HM.call1 Tryz.prog (.one .bool) 113 #[.string p0, .int .u8 35]) fun (x3 : Bool) =>
  HM.bind (α := Bool × Unit) (HM.ite (!x1) (
  HM.pure (true, ())) (
  HM.ite x2 (
  HM.pure (true, ())) (
  HM.pure (x3, ())))) fun (x4 : Bool × Unit) =>
  HM.ite x4.1 (
  HM.pure (144, ())) (
  HM.pure (0, ()))

theorem ref07_CheckName_den (p0 : ByteArray) : denFn Tryz.prog [111, 113] 20 [0, 2, 3, 4, 5, 19] [0, 3, 4, 5, 19] Tryz.f70.results.toList [.one (.int .i64)] (bodyOf Tryz.f70) [Kind.val (.one .str) p0] = ref07_CheckName p0 := by kernel_rfl
theorem ref07_CheckName_calls (p0 : ByteArray) (h : Heap) (Q : Value → Heap → Prop) (hh : ref07_CheckName p0 h fun x h' => Q (.int .i64 x.1) h') :
    HCalls Tryz.prog 70 #[.string p0] h Q := by
  rw [← ref07_CheckName_den] at hh
  exact calls_of_den Tryz.func70 (by kernel_rfl) Tryz.ntmps70 (by kernel_rfl) (fun f hf => by
      rcases List.mem_cons.1 hf with rfl | hf
      · exact Tryz.call111
      rcases List.mem_cons.1 hf with rfl | hf
      · exact Tryz.call113
      cases hf) orders hh

/-- aqueduct/aqueductref16.Decimal -/
def ref16_Decimal (p0 : Int) : HM (ByteArray × Unit) :=
  HM.bind (α := ByteArray × Int × Unit) (HM.loop (σ := ByteArray × Int × Unit) (τ := ByteArray × Int × Unit) (fun (x2 : ByteArray × Int × Unit) =>
  HM.bind (α := Bool × Unit) (HM.ite (decide (0 < (x2.2.1 : Int))) (
  HM.pure (true, ())) (
  HM.pure (decide (x2.1 = (ByteArray.mk #[])), ()))) fun (x3 : Bool × Unit) =>
  HM.ite x3.1 (
  HM.req (10 ≠ (0 : Int)) <|
  HM.bind (α := Nat) (HM.new (.cells #[.int .u8 (IntKind.wrap .u8 (IntKind.wrap .i64 (48 + (Int.tmod x2.2.1 10))))] 5)) fun (x4 : Nat) =>
  HM.bind (α := ByteArray) (HM.strOf (⟨some ⟨x4, 0, none⟩, 1, 1⟩)) fun (x5 : ByteArray) =>
  HM.req (ByteArray.size x5 + ByteArray.size x2.1 ≤ 9223372036854775807) <|
  HM.req (10 ≠ (0 : Int)) <|
  HM.pure (.inl (x5 ++ x2.1, IntKind.wrap .i64 (Int.tdiv x2.2.1 10), ()))) (
  HM.pure (.inr (x2.1, x2.2.1, ())))) (ByteArray.mk #[], p0, ())) fun (x1 : ByteArray × Int × Unit) =>
  HM.pure (x1.1, ())

theorem ref16_Decimal_den (p0 : Int) : denFn Tryz.prog [] 21 [0, 2, 3, 9] [0, 3, 9] Tryz.f72.results.toList [.one .str] (bodyOf Tryz.f72) [Kind.val (.one (.int .i64)) p0] = ref16_Decimal p0 := by kernel_rfl
theorem ref16_Decimal_calls (p0 : Int) (h : Heap) (Q : Value → Heap → Prop) (hh : ref16_Decimal p0 h fun x h' => Q (.string x.1) h') :
    HCalls Tryz.prog 72 #[.int .i64 p0] h Q := by
  rw [← ref16_Decimal_den] at hh
  exact calls_of_den Tryz.func72 (by kernel_rfl) Tryz.ntmps72 (by kernel_rfl) (fun f hf => by cases hf) orders hh

/-- aqueduct/varint.Fixed -/
def varint_Fixed (p0 : Int) (p1 : Int) : HM (ByteArray × Int × Unit) :=
  HM.bind (α := Bool) (HM.call1 Tryz.prog (.one .bool) 127 #[.int .i64 p0]) fun (x1 : Bool) =>
  HM.ite (!x1) (
  HM.pure (ByteArray.mk #[], 128, ())) (
  HM.bind (α := Bool × Unit) (HM.ite (decide (p1 < (0 : Int))) (
  HM.pure (true, ())) (
  HM.req ((0 : Int) ≤ (IntKind.wrap .i64 (8 * p0))) <|
  HM.pure (decide ((IntKind.wrap .i64 (1 * 2 ^ (min (Int.toNat (IntKind.wrap .i64 (8 * p0))) (IntKind.bits .i64)))) ≤ (p1 : Int)), ()))) fun (x2 : Bool × Unit) =>
  HM.ite x2.1 (
  HM.pure (ByteArray.mk #[], 129, ())) (
  HM.bind (α := Slc × Int × Unit) (HM.loop (σ := Slc × Int × Unit) (τ := Slc × Int × Unit) (fun (x4 : Slc × Int × Unit) =>
  HM.ite (decide (0 ≤ (x4.2.1 : Int))) (
  HM.req ((0 : Int) ≤ (IntKind.wrap .i64 (8 * x4.2.1))) <|
  HM.bind (α := Nat) (HM.new (.cells #[.int .u8 (IntKind.wrap .u8 (Int.fdiv p1 (2 ^ (min (Int.toNat (IntKind.wrap .i64 (8 * x4.2.1))) (IntKind.bits .i64)))))] 5)) fun (x5 : Nat) =>
  HM.bind (α := Slc) (HM.append 5 1 1 #[.int .u8 0] x4.1 1 (srcSlc 1 (⟨some ⟨x5, 0, none⟩, 1, 1⟩))) fun (x6 : Slc) =>
  HM.pure (.inl (x6, IntKind.wrap .i64 (x4.2.1 - 1), ()))) (
  HM.pure (.inr (x4.1, x4.2.1, ())))) (⟨none, 0, 0⟩, IntKind.wrap .i64 (p0 - 1), ())) fun (x3 : Slc × Int × Unit) =>
  HM.bind (α := ByteArray) (HM.strOf x3.1) fun (x7 : ByteArray) =>
  HM.pure (x7, 0, ())))

theorem varint_Fixed_den (p0 : Int) (p1 : Int) : denFn Tryz.prog [127] 38 [0, 1, 4, 5, 6, 7, 8, 12, 25] [0, 1, 6, 7, 8, 12, 25] Tryz.f88.results.toList [.one .str, .one (.int .u8)] (bodyOf Tryz.f88) [Kind.val (.one (.int .i64)) p0, Kind.val (.one (.int .i64)) p1] = varint_Fixed p0 p1 := by kernel_rfl
theorem varint_Fixed_calls (p0 : Int) (p1 : Int) (h : Heap) (Q : Value → Heap → Prop) (hh : varint_Fixed p0 p1 h fun x h' => Q (.tuple #[.string x.1, .int .u8 x.2.1]) h') :
    HCalls Tryz.prog 88 #[.int .i64 p0, .int .i64 p1] h Q := by
  rw [← varint_Fixed_den] at hh
  exact calls_of_den Tryz.func88 (by kernel_rfl) Tryz.ntmps88 (by kernel_rfl) (fun f hf => by
      rcases List.mem_cons.1 hf with rfl | hf
      · exact Tryz.call127
      cases hf) orders hh

/-- aqueduct/aqueductref01.Fixed -/
def ref01_Fixed (p0 : Int) (p1 : Int) : HM (ByteArray × Int × Unit) :=
  HM.bind (α := Int) (HM.call1 Tryz.prog (.one (.int .i64)) 139 #[.int .i64 p0]) fun (x1 : Int) =>
  HM.ite (x1 == 0) (
  HM.pure (ByteArray.mk #[], 128, ())) (
  HM.bind (α := Bool × Unit) (HM.ite (decide (p1 < (0 : Int))) (
  HM.pure (true, ())) (
  HM.pure (decide (x1 ≤ (p1 : Int)), ()))) fun (x2 : Bool × Unit) =>
  HM.ite x2.1 (
  HM.pure (ByteArray.mk #[], 129, ())) (
  HM.bind (α := ByteArray × Int × Int × Unit) (HM.loop (σ := ByteArray × Int × Int × Unit) (τ := ByteArray × Int × Int × Unit) (fun (x4 : ByteArray × Int × Int × Unit) =>
  HM.ite (decide (x4.2.2.1 < (p0 : Int))) (
  HM.req (256 ≠ (0 : Int)) <|
  HM.bind (α := Nat) (HM.new (.cells #[.int .u8 (IntKind.wrap .u8 (Int.tmod x4.2.1 256))] 5)) fun (x5 : Nat) =>
  HM.bind (α := ByteArray) (HM.strOf (⟨some ⟨x5, 0, none⟩, 1, 1⟩)) fun (x6 : ByteArray) =>
  HM.req (ByteArray.size x6 + ByteArray.size x4.1 ≤ 9223372036854775807) <|
  HM.req (256 ≠ (0 : Int)) <|
  HM.pure (.inl (x6 ++ x4.1, IntKind.wrap .i64 (Int.tdiv x4.2.1 256), IntKind.wrap .i64 (x4.2.2.1 + 1), ()))) (
  HM.pure (.inr (x4.1, x4.2.1, x4.2.2.1, ())))) (ByteArray.mk #[], p1, 0, ())) fun (x3 : ByteArray × Int × Int × Unit) =>
  HM.pure (x3.1, 0, ())))

theorem ref01_Fixed_den (p0 : Int) (p1 : Int) : denFn Tryz.prog [139] 35 [0, 1, 4, 5, 6, 7, 8, 12, 19, 22] [0, 1, 6, 7, 8, 12, 19, 22] Tryz.f93.results.toList [.one .str, .one (.int .i64)] (bodyOf Tryz.f93) [Kind.val (.one (.int .i64)) p0, Kind.val (.one (.int .i64)) p1] = ref01_Fixed p0 p1 := by kernel_rfl
theorem ref01_Fixed_calls (p0 : Int) (p1 : Int) (h : Heap) (Q : Value → Heap → Prop) (hh : ref01_Fixed p0 p1 h fun x h' => Q (.tuple #[.string x.1, .int .i64 x.2.1]) h') :
    HCalls Tryz.prog 93 #[.int .i64 p0, .int .i64 p1] h Q := by
  rw [← ref01_Fixed_den] at hh
  exact calls_of_den Tryz.func93 (by kernel_rfl) Tryz.ntmps93 (by kernel_rfl) (fun f hf => by
      rcases List.mem_cons.1 hf with rfl | hf
      · exact Tryz.call139
      cases hf) orders hh

/-- (aqueduct/remap.Rule).turned -/
def remap_Rule_turned (p0 : ByteArray × Int × Int × ByteArray × ByteArray × Unit) (p1 : ByteArray) (p2 : ByteArray) (p3 : ByteArray) : HM (ByteArray × Bool × Unit) :=
  HM.bind (α := Nat) (HM.new (.cells #[.string p0.1, .int .i64 p0.2.1, .int .i64 p0.2.2.1, .string p0.2.2.2.1, .string p0.2.2.2.2.1] 123)) fun (x1 : Nat) =>
  HM.bind (α := ByteArray × Bool × Unit) (HM.callN Tryz.prog [.one .str, .one .bool] 141 #[.string p1, .string p2]) fun (x2 : ByteArray × Bool × Unit) =>
  HM.bind (α := Bool × Unit) (HM.ite (!x2.2.1) (
  HM.pure (true, ())) (
  HM.bind (α := ByteArray × Int × Int × ByteArray × ByteArray × Unit) (HM.loadN [.str, .int .i64, .int .i64, .str, .str] ⟨x1, 0, none⟩) fun (x3 : ByteArray × Int × Int × ByteArray × ByteArray × Unit) =>
  HM.bind (α := Int) (HM.call1 Tryz.prog (.one (.int .u8)) 36 #[.agg #[.string x3.1, .int .i64 x3.2.1, .int .i64 x3.2.2.1, .string x3.2.2.2.1, .string x3.2.2.2.2.1]]) fun (x4 : Int) =>
  HM.ite (!(x4 == 0)) (
  HM.pure (true, ())) (
  HM.bind (α := ByteArray) (HM.load1 .str (Addr.add ⟨x1, 0, none⟩ 0)) fun (x5 : ByteArray) =>
  HM.bind (α := Bool) (HM.call1 Tryz.prog (.one .bool) 142 #[.string x5, .string x2.1]) fun (x6 : Bool) =>
  HM.ite (!x6) (
  HM.pure (true, ())) (
  HM.bind (α := Int) (HM.call1 Tryz.prog (.one (.int .u8)) 110 #[.string p1]) fun (x7 : Int) =>
  HM.ite (!(x7 == 0)) (
  HM.pure (true, ())) (
  HM.req (ByteArray.size p3 + ByteArray.size x2.1 ≤ 9223372036854775807) <|
  HM.bind (α := Int) (HM.call1 Tryz.prog (.one (.int .u8)) 110 #[.string (p3 ++ x2.1)]) fun (x8 : Int) =>
  HM.pure (!(x8 == 0), ())))))) fun (x9 : Bool × Unit) =>
  HM.ite x9.1 (
  HM.pure (ByteArray.mk #[], false, ())) (
  HM.req (ByteArray.size p3 + ByteArray.size x2.1 ≤ 9223372036854775807) <|
  HM.pure (p3 ++ x2.1, true, ()))

theorem remap_Rule_turned_den (p0 : ByteArray × Int × Int × ByteArray × ByteArray × Unit) (p1 : ByteArray) (p2 : ByteArray) (p3 : ByteArray) : denFn Tryz.prog [141, 36, 142, 110] 47 [0, 1, 2, 3, 4, 8, 9, 10, 11, 43] [0, 1, 2, 3, 4, 10, 11, 43] Tryz.f97.results.toList [.one .str, .one .bool] (bodyOf Tryz.f97) [Kind.val (.agg [.str, .int .i64, .int .i64, .str, .str]) p0, Kind.val (.one .str) p1, Kind.val (.one .str) p2, Kind.val (.one .str) p3] = remap_Rule_turned p0 p1 p2 p3 := by kernel_rfl
theorem remap_Rule_turned_calls (p0 : ByteArray × Int × Int × ByteArray × ByteArray × Unit) (p1 : ByteArray) (p2 : ByteArray) (p3 : ByteArray) (h : Heap) (Q : Value → Heap → Prop) (hh : remap_Rule_turned p0 p1 p2 p3 h fun x h' => Q (.tuple #[.string x.1, .bool x.2.1]) h') :
    HCalls Tryz.prog 97 #[.agg #[.string p0.1, .int .i64 p0.2.1, .int .i64 p0.2.2.1, .string p0.2.2.2.1, .string p0.2.2.2.2.1], .string p1, .string p2, .string p3] h Q := by
  rw [← remap_Rule_turned_den] at hh
  exact calls_of_den Tryz.func97 (by kernel_rfl) Tryz.ntmps97 (by kernel_rfl) (fun f hf => by
      rcases List.mem_cons.1 hf with rfl | hf
      · exact Tryz.call141
      rcases List.mem_cons.1 hf with rfl | hf
      · exact Tryz.call36
      rcases List.mem_cons.1 hf with rfl | hf
      · exact Tryz.call142
      rcases List.mem_cons.1 hf with rfl | hf
      · exact Tryz.call110
      cases hf) orders hh

/-- (aqueduct/tags.Tag).good -/
def tags_Tag_good (p0 : Int × Int × Unit) : HM (Bool × Unit) :=
  HM.bind (α := Nat) (HM.new (.cells #[.int .i64 p0.1, .int .i64 p0.2.1] 47)) fun (x1 : Nat) =>
  HM.bind (α := Bool × Unit) (HM.bind (α := Int) (HM.load1 (.int .i64) (Addr.add ⟨x1, 0, none⟩ 0)) fun (x2 : Int) =>
  HM.ite (decide (0 ≤ (x2 : Int))) (
  HM.bind (α := Int) (HM.load1 (.int .i64) (Addr.add ⟨x1, 0, none⟩ 0)) fun (x3 : Int) =>
  HM.ite (decide (x3 < (8 : Int))) (
  HM.bind (α := Int) (HM.load1 (.int .i64) (Addr.add ⟨x1, 0, none⟩ 1)) fun (x4 : Int) =>
  HM.ite (decide (1 ≤ (x4 : Int))) (
  HM.bind (α := Int) (HM.load1 (.int .i64) (Addr.add ⟨x1, 0, none⟩ 1)) fun (x5 : Int) =>
  HM.pure (decide (x5 ≤ (9007199254740992 : Int)), ())) (
  HM.pure (false, ()))) (
  HM.pure (false, ()))) (
  HM.pure (false, ()))) fun (x6 : Bool × Unit) =>
  HM.pure (x6.1, ())

theorem tags_Tag_good_den (p0 : Int × Int × Unit) : denFn Tryz.prog [] 21 [0, 1, 2] [0, 1] Tryz.f98.results.toList [.one .bool] (bodyOf Tryz.f98) [Kind.val (.agg [.int .i64, .int .i64]) p0] = tags_Tag_good p0 := by kernel_rfl
theorem tags_Tag_good_calls (p0 : Int × Int × Unit) (h : Heap) (Q : Value → Heap → Prop) (hh : tags_Tag_good p0 h fun x h' => Q (.bool x.1) h') :
    HCalls Tryz.prog 98 #[.agg #[.int .i64 p0.1, .int .i64 p0.2.1]] h Q := by
  rw [← tags_Tag_good_den] at hh
  exact calls_of_den Tryz.func98 (by kernel_rfl) Tryz.ntmps98 (by kernel_rfl) (fun f hf => by cases hf) orders hh

/-- aqueduct/aqueductref16.Good -/
def ref16_Good (p0 : Int × Int × Unit) : HM (Bool × Unit) :=
  HM.bind (α := Nat) (HM.new (.cells #[.int .i64 p0.1, .int .i64 p0.2.1] 53)) fun (x1 : Nat) =>
  HM.bind (α := Bool × Unit) (HM.bind (α := Int) (HM.load1 (.int .i64) (Addr.add ⟨x1, 0, none⟩ 0)) fun (x2 : Int) =>
  HM.ite (decide (0 ≤ (x2 : Int))) (
  HM.bind (α := Int) (HM.load1 (.int .i64) (Addr.add ⟨x1, 0, none⟩ 0)) fun (x3 : Int) =>
  HM.ite (decide (x3 < (8 : Int))) (
  HM.bind (α := Int) (HM.load1 (.int .i64) (Addr.add ⟨x1, 0, none⟩ 1)) fun (x4 : Int) =>
  HM.ite (decide (0 < (x4 : Int))) (
  HM.bind (α := Int) (HM.load1 (.int .i64) (Addr.add ⟨x1, 0, none⟩ 1)) fun (x5 : Int) =>
  HM.pure (decide (x5 ≤ (9007199254740992 : Int)), ())) (
  HM.pure (false, ()))) (
  HM.pure (false, ()))) (
  HM.pure (false, ()))) fun (x6 : Bool × Unit) =>
  HM.pure (x6.1, ())

theorem ref16_Good_den (p0 : Int × Int × Unit) : denFn Tryz.prog [] 21 [0, 1, 2] [0, 1] Tryz.f106.results.toList [.one .bool] (bodyOf Tryz.f106) [Kind.val (.agg [.int .i64, .int .i64]) p0] = ref16_Good p0 := by kernel_rfl
theorem ref16_Good_calls (p0 : Int × Int × Unit) (h : Heap) (Q : Value → Heap → Prop) (hh : ref16_Good p0 h fun x h' => Q (.bool x.1) h') :
    HCalls Tryz.prog 106 #[.agg #[.int .i64 p0.1, .int .i64 p0.2.1]] h Q := by
  rw [← ref16_Good_den] at hh
  exact calls_of_den Tryz.func106 (by kernel_rfl) Tryz.ntmps106 (by kernel_rfl) (fun f hf => by cases hf) orders hh

/-- aqueduct/topic.sized -/
def topic_sized (p0 : ByteArray) : HM (Bool × Unit) :=
  HM.bind (α := Int × Bool × Unit) (HM.callN Tryz.prog [.one (.int .i64), .one .bool] 157 #[.string p0]) fun (x1 : Int × Bool × Unit) =>
  HM.bind (α := Bool × Unit) (HM.ite (!x1.2.1) (
  HM.ite (!(decide (p0 = (ByteArray.mk #[])))) (
  HM.ite (decide (((ByteArray.size p0 : Nat) : Int) ≤ (256 : Int))) (
  HM.bind (α := Int) (HM.call1 Tryz.prog (.one (.int .i64)) 150 #[.string p0, .string (ByteArray.mk #[47])]) fun (x2 : Int) =>
  HM.pure (decide (x2 < (32 : Int)), ())) (
  HM.pure (false, ()))) (
  HM.pure (false, ()))) (
  HM.pure (false, ()))) fun (x3 : Bool × Unit) =>
  HM.pure (x3.1, ())

theorem topic_sized_den (p0 : ByteArray) : denFn Tryz.prog [157, 150] 26 [0, 2, 4] [0, 4] Tryz.f107.results.toList [.one .bool] (bodyOf Tryz.f107) [Kind.val (.one .str) p0] = topic_sized p0 := by kernel_rfl
theorem topic_sized_calls (p0 : ByteArray) (h : Heap) (Q : Value → Heap → Prop) (hh : topic_sized p0 h fun x h' => Q (.bool x.1) h') :
    HCalls Tryz.prog 107 #[.string p0] h Q := by
  rw [← topic_sized_den] at hh
  exact calls_of_den Tryz.func107 (by kernel_rfl) Tryz.ntmps107 (by kernel_rfl) (fun f hf => by
      rcases List.mem_cons.1 hf with rfl | hf
      · exact Tryz.call157
      rcases List.mem_cons.1 hf with rfl | hf
      · exact Tryz.call150
      cases hf) orders hh

/-- aqueduct/topic.Levels -/
def topic_Levels (p0 : ByteArray) : HM (Slc × Unit) :=
  HM.bind (α := Slc) (HM.call1 Tryz.prog (.one .slc) 61 #[.string p0, .string (ByteArray.mk #[47])]) fun (x1 : Slc) =>
  HM.pure (x1, ())

theorem topic_Levels_den (p0 : ByteArray) : denFn Tryz.prog [61] 5 [0, 2] [0] Tryz.f108.results.toList [.one .slc] (bodyOf Tryz.f108) [Kind.val (.one .str) p0] = topic_Levels p0 := by kernel_rfl
theorem topic_Levels_calls (p0 : ByteArray) (h : Heap) (Q : Value → Heap → Prop) (hh : topic_Levels p0 h fun x h' => Q (.slice x.1.a x.1.len x.1.cap) h') :
    HCalls Tryz.prog 108 #[.string p0] h Q := by
  rw [← topic_Levels_den] at hh
  exact calls_of_den Tryz.func108 (by kernel_rfl) Tryz.ntmps108 (by kernel_rfl) (fun f hf => by
      rcases List.mem_cons.1 hf with rfl | hf
      · exact Tryz.call61
      cases hf) orders hh

/-- aqueduct/topic.CheckName -/
def topic_CheckName (p0 : ByteArray) : HM (Int × Unit) :=
  HM.bind (α := Bool × Unit) (HM.bind (α := Bool) (HM.call1 Tryz.prog (.one .bool) 107 #[.string p0]) fun (x1 : Bool) =>
  HM.ite (!x1) (
  HM.pure (true, ())) (
  HM.bind (α := Bool) (HM.call1 Tryz.prog (.one .bool) 109 #[.string p0, .string (ByteArray.mk #[43])]) fun (x2 : Bool) =>
  HM.ite x2 (
  HM.pure (true, ())) (
  HM.bind (α := Bool) (HM.call1 Tryz.prog (.one .bool) 109 #[.string p0, .string (ByteArray.mk #[35])]) fun (x3 : Bool) =>
  HM.pure (x3, ())))) fun (x4 : Bool × Unit) =>
  HM.ite x4.1 (
  HM.pure (144, ())) (
  HM.pure (0, ()))

theorem topic_CheckName_den (p0 : ByteArray) : denFn Tryz.prog [107, 109] 14 [0, 2, 13] [0, 13] Tryz.f110.results.toList [.one (.int .u8)] (bodyOf Tryz.f110) [Kind.val (.one .str) p0] = topic_CheckName p0 := by kernel_rfl
theorem topic_CheckName_calls (p0 : ByteArray) (h : Heap) (Q : Value → Heap → Prop) (hh : topic_CheckName p0 h fun x h' => Q (.int .u8 x.1) h') :
    HCalls Tryz.prog 110 #[.string p0] h Q := by
  rw [← topic_CheckName_den] at hh
  exact calls_of_den Tryz.func110 (by kernel_rfl) Tryz.ntmps110 (by kernel_rfl) (fun f hf => by
      rcases List.mem_cons.1 hf with rfl | hf
      · exact Tryz.call107
      rcases List.mem_cons.1 hf with rfl | hf
      · exact Tryz.call109
      cases hf) orders hh

/-- aqueduct/aqueductref07.sized -/
def ref07_sized (p0 : ByteArray) : HM (Bool × Unit) :=
  HM.bind (α := Int × Bool × Unit) (HM.callN Tryz.prog [.one (.int .i64), .one .bool] 158 #[.string p0]) fun (x1 : Int × Bool × Unit) =>
  HM.bind (α := Bool × Unit) (HM.ite x1.2.1 (
  HM.pure (true, ())) (
  HM.ite (((ByteArray.size p0 : Nat) : Int) == 0) (
  HM.pure (true, ())) (
  HM.pure (decide (256 < (((ByteArray.size p0 : Nat) : Int) : Int)), ())))) fun (x2 : Bool × Unit) =>
  HM.ite x2.1 (
  HM.pure (false, ())) (
  HM.bind (α := Slc) (HM.call1 Tryz.prog (.one .slc) 112 #[.string p0]) fun (x3 : Slc) =>
  HM.pure (decide (((x3.len : Nat) : Int) ≤ (32 : Int)), ()))

theorem ref07_sized_den (p0 : ByteArray) : denFn Tryz.prog [158, 112] 27 [0, 2, 4, 5, 21] [0, 4, 5, 21] Tryz.f111.results.toList [.one .bool] (bodyOf Tryz.f111) [Kind.val (.one .str) p0] = ref07_sized p0 := by kernel_rfl
theorem ref07_sized_calls (p0 : ByteArray) (h : Heap) (Q : Value → Heap → Prop) (hh : ref07_sized p0 h fun x h' => Q (.bool x.1) h') :
    HCalls Tryz.prog 111 #[.string p0] h Q := by
  rw [← ref07_sized_den] at hh
  exact calls_of_den Tryz.func111 (by kernel_rfl) Tryz.ntmps111 (by kernel_rfl) (fun f hf => by
      rcases List.mem_cons.1 hf with rfl | hf
      · exact Tryz.call158
      rcases List.mem_cons.1 hf with rfl | hf
      · exact Tryz.call112
      cases hf) orders hh

/-- aqueduct/aqueductref07.Levels -/
def ref07_Levels (p0 : ByteArray) : HM (Slc × Unit) :=
  HM.bind (α := Slc × ByteArray × Int × Unit) (HM.loop (σ := Slc × ByteArray × Int × Unit) (τ := Slc × ByteArray × Int × Unit) (fun (x2 : Slc × ByteArray × Int × Unit) =>
  HM.ite (decide (x2.2.2.1 < (((ByteArray.size p0 : Nat) : Int) : Int))) (
  HM.bind (α := Slc × ByteArray × Unit) (HM.bind (α := Int) (HM.strIdx p0 x2.2.2.1) fun (x4 : Int) =>
  HM.ite (x4 == 47) (
  HM.bind (α := Nat) (HM.new (.cells #[.string x2.2.1] 9)) fun (x5 : Nat) =>
  HM.bind (α := Slc) (HM.append 9 1 16 #[.string (ByteArray.mk #[])] x2.1 1 (srcSlc 1 (⟨some ⟨x5, 0, none⟩, 1, 1⟩))) fun (x6 : Slc) =>
  HM.pure (x6, ByteArray.mk #[], ())) (
  HM.bind (α := ByteArray) (HM.substr p0 (some x2.2.2.1) (some (IntKind.wrap .i64 (x2.2.2.1 + 1)))) fun (x7 : ByteArray) =>
  HM.req (ByteArray.size x2.2.1 + ByteArray.size x7 ≤ 9223372036854775807) <|
  HM.pure (x2.1, x2.2.1 ++ x7, ()))) fun (x3 : Slc × ByteArray × Unit) =>
  HM.pure (.inl (x3.1, x3.2.1, IntKind.wrap .i64 (x2.2.2.1 + 1), ()))) (
  HM.pure (.inr (x2.1, x2.2.1, x2.2.2.1, ())))) (⟨none, 0, 0⟩, ByteArray.mk #[], 0, ())) fun (x1 : Slc × ByteArray × Int × Unit) =>
  HM.bind (α := Nat) (HM.new (.cells #[.string x1.2.1] 9)) fun (x8 : Nat) =>
  HM.bind (α := Slc) (HM.append 9 1 16 #[.string (ByteArray.mk #[])] x1.1 1 (srcSlc 1 (⟨some ⟨x8, 0, none⟩, 1, 1⟩))) fun (x9 : Slc) =>
  HM.pure (x9, ())

theorem ref07_Levels_den (p0 : ByteArray) : denFn Tryz.prog [] 31 [0, 2, 3, 4, 5, 9, 15] [0, 3, 4, 5, 9, 15] Tryz.f112.results.toList [.one .slc] (bodyOf Tryz.f112) [Kind.val (.one .str) p0] = ref07_Levels p0 := by kernel_rfl
theorem ref07_Levels_calls (p0 : ByteArray) (h : Heap) (Q : Value → Heap → Prop) (hh : ref07_Levels p0 h fun x h' => Q (.slice x.1.a x.1.len x.1.cap) h') :
    HCalls Tryz.prog 112 #[.string p0] h Q := by
  rw [← ref07_Levels_den] at hh
  exact calls_of_den Tryz.func112 (by kernel_rfl) Tryz.ntmps112 (by kernel_rfl) (fun f hf => by cases hf) orders hh

/-- aqueduct/aqueductref07.has -/
def ref07_has (p0 : ByteArray) (p1 : Int) : HM (Bool × Unit) :=
  HM.bind (α := (Int × Unit) ⊕ (Bool × Unit)) (HM.loop (σ := Int × Unit) (τ := (Int × Unit) ⊕ (Bool × Unit)) (fun (x2 : Int × Unit) =>
  HM.ite (decide (x2.1 < (((ByteArray.size p0 : Nat) : Int) : Int))) (
  HM.bind (α := Int) (HM.strIdx p0 x2.1) fun (x3 : Int) =>
  HM.ite (x3 == p1) (
  HM.pure (.inr (.inr (true, ())))) (
  HM.pure (.inl (IntKind.wrap .i64 (x2.1 + 1), ())))) (
  HM.pure (.inr (.inl (x2.1, ()))))) (0, ())) (Sum.elim (fun (x1 : Int × Unit) =>
  HM.pure (false, ())) HM.pure)

theorem ref07_has_den (p0 : ByteArray) (p1 : Int) : denFn Tryz.prog [] 17 [0, 1, 4, 5, 9, 16] [0, 1, 5, 9, 16] Tryz.f113.results.toList [.one .bool] (bodyOf Tryz.f113) [Kind.val (.one .str) p0, Kind.val (.one (.int .u8)) p1] = ref07_has p0 p1 := by kernel_rfl
theorem ref07_has_calls (p0 : ByteArray) (p1 : Int) (h : Heap) (Q : Value → Heap → Prop) (hh : ref07_has p0 p1 h fun x h' => Q (.bool x.1) h') :
    HCalls Tryz.prog 113 #[.string p0, .int .u8 p1] h Q := by
  rw [← ref07_has_den] at hh
  exact calls_of_den Tryz.func113 (by kernel_rfl) Tryz.ntmps113 (by kernel_rfl) (fun f hf => by cases hf) orders hh

/-- aqueduct/varint.wide -/
def varint_wide (p0 : Int) : HM (Bool × Unit) :=
  HM.bind (α := Bool × Unit) (HM.ite (p0 == 1) (
  HM.pure (true, ())) (
  HM.ite (p0 == 2) (
  HM.pure (true, ())) (
  HM.pure (p0 == 4, ())))) fun (x1 : Bool × Unit) =>
  HM.pure (x1.1, ())

theorem varint_wide_den (p0 : Int) : denFn Tryz.prog [] 13 [0, 2] [0] Tryz.f127.results.toList [.one .bool] (bodyOf Tryz.f127) [Kind.val (.one (.int .i64)) p0] = varint_wide p0 := by kernel_rfl
theorem varint_wide_calls (p0 : Int) (h : Heap) (Q : Value → Heap → Prop) (hh : varint_wide p0 h fun x h' => Q (.bool x.1) h') :
    HCalls Tryz.prog 127 #[.int .i64 p0] h Q := by
  rw [← varint_wide_den] at hh
  exact calls_of_den Tryz.func127 (by kernel_rfl) Tryz.ntmps127 (by kernel_rfl) (fun f hf => by cases hf) orders hh

/-- aqueduct/aqueductref01.most -/
def ref01_most (p0 : Int) : HM (Int × Unit) :=
  HM.ite (p0 == 1) (
  HM.pure (256, ())) (
  HM.ite (p0 == 2) (
  HM.pure (65536, ())) (
  HM.ite (p0 == 4) (
  HM.pure (4294967296, ())) (
  HM.pure (0, ()))))

theorem ref01_most_den (p0 : Int) : denFn Tryz.prog [] 10 [0, 2, 3, 4, 6, 8] [0, 3, 4, 6, 8] Tryz.f139.results.toList [.one (.int .i64)] (bodyOf Tryz.f139) [Kind.val (.one (.int .i64)) p0] = ref01_most p0 := by kernel_rfl
theorem ref01_most_calls (p0 : Int) (h : Heap) (Q : Value → Heap → Prop) (hh : ref01_most p0 h fun x h' => Q (.int .i64 x.1) h') :
    HCalls Tryz.prog 139 #[.int .i64 p0] h Q := by
  rw [← ref01_most_den] at hh
  exact calls_of_den Tryz.func139 (by kernel_rfl) Tryz.ntmps139 (by kernel_rfl) (fun f hf => by cases hf) orders hh

/-- strings.CutPrefix -/
def strings_CutPrefix (p0 : ByteArray) (p1 : ByteArray) : HM (ByteArray × Bool × Unit) :=
  HM.bind (α := ByteArray × Bool × Unit) (HM.callN Tryz.prog [.one .str, .one .bool] 177 #[.string p0, .string p1]) fun (x1 : ByteArray × Bool × Unit) =>
  HM.pure (x1.1, x1.2.1, ())

theorem strings_CutPrefix_den (p0 : ByteArray) (p1 : ByteArray) : denFn Tryz.prog [177] 11 [0, 1, 4, 5] [0, 1, 4, 5] Tryz.f141.results.toList [.one .str, .one .bool] (bodyOf Tryz.f141) [Kind.val (.one .str) p0, Kind.val (.one .str) p1] = strings_CutPrefix p0 p1 := by kernel_rfl
theorem strings_CutPrefix_calls (p0 : ByteArray) (p1 : ByteArray) (h : Heap) (Q : Value → Heap → Prop) (hh : strings_CutPrefix p0 p1 h fun x h' => Q (.tuple #[.string x.1, .bool x.2.1]) h') :
    HCalls Tryz.prog 141 #[.string p0, .string p1] h Q := by
  rw [← strings_CutPrefix_den] at hh
  exact calls_of_den Tryz.func141 (by kernel_rfl) Tryz.ntmps141 (by kernel_rfl) (fun f hf => by
      rcases List.mem_cons.1 hf with rfl | hf
      · exact Tryz.call177
      cases hf) orders hh

/-- aqueduct/topic.Match -/
def topic_Match (p0 : ByteArray) (p1 : ByteArray) : HM (Bool × Unit) :=
  HM.bind (α := Bool × Unit) (HM.bind (α := Int) (HM.call1 Tryz.prog (.one (.int .u8)) 65 #[.string p0]) fun (x1 : Int) =>
  HM.ite (!(x1 == 0)) (
  HM.pure (true, ())) (
  HM.bind (α := Int) (HM.call1 Tryz.prog (.one (.int .u8)) 110 #[.string p1]) fun (x2 : Int) =>
  HM.pure (!(x2 == 0), ()))) fun (x3 : Bool × Unit) =>
  HM.ite x3.1 (
  HM.pure (false, ())) (
  HM.bind (α := Bool × Unit) (HM.bind (α := Int) (HM.strIdx p1 0) fun (x4 : Int) =>
  HM.ite (x4 == 36) (
  HM.bind (α := ByteArray) (HM.substr p0 none (some 1)) fun (x5 : ByteArray) =>
  HM.ite (decide (x5 = (ByteArray.mk #[43]))) (
  HM.pure (true, ())) (
  HM.bind (α := ByteArray) (HM.substr p0 none (some 1)) fun (x6 : ByteArray) =>
  HM.pure (decide (x6 = (ByteArray.mk #[35])), ()))) (
  HM.pure (false, ()))) fun (x7 : Bool × Unit) =>
  HM.ite x7.1 (
  HM.pure (false, ())) (
  HM.bind (α := Slc) (HM.call1 Tryz.prog (.one .slc) 108 #[.string p0]) fun (x8 : Slc) =>
  HM.bind (α := Slc) (HM.call1 Tryz.prog (.one .slc) 108 #[.string p1]) fun (x9 : Slc) =>
  HM.bind (α := Addr) (HM.idx x8.a x8.len (IntKind.wrap .i64 (((x8.len : Nat) : Int) - 1)) 1) fun (x10 : Addr) =>
  HM.bind (α := ByteArray) (HM.load1 .str x10) fun (x11 : ByteArray) =>
  HM.bind (α := Slc × Unit) (HM.ite (decide (x11 = (ByteArray.mk #[35]))) (
  HM.bind (α := Slc) (HM.slice x8 none (some (IntKind.wrap .i64 (((x8.len : Nat) : Int) - 1))) none 1) fun (x13 : Slc) =>
  HM.pure (x13, ())) (
  HM.pure (x8, ()))) fun (x12 : Slc × Unit) =>
  HM.bind (α := Bool × Unit) (HM.ite (decide (((x9.len : Nat) : Int) < (((x12.1.len : Nat) : Int) : Int))) (
  HM.pure (true, ())) (
  HM.ite (!(decide (x11 = (ByteArray.mk #[35])))) (
  HM.pure (decide (((x12.1.len : Nat) : Int) < (((x9.len : Nat) : Int) : Int)), ())) (
  HM.pure (false, ())))) fun (x14 : Bool × Unit) =>
  HM.ite x14.1 (
  HM.pure (false, ())) (
  HM.bind (α := Slc) (HM.slice x9 none (some ((x12.1.len : Nat) : Int)) none 1) fun (x15 : Slc) =>
  HM.bind (α := Bool) (HM.call1 Tryz.prog (.one .bool) 178 #[.slice x12.1.a x12.1.len x12.1.cap, .slice x15.a x15.len x15.cap, .func (.func 179) #[] #[]]) fun (x16 : Bool) =>
  HM.pure (x16, ()))))

theorem topic_Match_den (p0 : ByteArray) (p1 : ByteArray) : denFn Tryz.prog [65, 110, 108, 178] 68 [0, 1, 4, 5, 6, 7, 15, 28, 40, 61] [0, 1, 5, 6, 7, 15, 28, 40, 61] Tryz.f142.results.toList [.one .bool] (bodyOf Tryz.f142) [Kind.val (.one .str) p0, Kind.val (.one .str) p1] = topic_Match p0 p1 := by kernel_rfl
theorem topic_Match_calls (p0 : ByteArray) (p1 : ByteArray) (h : Heap) (Q : Value → Heap → Prop) (hh : topic_Match p0 p1 h fun x h' => Q (.bool x.1) h') :
    HCalls Tryz.prog 142 #[.string p0, .string p1] h Q := by
  rw [← topic_Match_den] at hh
  exact calls_of_den Tryz.func142 (by kernel_rfl) Tryz.ntmps142 (by kernel_rfl) (fun f hf => by
      rcases List.mem_cons.1 hf with rfl | hf
      · exact Tryz.call65
      rcases List.mem_cons.1 hf with rfl | hf
      · exact Tryz.call110
      rcases List.mem_cons.1 hf with rfl | hf
      · exact Tryz.call108
      rcases List.mem_cons.1 hf with rfl | hf
      · exact Tryz.call178
      cases hf) orders hh

/-- aqueduct/text.Fault -/
def text_Fault (p0 : ByteArray) : HM (Int × Bool × Unit) :=
  HM.bind (α := (Int × Unit) ⊕ (Int × Bool × Unit)) (HM.loop (σ := Int × Unit) (τ := (Int × Unit) ⊕ (Int × Bool × Unit)) (fun (x2 : Int × Unit) =>
  HM.ite (decide (x2.1 < (((ByteArray.size p0 : Nat) : Int) : Int))) (
  HM.bind (α := ByteArray) (HM.substr p0 (some x2.1) none) fun (x3 : ByteArray) =>
  HM.bind (α := Int) (HM.call1 Tryz.prog (.one (.int .i64)) 195 #[.string x3]) fun (x4 : Int) =>
  HM.ite (x4 == 0) (
  HM.pure (.inr (.inr (x2.1, true, ())))) (
  HM.pure (.inl (IntKind.wrap .i64 (x2.1 + x4), ())))) (
  HM.pure (.inr (.inl (x2.1, ()))))) (0, ())) (Sum.elim (fun (x1 : Int × Unit) =>
  HM.pure (0, false, ())) HM.pure)

theorem text_Fault_den (p0 : ByteArray) : denFn Tryz.prog [195] 20 [0, 2, 3, 4, 5, 9, 15] [0, 4, 5, 9, 15] Tryz.f157.results.toList [.one (.int .i64), .one .bool] (bodyOf Tryz.f157) [Kind.val (.one .str) p0] = text_Fault p0 := by kernel_rfl
theorem text_Fault_calls (p0 : ByteArray) (h : Heap) (Q : Value → Heap → Prop) (hh : text_Fault p0 h fun x h' => Q (.tuple #[.int .i64 x.1, .bool x.2.1]) h') :
    HCalls Tryz.prog 157 #[.string p0] h Q := by
  rw [← text_Fault_den] at hh
  exact calls_of_den Tryz.func157 (by kernel_rfl) Tryz.ntmps157 (by kernel_rfl) (fun f hf => by
      rcases List.mem_cons.1 hf with rfl | hf
      · exact Tryz.call195
      cases hf) orders hh

/-- aqueduct/aqueductref02.Fault -/
def ref02_Fault (p0 : ByteArray) : HM (Int × Bool × Unit) :=
  HM.bind (α := (Int × Unit) ⊕ (Int × Bool × Unit)) (HM.loop (σ := Int × Unit) (τ := (Int × Unit) ⊕ (Int × Bool × Unit)) (fun (x2 : Int × Unit) =>
  HM.ite (decide (x2.1 < (((ByteArray.size p0 : Nat) : Int) : Int))) (
  HM.bind (α := Int) (HM.call1 Tryz.prog (.one (.int .i64)) 196 #[.string p0, .int .i64 x2.1]) fun (x3 : Int) =>
  HM.ite (x3 == 0) (
  HM.pure (.inr (.inr (x2.1, true, ())))) (
  HM.pure (.inl (IntKind.wrap .i64 (x2.1 + x3), ())))) (
  HM.pure (.inr (.inl (x2.1, ()))))) (0, ())) (Sum.elim (fun (x1 : Int × Unit) =>
  HM.pure (0, false, ())) HM.pure)

theorem ref02_Fault_den (p0 : ByteArray) : denFn Tryz.prog [196] 19 [0, 2, 3, 4, 5, 9, 14] [0, 4, 5, 9, 14] Tryz.f158.results.toList [.one (.int .i64), .one .bool] (bodyOf Tryz.f158) [Kind.val (.one .str) p0] = ref02_Fault p0 := by kernel_rfl
theorem ref02_Fault_calls (p0 : ByteArray) (h : Heap) (Q : Value → Heap → Prop) (hh : ref02_Fault p0 h fun x h' => Q (.tuple #[.int .i64 x.1, .bool x.2.1]) h') :
    HCalls Tryz.prog 158 #[.string p0] h Q := by
  rw [← ref02_Fault_den] at hh
  exact calls_of_den Tryz.func158 (by kernel_rfl) Tryz.ntmps158 (by kernel_rfl) (fun f hf => by
      rcases List.mem_cons.1 hf with rfl | hf
      · exact Tryz.call196
      cases hf) orders hh

/-- aqueduct/aqueductref07.Match -/
def ref07_Match (p0 : ByteArray) (p1 : ByteArray) : HM (Bool × Unit) :=
  HM.bind (α := Int) (HM.call1 Tryz.prog (.one (.int .i64)) 69 #[.string p0]) fun (x1 : Int) =>
  HM.bind (α := Int) (HM.call1 Tryz.prog (.one (.int .i64)) 70 #[.string p1]) fun (x2 : Int) =>
  HM.bind (α := Bool × Unit) (HM.ite (!(x1 == 0)) (
  HM.pure (true, ())) (
  HM.pure (!(x2 == 0), ()))) fun (x3 : Bool × Unit) =>
  HM.ite x3.1 (
  HM.pure (false, ())) (
  HM.bind (α := Bool × Unit) (HM.bind (α := Int) (HM.strIdx p1 0) fun (x4 : Int) =>
  HM.ite (x4 == 36) (
  HM.bind (α := Int) (HM.strIdx p0 0) fun (x5 : Int) =>
  HM.ite (x5 == 43) (
  HM.pure (true, ())) (
  HM.bind (α := Int) (HM.strIdx p0 0) fun (x6 : Int) =>
  HM.pure (x6 == 35, ()))) (
  HM.pure (false, ()))) fun (x7 : Bool × Unit) =>
  HM.ite x7.1 (
  HM.pure (false, ())) (
  HM.bind (α := Slc) (HM.call1 Tryz.prog (.one .slc) 112 #[.string p0]) fun (x8 : Slc) =>
  HM.bind (α := Slc) (HM.call1 Tryz.prog (.one .slc) 112 #[.string p1]) fun (x9 : Slc) =>
  HM.bind (α := (Int × Unit) ⊕ (Bool × Unit)) (HM.loop (σ := Int × Unit) (τ := (Int × Unit) ⊕ (Bool × Unit)) (fun (x11 : Int × Unit) =>
  HM.ite (decide (x11.1 < (((x8.len : Nat) : Int) : Int))) (
  HM.bind (α := Addr) (HM.idx x8.a x8.len x11.1 1) fun (x12 : Addr) =>
  HM.bind (α := ByteArray) (HM.load1 .str x12) fun (x13 : ByteArray) =>
  HM.ite (decide (x13 = (ByteArray.mk #[35]))) (
  HM.pure (.inr (.inr (true, ())))) (
  HM.ite (decide (((x9.len : Nat) : Int) ≤ (x11.1 : Int))) (
  HM.pure (.inr (.inr (false, ())))) (
  HM.bind (α := Bool × Unit) (HM.bind (α := Addr) (HM.idx x8.a x8.len x11.1 1) fun (x14 : Addr) =>
  HM.bind (α := ByteArray) (HM.load1 .str x14) fun (x15 : ByteArray) =>
  HM.ite (!(decide (x15 = (ByteArray.mk #[43])))) (
  HM.bind (α := Addr) (HM.idx x8.a x8.len x11.1 1) fun (x16 : Addr) =>
  HM.bind (α := ByteArray) (HM.load1 .str x16) fun (x17 : ByteArray) =>
  HM.bind (α := Addr) (HM.idx x9.a x9.len x11.1 1) fun (x18 : Addr) =>
  HM.bind (α := ByteArray) (HM.load1 .str x18) fun (x19 : ByteArray) =>
  HM.pure (!(decide (x17 = x19)), ())) (
  HM.pure (false, ()))) fun (x20 : Bool × Unit) =>
  HM.ite x20.1 (
  HM.pure (.inr (.inr (false, ())))) (
  HM.pure (.inl (IntKind.wrap .i64 (x11.1 + 1), ())))))) (
  HM.pure (.inr (.inl (x11.1, ()))))) (0, ())) (Sum.elim (fun (x10 : Int × Unit) =>
  HM.pure (((x8.len : Nat) : Int) == ((x9.len : Nat) : Int), ())) HM.pure)))

theorem ref07_Match_den (p0 : ByteArray) (p1 : ByteArray) : denFn Tryz.prog [69, 70, 112] 73 [0, 1, 4, 5, 6, 7, 8, 9, 19, 32, 40, 47, 51, 67] [0, 1, 5, 6, 7, 8, 9, 19, 32, 40, 47, 51, 67] Tryz.f159.results.toList [.one .bool] (bodyOf Tryz.f159) [Kind.val (.one .str) p0, Kind.val (.one .str) p1] = ref07_Match p0 p1 := by kernel_rfl
theorem ref07_Match_calls (p0 : ByteArray) (p1 : ByteArray) (h : Heap) (Q : Value → Heap → Prop) (hh : ref07_Match p0 p1 h fun x h' => Q (.bool x.1) h') :
    HCalls Tryz.prog 159 #[.string p0, .string p1] h Q := by
  rw [← ref07_Match_den] at hh
  exact calls_of_den Tryz.func159 (by kernel_rfl) Tryz.ntmps159 (by kernel_rfl) (fun f hf => by
      rcases List.mem_cons.1 hf with rfl | hf
      · exact Tryz.call69
      rcases List.mem_cons.1 hf with rfl | hf
      · exact Tryz.call70
      rcases List.mem_cons.1 hf with rfl | hf
      · exact Tryz.call112
      cases hf) orders hh

/-- internal/stringslite.CutPrefix -/
def stringslite_CutPrefix (p0 : ByteArray) (p1 : ByteArray) : HM (ByteArray × Bool × Unit) :=
  HM.bind (α := Bool) (HM.call1 Tryz.prog (.one .bool) 209 #[.string p0, .string p1]) fun (x1 : Bool) =>
  HM.ite (!x1) (
  HM.pure (p0, false, ())) (
  HM.bind (α := ByteArray) (HM.substr p0 (some ((ByteArray.size p1 : Nat) : Int)) none) fun (x2 : ByteArray) =>
  HM.pure (x2, true, ()))

theorem stringslite_CutPrefix_den (p0 : ByteArray) (p1 : ByteArray) : denFn Tryz.prog [209] 15 [0, 1, 4, 5, 9] [0, 1, 4, 5, 9] Tryz.f177.results.toList [.one .str, .one .bool] (bodyOf Tryz.f177) [Kind.val (.one .str) p0, Kind.val (.one .str) p1] = stringslite_CutPrefix p0 p1 := by kernel_rfl
theorem stringslite_CutPrefix_calls (p0 : ByteArray) (p1 : ByteArray) (h : Heap) (Q : Value → Heap → Prop) (hh : stringslite_CutPrefix p0 p1 h fun x h' => Q (.tuple #[.string x.1, .bool x.2.1]) h') :
    HCalls Tryz.prog 177 #[.string p0, .string p1] h Q := by
  rw [← stringslite_CutPrefix_den] at hh
  exact calls_of_den Tryz.func177 (by kernel_rfl) Tryz.ntmps177 (by kernel_rfl) (fun f hf => by
      rcases List.mem_cons.1 hf with rfl | hf
      · exact Tryz.call209
      cases hf) orders hh

/-- slices.EqualFunc[[]string,[]string,string,string] -/
def slices_EqualFunc (p0 : Slc) (p1 : Slc) (p2 : Value) : HM (Bool × Unit) :=
  HM.ite (!(((p0.len : Nat) : Int) == ((p1.len : Nat) : Int))) (
  HM.pure (false, ())) (
  HM.bind (α := (Int × Unit) ⊕ (Bool × Unit)) (HM.loop (σ := Int × Unit) (τ := (Int × Unit) ⊕ (Bool × Unit)) (fun (x2 : Int × Unit) =>
  HM.ite (decide (x2.1 < (((p0.len : Nat) : Int) : Int))) (
  HM.bind (α := Addr) (HM.idx p0.a p0.len x2.1 1) fun (x3 : Addr) =>
  HM.bind (α := ByteArray) (HM.load1 .str x3) fun (x4 : ByteArray) =>
  HM.bind (α := Addr) (HM.idx p1.a p1.len x2.1 1) fun (x5 : Addr) =>
  HM.bind (α := ByteArray) (HM.load1 .str x5) fun (x6 : ByteArray) =>
  HM.bind (α := Bool) (HM.callV1 Tryz.prog (.one .bool) p2 #[.string x4, .string x6]) fun (x7 : Bool) =>
  HM.ite (!x7) (
  HM.pure (.inr (.inr (false, ())))) (
  HM.pure (.inl (IntKind.wrap .i64 (x2.1 + 1), ())))) (
  HM.pure (.inr (.inl (x2.1, ()))))) (0, ())) (Sum.elim (fun (x1 : Int × Unit) =>
  HM.pure (true, ())) HM.pure))

theorem slices_EqualFunc_den (p0 : Slc) (p1 : Slc) (p2 : Value) : denFn Tryz.prog [] 32 [0, 1, 2, 6, 7, 8, 9, 14, 15, 16, 17, 18, 30] [0, 1, 2, 7, 8, 9, 14, 15, 16, 17, 18, 30] Tryz.f178.results.toList [.one .bool] (bodyOf Tryz.f178) [Kind.val (.one .slc) p0, Kind.val (.one .slc) p1, Kind.val (.one .any) p2] = slices_EqualFunc p0 p1 p2 := by kernel_rfl
theorem slices_EqualFunc_calls (p0 : Slc) (p1 : Slc) (p2 : Value) (h : Heap) (Q : Value → Heap → Prop) (hh : slices_EqualFunc p0 p1 p2 h fun x h' => Q (.bool x.1) h') :
    HCalls Tryz.prog 178 #[.slice p0.a p0.len p0.cap, .slice p1.a p1.len p1.cap, p2] h Q := by
  rw [← slices_EqualFunc_den] at hh
  exact calls_of_den Tryz.func178 (by kernel_rfl) Tryz.ntmps178 (by kernel_rfl) (fun f hf => by cases hf) orders hh

/-- aqueduct/topic.Match$1 -/
def topic_Match_f1 (p0 : ByteArray) (p1 : ByteArray) : HM (Bool × Unit) :=
  HM.bind (α := Bool × Unit) (HM.ite (decide (p0 = (ByteArray.mk #[43]))) (
  HM.pure (true, ())) (
  HM.pure (decide (p0 = p1), ()))) fun (x1 : Bool × Unit) =>
  HM.pure (x1.1, ())

theorem topic_Match_f1_den (p0 : ByteArray) (p1 : ByteArray) : denFn Tryz.prog [] 12 [0, 1, 4] [0, 1] Tryz.f179.results.toList [.one .bool] (bodyOf Tryz.f179) [Kind.val (.one .str) p0, Kind.val (.one .str) p1] = topic_Match_f1 p0 p1 := by kernel_rfl
theorem topic_Match_f1_calls (p0 : ByteArray) (p1 : ByteArray) (h : Heap) (Q : Value → Heap → Prop) (hh : topic_Match_f1 p0 p1 h fun x h' => Q (.bool x.1) h') :
    HCalls Tryz.prog 179 #[.string p0, .string p1] h Q := by
  rw [← topic_Match_f1_den] at hh
  exact calls_of_den Tryz.func179 (by kernel_rfl) Tryz.ntmps179 (by kernel_rfl) (fun f hf => by cases hf) orders hh

/-- aqueduct/text.next -/
def text_next (p0 : ByteArray) : HM (Int × Unit) :=
  HM.bind (α := Int × Int × Unit) (HM.callN Tryz.prog [.one (.int .i32), .one (.int .i64)] 188 #[.string p0]) fun (x1 : Int × Int × Unit) =>
  HM.bind (α := Bool × Unit) (HM.ite (x1.1 == 0) (
  HM.pure (true, ())) (
  HM.ite (x1.1 == 65533) (
  HM.pure (decide (x1.2.1 < (2 : Int)), ())) (
  HM.pure (false, ())))) fun (x2 : Bool × Unit) =>
  HM.ite x2.1 (
  HM.pure (0, ())) (
  HM.pure (x1.2.1, ()))

theorem text_next_den (p0 : ByteArray) : denFn Tryz.prog [188] 21 [0, 2, 3, 4, 19] [0, 3, 4, 19] Tryz.f195.results.toList [.one (.int .i64)] (bodyOf Tryz.f195) [Kind.val (.one .str) p0] = text_next p0 := by kernel_rfl
theorem text_next_calls (p0 : ByteArray) (h : Heap) (Q : Value → Heap → Prop) (hh : text_next p0 h fun x h' => Q (.int .i64 x.1) h') :
    HCalls Tryz.prog 195 #[.string p0] h Q := by
  rw [← text_next_den] at hh
  exact calls_of_den Tryz.func195 (by kernel_rfl) Tryz.ntmps195 (by kernel_rfl) (fun f hf => by
      rcases List.mem_cons.1 hf with rfl | hf
      · exact Tryz.call188
      cases hf) orders hh

/-- aqueduct/aqueductref02.Char -/
def ref02_Char (p0 : ByteArray) (p1 : Int) : HM (Int × Unit) :=
  HM.bind (α := Int) (HM.strIdx p0 p1) fun (x1 : Int) =>
  HM.bind (α := Bool × Unit) (HM.ite (decide (1 ≤ ((IntKind.wrap .i64 x1) : Int))) (
  HM.pure (decide ((IntKind.wrap .i64 x1) ≤ (127 : Int)), ())) (
  HM.pure (false, ()))) fun (x2 : Bool × Unit) =>
  HM.ite x2.1 (
  HM.pure (1, ())) (
  HM.bind (α := Bool) (HM.call1 Tryz.prog (.one .bool) 217 #[.string p0, .int .i64 (IntKind.wrap .i64 (p1 + 1)), .int .i64 128, .int .i64 191]) fun (x3 : Bool) =>
  HM.bind (α := Bool) (HM.call1 Tryz.prog (.one .bool) 217 #[.string p0, .int .i64 (IntKind.wrap .i64 (p1 + 2)), .int .i64 128, .int .i64 191]) fun (x4 : Bool) =>
  HM.bind (α := Bool) (HM.call1 Tryz.prog (.one .bool) 217 #[.string p0, .int .i64 (IntKind.wrap .i64 (p1 + 3)), .int .i64 128, .int .i64 191]) fun (x5 : Bool) =>
  HM.bind (α := Bool × Unit) (HM.ite (decide (194 ≤ ((IntKind.wrap .i64 x1) : Int))) (
  HM.ite (decide ((IntKind.wrap .i64 x1) ≤ (223 : Int))) (
  HM.pure (x3, ())) (
  HM.pure (false, ()))) (
  HM.pure (false, ()))) fun (x6 : Bool × Unit) =>
  HM.ite x6.1 (
  HM.pure (2, ())) (
  HM.bind (α := Bool × Unit) (HM.ite (decide (224 ≤ ((IntKind.wrap .i64 x1) : Int))) (
  HM.ite (decide ((IntKind.wrap .i64 x1) ≤ (239 : Int))) (
  HM.ite x3 (
  HM.pure (x4, ())) (
  HM.pure (false, ()))) (
  HM.pure (false, ()))) (
  HM.pure (false, ()))) fun (x7 : Bool × Unit) =>
  HM.ite x7.1 (
  HM.bind (α := Bool) (HM.call1 Tryz.prog (.one .bool) 217 #[.string p0, .int .i64 (IntKind.wrap .i64 (p1 + 1)), .int .i64 160, .int .i64 191]) fun (x8 : Bool) =>
  HM.bind (α := Bool) (HM.call1 Tryz.prog (.one .bool) 217 #[.string p0, .int .i64 (IntKind.wrap .i64 (p1 + 1)), .int .i64 128, .int .i64 159]) fun (x9 : Bool) =>
  HM.bind (α := Bool × Unit) (HM.ite ((IntKind.wrap .i64 x1) == 224) (
  HM.ite (!x8) (
  HM.pure (true, ())) (
  HM.ite ((IntKind.wrap .i64 x1) == 237) (
  HM.pure (!x9, ())) (
  HM.pure (false, ())))) (
  HM.ite ((IntKind.wrap .i64 x1) == 237) (
  HM.pure (!x9, ())) (
  HM.pure (false, ())))) fun (x10 : Bool × Unit) =>
  HM.ite x10.1 (
  HM.pure (0, ())) (
  HM.pure (3, ()))) (
  HM.bind (α := Bool × Unit) (HM.ite (decide (240 ≤ ((IntKind.wrap .i64 x1) : Int))) (
  HM.ite (decide ((IntKind.wrap .i64 x1) ≤ (244 : Int))) (
  HM.ite x3 (
  HM.ite x4 (
  HM.pure (x5, ())) (
  HM.pure (false, ()))) (
  HM.pure (false, ()))) (
  HM.pure (false, ()))) (
  HM.pure (false, ()))) fun (x11 : Bool × Unit) =>
  HM.ite x11.1 (
  HM.bind (α := Bool) (HM.call1 Tryz.prog (.one .bool) 217 #[.string p0, .int .i64 (IntKind.wrap .i64 (p1 + 1)), .int .i64 144, .int .i64 191]) fun (x12 : Bool) =>
  HM.bind (α := Bool) (HM.call1 Tryz.prog (.one .bool) 217 #[.string p0, .int .i64 (IntKind.wrap .i64 (p1 + 1)), .int .i64 128, .int .i64 143]) fun (x13 : Bool) =>
  HM.bind (α := Bool × Unit) (HM.ite ((IntKind.wrap .i64 x1) == 240) (
  HM.ite (!x12) (
  HM.pure (true, ())) (
  HM.ite ((IntKind.wrap .i64 x1) == 244) (
  HM.pure (!x13, ())) (
  HM.pure (false, ())))) (
  HM.ite ((IntKind.wrap .i64 x1) == 244) (
  HM.pure (!x13, ())) (
  HM.pure (false, ())))) fun (x14 : Bool × Unit) =>
  HM.ite x14.1 (
  HM.pure (0, ())) (
  HM.pure (4, ()))) (
  HM.pure (0, ())))))

theorem ref02_Char_den (p0 : ByteArray) (p1 : Int) : denFn Tryz.prog [217] 115 [0, 1, 4, 5, 6, 7, 8, 9, 10, 11, 12, 22, 43, 55, 77, 92, 114] [0, 1, 5, 6, 7, 8, 9, 10, 11, 12, 22, 43, 55, 77, 92, 114] Tryz.f196.results.toList [.one (.int .i64)] (bodyOf Tryz.f196) [Kind.val (.one .str) p0, Kind.val (.one (.int .i64)) p1] = ref02_Char p0 p1 := by kernel_rfl
theorem ref02_Char_calls (p0 : ByteArray) (p1 : Int) (h : Heap) (Q : Value → Heap → Prop) (hh : ref02_Char p0 p1 h fun x h' => Q (.int .i64 x.1) h') :
    HCalls Tryz.prog 196 #[.string p0, .int .i64 p1] h Q := by
  rw [← ref02_Char_den] at hh
  exact calls_of_den Tryz.func196 (by kernel_rfl) Tryz.ntmps196 (by kernel_rfl) (fun f hf => by
      rcases List.mem_cons.1 hf with rfl | hf
      · exact Tryz.call217
      cases hf) orders hh

/-- aqueduct/varint.Data -/
def varint_Data (p0 : ByteArray) : HM (ByteArray × Int × Unit) :=
  HM.ite (decide (65535 < (((ByteArray.size p0 : Nat) : Int) : Int))) (
  HM.pure (ByteArray.mk #[], 149, ())) (
  HM.bind (α := ByteArray × Int × Unit) (HM.callN Tryz.prog [.one .str, .one (.int .u8)] 88 #[.int .i64 2, .int .i64 ((ByteArray.size p0 : Nat) : Int)]) fun (x1 : ByteArray × Int × Unit) =>
  HM.req (ByteArray.size x1.1 + ByteArray.size p0 ≤ 9223372036854775807) <|
  HM.pure (x1.1 ++ p0, 0, ()))

theorem varint_Data_den (p0 : ByteArray) : denFn Tryz.prog [88] 18 [0, 2, 3, 4, 8] [0, 4, 8] Tryz.f198.results.toList [.one .str, .one (.int .u8)] (bodyOf Tryz.f198) [Kind.val (.one .str) p0] = varint_Data p0 := by kernel_rfl
theorem varint_Data_calls (p0 : ByteArray) (h : Heap) (Q : Value → Heap → Prop) (hh : varint_Data p0 h fun x h' => Q (.tuple #[.string x.1, .int .u8 x.2.1]) h') :
    HCalls Tryz.prog 198 #[.string p0] h Q := by
  rw [← varint_Data_den] at hh
  exact calls_of_den Tryz.func198 (by kernel_rfl) Tryz.ntmps198 (by kernel_rfl) (fun f hf => by
      rcases List.mem_cons.1 hf with rfl | hf
      · exact Tryz.call88
      cases hf) orders hh

/-- aqueduct/aqueductref01.Data -/
def ref01_Data (p0 : ByteArray) : HM (ByteArray × Int × Unit) :=
  HM.ite (decide (65535 < (((ByteArray.size p0 : Nat) : Int) : Int))) (
  HM.pure (ByteArray.mk #[], 149, ())) (
  HM.bind (α := ByteArray × Int × Unit) (HM.callN Tryz.prog [.one .str, .one (.int .i64)] 93 #[.int .i64 2, .int .i64 ((ByteArray.size p0 : Nat) : Int)]) fun (x1 : ByteArray × Int × Unit) =>
  HM.req (ByteArray.size x1.1 + ByteArray.size p0 ≤ 9223372036854775807) <|
  HM.pure (x1.1 ++ p0, 0, ()))

theorem ref01_Data_den (p0 : ByteArray) : denFn Tryz.prog [93] 18 [0, 2, 3, 4, 8] [0, 4, 8] Tryz.f204.results.toList [.one .str, .one (.int .i64)] (bodyOf Tryz.f204) [Kind.val (.one .str) p0] = ref01_Data p0 := by kernel_rfl
theorem ref01_Data_calls (p0 : ByteArray) (h : Heap) (Q : Value → Heap → Prop) (hh : ref01_Data p0 h fun x h' => Q (.tuple #[.string x.1, .int .i64 x.2.1]) h') :
    HCalls Tryz.prog 204 #[.string p0] h Q := by
  rw [← ref01_Data_den] at hh
  exact calls_of_den Tryz.func204 (by kernel_rfl) Tryz.ntmps204 (by kernel_rfl) (fun f hf => by
      rcases List.mem_cons.1 hf with rfl | hf
      · exact Tryz.call93
      cases hf) orders hh

/-- internal/stringslite.HasPrefix -/
def stringslite_HasPrefix (p0 : ByteArray) (p1 : ByteArray) : HM (Bool × Unit) :=
  HM.bind (α := Bool × Unit) (HM.ite (decide (((ByteArray.size p1 : Nat) : Int) ≤ (((ByteArray.size p0 : Nat) : Int) : Int))) (
  HM.bind (α := ByteArray) (HM.substr p0 none (some ((ByteArray.size p1 : Nat) : Int))) fun (x1 : ByteArray) =>
  HM.pure (decide (x1 = p1), ())) (
  HM.pure (false, ()))) fun (x2 : Bool × Unit) =>
  HM.pure (x2.1, ())

theorem stringslite_HasPrefix_den (p0 : ByteArray) (p1 : ByteArray) : denFn Tryz.prog [] 18 [0, 1, 4] [0, 1] Tryz.f209.results.toList [.one .bool] (bodyOf Tryz.f209) [Kind.val (.one .str) p0, Kind.val (.one .str) p1] = stringslite_HasPrefix p0 p1 := by kernel_rfl
theorem stringslite_HasPrefix_calls (p0 : ByteArray) (p1 : ByteArray) (h : Heap) (Q : Value → Heap → Prop) (hh : stringslite_HasPrefix p0 p1 h fun x h' => Q (.bool x.1) h') :
    HCalls Tryz.prog 209 #[.string p0, .string p1] h Q := by
  rw [← stringslite_HasPrefix_den] at hh
  exact calls_of_den Tryz.func209 (by kernel_rfl) Tryz.ntmps209 (by kernel_rfl) (fun f hf => by cases hf) orders hh

/-- aqueduct/aqueductref02.tail -/
def ref02_tail (p0 : ByteArray) (p1 : Int) (p2 : Int) (p3 : Int) : HM (Bool × Unit) :=
  HM.bind (α := Bool × Unit) (HM.ite (decide (p1 < (((ByteArray.size p0 : Nat) : Int) : Int))) (
  HM.bind (α := Int) (HM.strIdx p0 p1) fun (x1 : Int) =>
  HM.ite (decide (p2 ≤ ((IntKind.wrap .i64 x1) : Int))) (
  HM.bind (α := Int) (HM.strIdx p0 p1) fun (x2 : Int) =>
  HM.pure (decide ((IntKind.wrap .i64 x2) ≤ (p3 : Int)), ())) (
  HM.pure (false, ()))) (
  HM.pure (false, ()))) fun (x3 : Bool × Unit) =>
  HM.pure (x3.1, ())

theorem ref02_tail_den (p0 : ByteArray) (p1 : Int) (p2 : Int) (p3 : Int) : denFn Tryz.prog [] 29 [0, 1, 2, 3, 8] [0, 1, 2, 3] Tryz.f217.results.toList [.one .bool] (bodyOf Tryz.f217) [Kind.val (.one .str) p0, Kind.val (.one (.int .i64)) p1, Kind.val (.one (.int .i64)) p2, Kind.val (.one (.int .i64)) p3] = ref02_tail p0 p1 p2 p3 := by kernel_rfl
theorem ref02_tail_calls (p0 : ByteArray) (p1 : Int) (p2 : Int) (p3 : Int) (h : Heap) (Q : Value → Heap → Prop) (hh : ref02_tail p0 p1 p2 p3 h fun x h' => Q (.bool x.1) h') :
    HCalls Tryz.prog 217 #[.string p0, .int .i64 p1, .int .i64 p2, .int .i64 p3] h Q := by
  rw [← ref02_tail_den] at hh
  exact calls_of_den Tryz.func217 (by kernel_rfl) Tryz.ntmps217 (by kernel_rfl) (fun f hf => by cases hf) orders hh

end Go.Proofs.YtfhalebbcbgbdaaGreatDoor
