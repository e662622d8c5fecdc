/-
  The shallow forms of functions of the program, written by gen.py; each is held against the program by the kernel.
-/
import Derived.Test.YtnmighfcpeifeaaDoorHA
import Derived.Test.YtnmighfcpeifeaaDoorProg
import Derived.KernelRfl
namespace Go.Proofs.YtnmighfcpeifeaaDoor
open Go.H Go.Proofs
set_option linter.unusedVariables false
set_option linter.unusedSimpArgs false
set_option maxRecDepth 100000
set_option maxHeartbeats 4000000

theorem orders : Tryd.prog.follows .mixedOrders = true := by kernel_rfl

/-- aqueduct/aqueductlaw18.SessionKeeps -/
def law18_SessionKeeps (p0 : ByteArray) (p1 : Int) (p2 : Slc) : HM (Bool × Unit) :=
  HM.bind (α := Option Addr) (HM.call1 Tryd.prog (.one .ptr) 10 #[]) fun (x1 : Option Addr) =>
  HM.bind (α := Int × Bool × Int × Unit) (HM.callN Tryd.prog [.one (.int .i64), .one .bool, .one (.int .u8)] 11 #[.pointer x1, .string p0, .bool false, .bool true]) fun (x2 : Int × Bool × Int × Unit) =>
  HM.bind (α := Bool × Unit) (HM.bind (α := Bool) (HM.call1 Tryd.prog (.one .bool) 12 #[]) fun (x3 : Bool) =>
  HM.ite (!x3) (
  HM.pure (true, ())) (
  HM.pure (!(x2.2.2.1 == 0), ()))) fun (x4 : Bool × Unit) =>
  HM.ite x4.1 (
  HM.bind (α := Bool × Unit) (HM.bind (α := Bool) (HM.call1 Tryd.prog (.one .bool) 12 #[]) fun (x5 : Bool) =>
  HM.ite x5 (
  HM.pure (x2.2.2.1 == 133, ())) (
  HM.pure (false, ()))) fun (x6 : Bool × Unit) =>
  HM.pure (x6.1, ())) (
  HM.req (50 ≠ (0 : Int)) <|
  HM.bind (α := Int × Unit) (HM.loop (σ := Int × Unit) (τ := Int × Unit) (fun (x8 : Int × Unit) =>
  HM.ite (decide (x8.1 < ((Int.tmod (if 0 < (p1 : Int) then p1 else 0) 50) : Int))) (
  HM.both (
  HM.bind (α := Option Addr) (HM.call1 Tryd.prog (.one .ptr) 13 #[.pointer x1, .int .i64 x2.1]) fun (x9 : Option Addr) =>
  HM.bind (α := Nat) (HM.new (.cells #[.int .u8 (IntKind.wrap .u8 x8.1)] 5)) fun (x10 : Nat) =>
  HM.bind (α := ByteArray) (HM.strOf (⟨some ⟨x10, 0, none⟩, 1, 1⟩)) fun (x11 : ByteArray) =>
  HM.bind (α := Slc × Int × Unit) (HM.callN Tryd.prog [.one .slc, .one (.int .u8)] 14 #[.pointer x9, .agg #[.string (ByteArray.mk #[116]), .string x11, .int .i64 1, .bool false, .string (ByteArray.mk #[])]]) fun (x12 : Slc × Int × Unit) =>
  HM.pure (.inl (IntKind.wrap .i64 (x8.1 + 1), ()))) (
  HM.bind (α := Nat) (HM.new (.cells #[.int .u8 (IntKind.wrap .u8 x8.1)] 5)) fun (x13 : Nat) =>
  HM.both (
  HM.bind (α := Option Addr) (HM.call1 Tryd.prog (.one .ptr) 13 #[.pointer x1, .int .i64 x2.1]) fun (x14 : Option Addr) =>
  HM.bind (α := ByteArray) (HM.strOf (⟨some ⟨x13, 0, none⟩, 1, 1⟩)) fun (x15 : ByteArray) =>
  HM.bind (α := Slc × Int × Unit) (HM.callN Tryd.prog [.one .slc, .one (.int .u8)] 14 #[.pointer x14, .agg #[.string (ByteArray.mk #[116]), .string x15, .int .i64 1, .bool false, .string (ByteArray.mk #[])]]) fun (x16 : Slc × Int × Unit) =>
  HM.pure (.inl (IntKind.wrap .i64 (x8.1 + 1), ()))) (
  HM.bind (α := ByteArray) (HM.strOf (⟨some ⟨x13, 0, none⟩, 1, 1⟩)) fun (x17 : ByteArray) =>
  HM.bind (α := Option Addr) (HM.call1 Tryd.prog (.one .ptr) 13 #[.pointer x1, .int .i64 x2.1]) fun (x18 : Option Addr) =>
  HM.bind (α := Slc × Int × Unit) (HM.callN Tryd.prog [.one .slc, .one (.int .u8)] 14 #[.pointer x18, .agg #[.string (ByteArray.mk #[116]), .string x17, .int .i64 1, .bool false, .string (ByteArray.mk #[])]]) fun (x19 : Slc × Int × Unit) =>
  HM.pure (.inl (IntKind.wrap .i64 (x8.1 + 1), ()))))) (
  HM.pure (.inr (x8.1, ())))) (0, ())) fun (x7 : Int × Unit) =>
  HM.bind (α := Slc) (HM.slice p2 none (some (if 20 < (((p2.len : Nat) : Int) : Int) then 20 else ((p2.len : Nat) : Int))) none 1) fun (x20 : Slc) =>
  HM.bind (α := (Int × Int × Int × Unit) ⊕ (Bool × Unit)) (HM.loop (σ := Int × Int × Int × Unit) (τ := (Int × Int × Int × Unit) ⊕ (Bool × Unit)) (fun (x22 : Int × Int × Int × Unit) =>
  HM.ite (decide (x22.2.2.1 < (((x20.len : Nat) : Int) : Int))) (
  HM.bind (α := Addr) (HM.idx x20.a x20.len x22.2.2.1 1) fun (x23 : Addr) =>
  HM.bind (α := Bool) (HM.load1 .bool x23) fun (x24 : Bool) =>
  HM.bind (α := Bool) (HM.call1 Tryd.prog (.one .bool) 15 #[.pointer x1, .int .i64 x22.1]) fun (x25 : Bool) =>
  HM.ite x25 (
  HM.pure (.inr (.inr (false, ())))) (
  HM.bind (α := Int × Bool × Int × Unit) (HM.callN Tryd.prog [.one (.int .i64), .one .bool, .one (.int .u8)] 11 #[.pointer x1, .string p0, .bool x24, .bool true]) fun (x26 : Int × Bool × Int × Unit) =>
  HM.bind (α := Bool × Unit) (HM.ite (!(x26.2.2.1 == 0)) (
  HM.pure (true, ())) (
  HM.ite (x26.2.1 == x24) (
  HM.pure (true, ())) (
  HM.pure ((x26.1 == x22.1) == x24, ())))) fun (x27 : Bool × Unit) =>
  HM.ite x27.1 (
  HM.pure (.inr (.inr (false, ())))) (
  HM.bind (α := Int × Unit) (HM.ite x24 (
  HM.pure (0, ())) (
  HM.pure (x22.2.1, ()))) fun (x28 : Int × Unit) =>
  HM.bind (α := Option Addr) (HM.call1 Tryd.prog (.one .ptr) 13 #[.pointer x1, .int .i64 x26.1]) fun (x29 : Option Addr) =>
  HM.bind (α := Slc) (HM.call1 Tryd.prog (.one .slc) 16 #[.pointer x29]) fun (x30 : Slc) =>
  HM.ite (!(((x30.len : Nat) : Int) == x28.1)) (
  HM.pure (.inr (.inr (false, ())))) (
  HM.pure (.inl (x26.1, x28.1, IntKind.wrap .i64 (x22.2.2.1 + 1), ())))))) (
  HM.pure (.inr (.inl (x22.1, x22.2.1, x22.2.2.1, ()))))) (x2.1, Int.tmod (if 0 < (p1 : Int) then p1 else 0) 50, 0, ())) (Sum.elim (fun (x21 : Int × Int × Int × Unit) =>
  HM.bind (α := Option Addr) (HM.call1 Tryd.prog (.one .ptr) 13 #[.pointer x1, .int .i64 x21.1]) fun (x31 : Option Addr) =>
  HM.bind (α := Slc) (HM.call1 Tryd.prog (.one .slc) 17 #[.pointer x31, .int .i64 64]) fun (x32 : Slc) =>
  HM.bind (α := (Int × Unit) ⊕ (Bool × Unit)) (HM.loop (σ := Int × Unit) (τ := (Int × Unit) ⊕ (Bool × Unit)) (fun (x34 : Int × Unit) =>
  HM.ite (decide (x34.1 < (((x32.len : Nat) : Int) : Int))) (
  HM.bind (α := Addr) (HM.idx x32.a x32.len x34.1 26) fun (x35 : Addr) =>
  HM.bind (α := Int × Bool × Bool × Int × Int × ByteArray × ByteArray × Int × Slc × Slc × ByteArray × Bool × Int × Bool × ByteArray × ByteArray × Int × Bool × Slc × Bool × Bool × ByteArray × ByteArray × Bool × Slc × Slc × Unit) (HM.loadN [.int .i64, .bool, .bool, .int .i64, .int .i64, .str, .str, .int .u8, .slc, .slc, .str, .bool, .int .i64, .bool, .str, .str, .int .i64, .bool, .slc, .bool, .bool, .str, .str, .bool, .slc, .slc] x35) fun (x36 : Int × Bool × Bool × Int × Int × ByteArray × ByteArray × Int × Slc × Slc × ByteArray × Bool × Int × Bool × ByteArray × ByteArray × Int × Bool × Slc × Bool × Bool × ByteArray × ByteArray × Bool × Slc × Slc × Unit) =>
  HM.bind (α := Nat) (HM.new (.cells #[.int .i64 0, .bool false, .bool false, .int .i64 0, .int .i64 0, .string (ByteArray.mk #[]), .string (ByteArray.mk #[]), .int .u8 0, .slice none 0 0, .slice none 0 0, .string (ByteArray.mk #[]), .bool false, .int .i64 0, .bool false, .string (ByteArray.mk #[]), .string (ByteArray.mk #[]), .int .i64 0, .bool false, .slice none 0 0, .bool false, .bool false, .string (ByteArray.mk #[]), .string (ByteArray.mk #[]), .bool false, .slice none 0 0, .slice none 0 0] 49)) fun (x37 : Nat) =>
  HM.bind (α := Unit) (HM.storeN ⟨x37, 0, none⟩ [.int .i64 x36.1, .bool x36.2.1, .bool x36.2.2.1, .int .i64 x36.2.2.2.1, .int .i64 x36.2.2.2.2.1, .string x36.2.2.2.2.2.1, .string x36.2.2.2.2.2.2.1, .int .u8 x36.2.2.2.2.2.2.2.1, .slice x36.2.2.2.2.2.2.2.2.1.a x36.2.2.2.2.2.2.2.2.1.len x36.2.2.2.2.2.2.2.2.1.cap, .slice x36.2.2.2.2.2.2.2.2.2.1.a x36.2.2.2.2.2.2.2.2.2.1.len x36.2.2.2.2.2.2.2.2.2.1.cap, .string x36.2.2.2.2.2.2.2.2.2.2.1, .bool x36.2.2.2.2.2.2.2.2.2.2.2.1, .int .i64 x36.2.2.2.2.2.2.2.2.2.2.2.2.1, .bool x36.2.2.2.2.2.2.2.2.2.2.2.2.2.1, .string x36.2.2.2.2.2.2.2.2.2.2.2.2.2.2.1, .string x36.2.2.2.2.2.2.2.2.2.2.2.2.2.2.2.1, .int .i64 x36.2.2.2.2.2.2.2.2.2.2.2.2.2.2.2.2.1, .bool x36.2.2.2.2.2.2.2.2.2.2.2.2.2.2.2.2.2.1, .slice x36.2.2.2.2.2.2.2.2.2.2.2.2.2.2.2.2.2.2.1.a x36.2.2.2.2.2.2.2.2.2.2.2.2.2.2.2.2.2.2.1.len x36.2.2.2.2.2.2.2.2.2.2.2.2.2.2.2.2.2.2.1.cap, .bool x36.2.2.2.2.2.2.2.2.2.2.2.2.2.2.2.2.2.2.2.1, .bool x36.2.2.2.2.2.2.2.2.2.2.2.2.2.2.2.2.2.2.2.2.1, .string x36.2.2.2.2.2.2.2.2.2.2.2.2.2.2.2.2.2.2.2.2.2.1, .string x36.2.2.2.2.2.2.2.2.2.2.2.2.2.2.2.2.2.2.2.2.2.2.1, .bool x36.2.2.2.2.2.2.2.2.2.2.2.2.2.2.2.2.2.2.2.2.2.2.2.1, .slice x36.2.2.2.2.2.2.2.2.2.2.2.2.2.2.2.2.2.2.2.2.2.2.2.2.1.a x36.2.2.2.2.2.2.2.2.2.2.2.2.2.2.2.2.2.2.2.2.2.2.2.2.1.len x36.2.2.2.2.2.2.2.2.2.2.2.2.2.2.2.2.2.2.2.2.2.2.2.2.1.cap, .slice x36.2.2.2.2.2.2.2.2.2.2.2.2.2.2.2.2.2.2.2.2.2.2.2.2.2.1.a x36.2.2.2.2.2.2.2.2.2.2.2.2.2.2.2.2.2.2.2.2.2.2.2.2.2.1.len x36.2.2.2.2.2.2.2.2.2.2.2.2.2.2.2.2.2.2.2.2.2.2.2.2.2.1.cap]) fun (_ : Unit) =>
  HM.bind (α := Bool × Unit) (HM.bind (α := Int) (HM.load1 (.int .i64) (Addr.add ⟨x37, 0, none⟩ 0)) fun (x38 : Int) =>
  HM.ite (!(x38 == 3)) (
  HM.pure (true, ())) (
  HM.bind (α := ByteArray) (HM.load1 .str (Addr.add ⟨x37, 0, none⟩ 6)) fun (x39 : ByteArray) =>
  HM.bind (α := Nat) (HM.new (.cells #[.int .u8 (IntKind.wrap .u8 x34.1)] 5)) fun (x40 : Nat) =>
  HM.bind (α := ByteArray) (HM.strOf (⟨some ⟨x40, 0, none⟩, 1, 1⟩)) fun (x41 : ByteArray) =>
  HM.pure (!(decide (x39 = x41)), ()))) fun (x42 : Bool × Unit) =>
  HM.ite x42.1 (
  HM.pure (.inr (.inr (false, ())))) (
  HM.pure (.inl (IntKind.wrap .i64 (x34.1 + 1), ())))) (
  HM.pure (.inr (.inl (x34.1, ()))))) (0, ())) (Sum.elim (fun (x33 : Int × Unit) =>
  HM.pure (((x32.len : Nat) : Int) == x21.2.1, ())) HM.pure)) HM.pure))

theorem law18_SessionKeeps_den (p0 : ByteArray) (p1 : Int) (p2 : Slc) : denFn Tryd.prog [10, 11, 12, 13, 14, 15, 16, 17] 129 [0, 1, 2, 6, 7, 8, 10, 11, 13, 14, 15, 16, 17, 18, 19, 33, 42, 43, 44, 60, 61, 62, 63, 68, 90, 92, 99, 105, 106, 107, 108, 123] [0, 1, 2, 7, 8, 10, 11, 13, 14, 15, 16, 17, 18, 19, 33, 42, 43, 44, 60, 61, 62, 63, 68, 90, 92, 99, 105, 106, 107, 108, 123] Tryd.f3.results.toList [.one .bool] (bodyOf Tryd.f3) [Kind.val (.one .str) p0, Kind.val (.one (.int .i64)) p1, Kind.val (.one .slc) p2] = law18_SessionKeeps p0 p1 p2 := by kernel_rfl
theorem law18_SessionKeeps_calls (p0 : ByteArray) (p1 : Int) (p2 : Slc) (h : Heap) (Q : Value → Heap → Prop) (hh : law18_SessionKeeps p0 p1 p2 h fun x h' => Q (.bool x.1) h') :
    HCalls Tryd.prog 3 #[.string p0, .int .i64 p1, .slice p2.a p2.len p2.cap] h Q := by
  rw [← law18_SessionKeeps_den] at hh
  exact calls_of_den Tryd.func3 (by kernel_rfl) Tryd.ntmps3 (by kernel_rfl) (fun f hf => by
      rcases List.mem_cons.1 hf with rfl | hf
      · exact Tryd.call10
      rcases List.mem_cons.1 hf with rfl | hf
      · exact Tryd.call11
      rcases List.mem_cons.1 hf with rfl | hf
      · exact Tryd.call12
      rcases List.mem_cons.1 hf with rfl | hf
      · exact Tryd.call13
      rcases List.mem_cons.1 hf with rfl | hf
      · exact Tryd.call14
      rcases List.mem_cons.1 hf with rfl | hf
      · exact Tryd.call15
      rcases List.mem_cons.1 hf with rfl | hf
      · exact Tryd.call16
      rcases List.mem_cons.1 hf with rfl | hf
      · exact Tryd.call17
      cases hf) orders hh

/-- aqueduct/session.New -/
def session_New : HM (Option Addr × Unit) :=
  HM.bind (α := Nat) (HM.new (.map #[] 0)) fun (x1 : Nat) =>
  HM.bind (α := Nat) (HM.new (.cells #[.int .i64 0, .map (some x1)] 105)) fun (x2 : Nat) =>
  HM.pure (some ⟨x2, 0, none⟩, ())

theorem session_New_den : denFn Tryd.prog [] 4 [0] [] Tryd.f10.results.toList [.one .ptr] (bodyOf Tryd.f10) [] = session_New := by kernel_rfl
theorem session_New_calls (h : Heap) (Q : Value → Heap → Prop) (hh : session_New h fun x h' => Q (.pointer x.1) h') :
    HCalls Tryd.prog 10 #[] h Q := by
  rw [← session_New_den] at hh
  exact calls_of_den Tryd.func10 (by kernel_rfl) Tryd.ntmps10 (by kernel_rfl) (fun f hf => by cases hf) orders hh

/-- (*aqueduct/session.Table).Begin -/
def session_Table_Begin (p0 : Option Addr) (p1 : ByteArray) (p2 : Bool) (p3 : Bool) : HM (Int × Bool × Int × Unit) :=
  HM.bind (α := Int × Bool × Unit) (HM.callN Tryd.prog [.one (.int .i64), .one .bool] 41 #[.string p1]) fun (x1 : Int × Bool × Unit) =>
  HM.ite (Option.isNone p0) (
  HM.pure (0, false, 128, ())) (
  HM.bind (α := Bool × Unit) (HM.ite x1.2.1 (
  HM.pure (true, ())) (
  HM.ite (decide (p1 = (ByteArray.mk #[]))) (
  HM.pure (true, ())) (
  HM.pure (decide (64 < (((ByteArray.size p1 : Nat) : Int) : Int)), ())))) fun (x2 : Bool × Unit) =>
  HM.ite x2.1 (
  HM.pure (0, false, 133, ())) (
  HM.bind (α := Option Addr) (HM.call1 Tryd.prog (.one .ptr) 42 #[.pointer p0, .string p1]) fun (x3 : Option Addr) =>
  HM.bind (α := Bool × Unit) (HM.ite (!(Option.isNone x3)) (
  HM.pure (!p2, ())) (
  HM.pure (false, ()))) fun (x4 : Bool × Unit) =>
  HM.ite x4.1 (
  HM.bind (α := Addr) (HM.nonnil x3) fun (x5 : Addr) =>
  HM.bind (α := Unit) (HM.store1 (Addr.add (Addr.add x5 0) 3) (.bool true)) fun (_ : Unit) =>
  HM.bind (α := Addr) (HM.nonnil x3) fun (x6 : Addr) =>
  HM.bind (α := Unit) (HM.store1 (Addr.add (Addr.add x6 0) 2) (.bool p3)) fun (_ : Unit) =>
  HM.bind (α := Addr) (HM.nonnil x3) fun (x7 : Addr) =>
  HM.bind (α := Int) (HM.load1 (.int .i64) (Addr.add (Addr.add x7 0) 0)) fun (x8 : Int) =>
  HM.pure (x8, true, 0, ())) (
  HM.bind (α := (Unit) ⊕ (Int × Bool × Int × Unit)) (HM.ite (!(Option.isNone x3)) (
  HM.bind (α := Addr) (HM.nonnil p0) fun (x10 : Addr) =>
  HM.bind (α := Option Nat) (HM.load1 .map (Addr.add x10 1)) fun (x11 : Option Nat) =>
  HM.bind (α := Addr) (HM.nonnil x3) fun (x12 : Addr) =>
  HM.bind (α := Int) (HM.load1 (.int .i64) (Addr.add (Addr.add x12 0) 0)) fun (x13 : Int) =>
  HM.bind (α := Unit) (HM.mapDel (Instr.sameNow (.int .i64)) x11 (.int .i64 x13)) fun (_ : Unit) =>
  HM.pure (.inl ())) (
  HM.bind (α := Addr) (HM.nonnil p0) fun (x14 : Addr) =>
  HM.bind (α := Option Nat) (HM.load1 .map (Addr.add x14 1)) fun (x15 : Option Nat) =>
  HM.bind (α := Int) (HM.mapLen x15) fun (x16 : Int) =>
  HM.ite (decide (32 ≤ (x16 : Int))) (
  HM.pure (.inr (0, false, 151, ()))) (
  HM.pure (.inl ())))) (Sum.elim (fun (x9 : Unit) =>
  HM.bind (α := Addr) (HM.nonnil p0) fun (x17 : Addr) =>
  HM.bind (α := Int) (HM.load1 (.int .i64) (Addr.add x17 0)) fun (x18 : Int) =>
  HM.bind (α := Addr) (HM.nonnil p0) fun (x19 : Addr) =>
  HM.bind (α := Unit) (HM.store1 (Addr.add x19 0) (.int .i64 (IntKind.wrap .i64 (x18 + 1)))) fun (_ : Unit) =>
  HM.bind (α := Addr) (HM.nonnil p0) fun (x20 : Addr) =>
  HM.bind (α := Option Nat) (HM.load1 .map (Addr.add x20 1)) fun (x21 : Option Nat) =>
  HM.bind (α := Addr) (HM.nonnil p0) fun (x22 : Addr) =>
  HM.bind (α := Int) (HM.load1 (.int .i64) (Addr.add x22 0)) fun (x23 : Int) =>
  HM.bind (α := Addr) (HM.nonnil p0) fun (x24 : Addr) =>
  HM.bind (α := Int) (HM.load1 (.int .i64) (Addr.add x24 0)) fun (x25 : Int) =>
  HM.bind (α := Option Addr) (HM.call1 Tryd.prog (.one .ptr) 43 #[.int .i64 64]) fun (x26 : Option Addr) =>
  HM.bind (α := Int) (HM.load1 (.int .i64) (Addr.add x24 0)) fun (x27 : Int) =>
  HM.req ((.int .i64 x27 : Value) = .int .i64 x25) <|
  HM.bind (α := Int) (HM.load1 (.int .i64) (Addr.add x22 0)) fun (x28 : Int) =>
  HM.req ((.int .i64 x28 : Value) = .int .i64 x23) <|
  HM.bind (α := Option Nat) (HM.load1 .map (Addr.add x20 1)) fun (x29 : Option Nat) =>
  HM.req ((.map x29 : Value) = .map x21) <|
  HM.bind (α := Option Addr) (HM.call1 Tryd.prog (.one .ptr) 44 #[.int .i64 64]) fun (x30 : Option Addr) =>
  HM.bind (α := Int) (HM.load1 (.int .i64) (Addr.add x24 0)) fun (x31 : Int) =>
  HM.req ((.int .i64 x31 : Value) = .int .i64 x25) <|
  HM.bind (α := Int) (HM.load1 (.int .i64) (Addr.add x22 0)) fun (x32 : Int) =>
  HM.req ((.int .i64 x32 : Value) = .int .i64 x23) <|
  HM.bind (α := Option Nat) (HM.load1 .map (Addr.add x20 1)) fun (x33 : Option Nat) =>
  HM.req ((.map x33 : Value) = .map x21) <|
  HM.bind (α := Nat) (HM.new (.cells #[.int .i64 x25, .string p1, .bool p3, .bool true, .pointer x26, .pointer x30] 114)) fun (x34 : Nat) =>
  HM.bind (α := Int) (HM.load1 (.int .i64) (Addr.add x22 0)) fun (x35 : Int) =>
  HM.req ((.int .i64 x35 : Value) = .int .i64 x23) <|
  HM.bind (α := Option Nat) (HM.load1 .map (Addr.add x20 1)) fun (x36 : Option Nat) =>
  HM.req ((.map x36 : Value) = .map x21) <|
  HM.bind (α := Unit) (HM.mapSet (Instr.sameNow (.int .i64)) x21 (.int .i64 x23) (.pointer (some ⟨x34, 0, none⟩))) fun (_ : Unit) =>
  HM.bind (α := Addr) (HM.nonnil p0) fun (x37 : Addr) =>
  HM.bind (α := Int) (HM.load1 (.int .i64) (Addr.add x37 0)) fun (x38 : Int) =>
  HM.pure (x38, false, 0, ())) HM.pure))))

theorem session_Table_Begin_den (p0 : Option Addr) (p1 : ByteArray) (p2 : Bool) (p3 : Bool) : denFn Tryd.prog [41, 42, 43, 44] 106 [0, 1, 2, 3, 8, 9, 10, 12, 13, 19, 22, 36, 57, 69] [0, 1, 2, 3, 12, 13, 19, 22, 36, 57, 69] Tryd.f11.results.toList [.one (.int .i64), .one .bool, .one (.int .u8)] (bodyOf Tryd.f11) [Kind.val (.one .ptr) p0, Kind.val (.one .str) p1, Kind.val (.one .bool) p2, Kind.val (.one .bool) p3] = session_Table_Begin p0 p1 p2 p3 := by kernel_rfl
theorem session_Table_Begin_calls (p0 : Option Addr) (p1 : ByteArray) (p2 : Bool) (p3 : Bool) (h : Heap) (Q : Value → Heap → Prop) (hh : session_Table_Begin p0 p1 p2 p3 h fun x h' => Q (.tuple #[.int .i64 x.1, .bool x.2.1, .int .u8 x.2.2.1]) h') :
    HCalls Tryd.prog 11 #[.pointer p0, .string p1, .bool p2, .bool p3] h Q := by
  rw [← session_Table_Begin_den] at hh
  exact calls_of_den Tryd.func11 (by kernel_rfl) Tryd.ntmps11 (by kernel_rfl) (fun f hf => by
      rcases List.mem_cons.1 hf with rfl | hf
      · exact Tryd.call41
      rcases List.mem_cons.1 hf with rfl | hf
      · exact Tryd.call42
      rcases List.mem_cons.1 hf with rfl | hf
      · exact Tryd.call43
      rcases List.mem_cons.1 hf with rfl | hf
      · exact Tryd.call44
      cases hf) orders hh

/-- aqueduct/aqueductlaw18.wakes -/
def law18_wakes : HM (Bool × Unit) :=
  HM.bind (α := Option Addr) (HM.call1 Tryd.prog (.one .ptr) 10 #[]) fun (x1 : Option Addr) =>
  HM.bind (α := Int × Bool × Int × Unit) (HM.callN Tryd.prog [.one (.int .i64), .one .bool, .one (.int .u8)] 11 #[.pointer x1, .string (ByteArray.mk #[99]), .bool false, .bool true]) fun (x2 : Int × Bool × Int × Unit) =>
  HM.bind (α := Bool) (HM.call1 Tryd.prog (.one .bool) 15 #[.pointer x1, .int .i64 1]) fun (x3 : Bool) =>
  HM.bind (α := Int × Bool × Int × Unit) (HM.callN Tryd.prog [.one (.int .i64), .one .bool, .one (.int .u8)] 11 #[.pointer x1, .string (ByteArray.mk #[99]), .bool false, .bool false]) fun (x4 : Int × Bool × Int × Unit) =>
  HM.bind (α := Bool) (HM.call1 Tryd.prog (.one .bool) 15 #[.pointer x1, .int .i64 1]) fun (x5 : Bool) =>
  HM.bind (α := Int × Bool × Int × Unit) (HM.callN Tryd.prog [.one (.int .i64), .one .bool, .one (.int .u8)] 11 #[.pointer x1, .string (ByteArray.mk #[99]), .bool false, .bool true]) fun (x6 : Int × Bool × Int × Unit) =>
  HM.bind (α := Bool × Unit) (HM.ite (x2.1 == 1) (
  HM.ite (!x2.2.1) (
  HM.ite (x2.2.2.1 == 0) (
  HM.ite (!x3) (
  HM.ite (x4.1 == 1) (
  HM.ite x4.2.1 (
  HM.ite (x4.2.2.1 == 0) (
  HM.ite x5 (
  HM.ite (x6.1 == 2) (
  HM.ite (!x6.2.1) (
  HM.pure (x6.2.2.1 == 0, ())) (
  HM.pure (false, ()))) (
  HM.pure (false, ()))) (
  HM.pure (false, ()))) (
  HM.pure (false, ()))) (
  HM.pure (false, ()))) (
  HM.pure (false, ()))) (
  HM.pure (false, ()))) (
  HM.pure (false, ()))) (
  HM.pure (false, ()))) (
  HM.pure (false, ()))) fun (x7 : Bool × Unit) =>
  HM.pure (x7.1, ())

theorem law18_wakes_den : denFn Tryd.prog [10, 11, 15] 76 [0, 1, 2, 3, 4, 5, 6, 7, 8, 9, 10, 11, 12] [1, 2, 3, 4, 5, 6, 7, 8, 9, 10, 11, 12] Tryd.f12.results.toList [.one .bool] (bodyOf Tryd.f12) [] = law18_wakes := by kernel_rfl
theorem law18_wakes_calls (h : Heap) (Q : Value → Heap → Prop) (hh : law18_wakes h fun x h' => Q (.bool x.1) h') :
    HCalls Tryd.prog 12 #[] h Q := by
  rw [← law18_wakes_den] at hh
  exact calls_of_den Tryd.func12 (by kernel_rfl) Tryd.ntmps12 (by kernel_rfl) (fun f hf => by
      rcases List.mem_cons.1 hf with rfl | hf
      · exact Tryd.call10
      rcases List.mem_cons.1 hf with rfl | hf
      · exact Tryd.call11
      rcases List.mem_cons.1 hf with rfl | hf
      · exact Tryd.call15
      cases hf) orders hh

/-- (*aqueduct/session.Table).Out -/
def session_Table_Out (p0 : Option Addr) (p1 : Int) : HM (Option Addr × Unit) :=
  HM.bind (α := Option Addr) (HM.call1 Tryd.prog (.one .ptr) 45 #[.pointer p0, .int .i64 p1]) fun (x1 : Option Addr) =>
  HM.ite (!(Option.isNone x1)) (
  HM.bind (α := Addr) (HM.nonnil x1) fun (x2 : Addr) =>
  HM.bind (α := Option Addr) (HM.load1 .ptr (Addr.add x2 4)) fun (x3 : Option Addr) =>
  HM.pure (x3, ())) (
  HM.pure (none, ()))

theorem session_Table_Out_den (p0 : Option Addr) (p1 : Int) : denFn Tryd.prog [45] 15 [0, 1, 4, 5, 10] [0, 1, 5, 10] Tryd.f13.results.toList [.one .ptr] (bodyOf Tryd.f13) [Kind.val (.one .ptr) p0, Kind.val (.one (.int .i64)) p1] = session_Table_Out p0 p1 := by kernel_rfl
theorem session_Table_Out_calls (p0 : Option Addr) (p1 : Int) (h : Heap) (Q : Value → Heap → Prop) (hh : session_Table_Out p0 p1 h fun x h' => Q (.pointer x.1) h') :
    HCalls Tryd.prog 13 #[.pointer p0, .int .i64 p1] h Q := by
  rw [← session_Table_Out_den] at hh
  exact calls_of_den Tryd.func13 (by kernel_rfl) Tryd.ntmps13 (by kernel_rfl) (fun f hf => by
      rcases List.mem_cons.1 hf with rfl | hf
      · exact Tryd.call45
      cases hf) orders hh

/-- (*aqueduct/outflow.Flow).Send -/
def outflow_Flow_Send (p0 : Option Addr) (p1 : ByteArray × ByteArray × Int × Bool × ByteArray × Unit) : HM (Slc × Int × Unit) :=
  HM.bind (α := Nat) (HM.new (.cells #[.string p1.1, .string p1.2.1, .int .i64 p1.2.2.1, .bool p1.2.2.2.1, .string p1.2.2.2.2.1] 36)) fun (x1 : Nat) =>
  HM.ite (Option.isNone p0) (
  HM.pure (⟨none, 0, 0⟩, 128, ())) (
  HM.bind (α := Bool × Unit) (HM.bind (α := Int) (HM.load1 (.int .i64) (Addr.add ⟨x1, 0, none⟩ 2)) fun (x2 : Int) =>
  HM.ite (decide (x2 < (0 : Int))) (
  HM.pure (true, ())) (
  HM.bind (α := Int) (HM.load1 (.int .i64) (Addr.add ⟨x1, 0, none⟩ 2)) fun (x3 : Int) =>
  HM.pure (decide (2 < (x3 : Int)), ()))) fun (x4 : Bool × Unit) =>
  HM.ite x4.1 (
  HM.pure (⟨none, 0, 0⟩, 155, ())) (
  HM.bind (α := Bool × Unit) (HM.bind (α := Int) (HM.load1 (.int .i64) (Addr.add ⟨x1, 0, none⟩ 2)) fun (x5 : Int) =>
  HM.ite (x5 == 0) (
  HM.bind (α := Addr) (HM.nonnil p0) fun (x6 : Addr) =>
  HM.bind (α := Bool) (HM.load1 .bool (Addr.add x6 2)) fun (x7 : Bool) =>
  HM.pure (!x7, ())) (
  HM.pure (false, ()))) fun (x8 : Bool × Unit) =>
  HM.ite x8.1 (
  HM.pure (⟨none, 0, 0⟩, 0, ())) (
  HM.bind (α := Addr) (HM.nonnil p0) fun (x9 : Addr) =>
  HM.bind (α := Slc) (HM.load1 .slc (Addr.add x9 4)) fun (x10 : Slc) =>
  HM.ite (decide (256 ≤ (((x10.len : Nat) : Int) : Int))) (
  HM.pure (⟨none, 0, 0⟩, 151, ())) (
  HM.bind (α := Addr) (HM.nonnil p0) fun (x11 : Addr) =>
  HM.bind (α := Slc) (HM.load1 .slc (Addr.add x11 4)) fun (x12 : Slc) =>
  HM.bind (α := ByteArray × ByteArray × Int × Bool × ByteArray × Unit) (HM.loadN [.str, .str, .int .i64, .bool, .str] ⟨x1, 0, none⟩) fun (x13 : ByteArray × ByteArray × Int × Bool × ByteArray × Unit) =>
  HM.bind (α := Nat) (HM.new (.cells #[.string x13.1, .string x13.2.1, .int .i64 x13.2.2.1, .bool x13.2.2.2.1, .string x13.2.2.2.2.1] 36)) fun (x14 : Nat) =>
  HM.bind (α := Slc) (HM.load1 .slc (Addr.add x11 4)) fun (x15 : Slc) =>
  HM.req ((.slice x15.a x15.len x15.cap : Value) = .slice x12.a x12.len x12.cap) <|
  HM.bind (α := Slc) (HM.append 36 5 64 #[.string (ByteArray.mk #[]), .string (ByteArray.mk #[]), .int .i64 0, .bool false, .string (ByteArray.mk #[])] x12 1 (srcSlc 5 (⟨some ⟨x14, 0, none⟩, 1, 1⟩))) fun (x16 : Slc) =>
  HM.bind (α := Addr) (HM.nonnil p0) fun (x17 : Addr) =>
  HM.bind (α := Unit) (HM.store1 (Addr.add x17 4) (.slice x16.a x16.len x16.cap)) fun (_ : Unit) =>
  HM.bind (α := Slc) (HM.call1 Tryd.prog (.one .slc) 46 #[.pointer p0, .slice none 0 0]) fun (x18 : Slc) =>
  HM.pure (x18, 0, ())))))

theorem outflow_Flow_Send_den (p0 : Option Addr) (p1 : ByteArray × ByteArray × Int × Bool × ByteArray × Unit) : denFn Tryd.prog [46] 48 [0, 1, 3, 4, 5, 6, 9, 18, 29] [0, 1, 3, 6, 9, 18, 29] Tryd.f14.results.toList [.one .slc, .one (.int .u8)] (bodyOf Tryd.f14) [Kind.val (.one .ptr) p0, Kind.val (.agg [.str, .str, .int .i64, .bool, .str]) p1] = outflow_Flow_Send p0 p1 := by kernel_rfl
theorem outflow_Flow_Send_calls (p0 : Option Addr) (p1 : ByteArray × ByteArray × Int × Bool × ByteArray × Unit) (h : Heap) (Q : Value → Heap → Prop) (hh : outflow_Flow_Send p0 p1 h fun x h' => Q (.tuple #[.slice x.1.a x.1.len x.1.cap, .int .u8 x.2.1]) h') :
    HCalls Tryd.prog 14 #[.pointer p0, .agg #[.string p1.1, .string p1.2.1, .int .i64 p1.2.2.1, .bool p1.2.2.2.1, .string p1.2.2.2.2.1]] h Q := by
  rw [← outflow_Flow_Send_den] at hh
  exact calls_of_den Tryd.func14 (by kernel_rfl) Tryd.ntmps14 (by kernel_rfl) (fun f hf => by
      rcases List.mem_cons.1 hf with rfl | hf
      · exact Tryd.call46
      cases hf) orders hh

/-- (*aqueduct/session.Table).End -/
def session_Table_End (p0 : Option Addr) (p1 : Int) : HM (Bool × Unit) :=
  HM.bind (α := Option Addr) (HM.call1 Tryd.prog (.one .ptr) 45 #[.pointer p0, .int .i64 p1]) fun (x1 : Option Addr) =>
  HM.bind (α := Bool × Unit) (HM.ite (Option.isNone x1) (
  HM.pure (true, ())) (
  HM.bind (α := Addr) (HM.nonnil x1) fun (x2 : Addr) =>
  HM.bind (α := Bool) (HM.load1 .bool (Addr.add (Addr.add x2 0) 3)) fun (x3 : Bool) =>
  HM.pure (!x3, ()))) fun (x4 : Bool × Unit) =>
  HM.ite x4.1 (
  HM.pure (false, ())) (
  HM.bind (α := Addr) (HM.nonnil x1) fun (x5 : Addr) =>
  HM.bind (α := Unit) (HM.store1 (Addr.add (Addr.add x5 0) 3) (.bool false)) fun (_ : Unit) =>
  HM.bind (α := Addr) (HM.nonnil x1) fun (x6 : Addr) =>
  HM.bind (α := Option Addr) (HM.load1 .ptr (Addr.add x6 4)) fun (x7 : Option Addr) =>
  HM.bind (α := Unit) (HM.callN Tryd.prog [] 47 #[.pointer x7]) fun (x8 : Unit) =>
  HM.bind (α := Addr) (HM.nonnil x1) fun (x9 : Addr) =>
  HM.bind (α := Bool) (HM.load1 .bool (Addr.add (Addr.add x9 0) 2)) fun (x10 : Bool) =>
  HM.bind (α := Unit) (HM.ite (!x10) (
  HM.bind (α := Addr) (HM.nonnil p0) fun (x12 : Addr) =>
  HM.bind (α := Option Nat) (HM.load1 .map (Addr.add x12 1)) fun (x13 : Option Nat) =>
  HM.bind (α := Unit) (HM.mapDel (Instr.sameNow (.int .i64)) x13 (.int .i64 p1)) fun (_ : Unit) =>
  HM.pure ()) (
  HM.pure ())) fun (x11 : Unit) =>
  HM.bind (α := Addr) (HM.nonnil x1) fun (x14 : Addr) =>
  HM.bind (α := Bool) (HM.load1 .bool (Addr.add (Addr.add x14 0) 2)) fun (x15 : Bool) =>
  HM.pure (!x15, ()))

theorem session_Table_End_den (p0 : Option Addr) (p1 : Int) : denFn Tryd.prog [45, 47] 45 [0, 1, 4, 5, 18, 33] [0, 1, 5, 18, 33] Tryd.f15.results.toList [.one .bool] (bodyOf Tryd.f15) [Kind.val (.one .ptr) p0, Kind.val (.one (.int .i64)) p1] = session_Table_End p0 p1 := by kernel_rfl
theorem session_Table_End_calls (p0 : Option Addr) (p1 : Int) (h : Heap) (Q : Value → Heap → Prop) (hh : session_Table_End p0 p1 h fun x h' => Q (.bool x.1) h') :
    HCalls Tryd.prog 15 #[.pointer p0, .int .i64 p1] h Q := by
  rw [← session_Table_End_den] at hh
  exact calls_of_den Tryd.func15 (by kernel_rfl) Tryd.ntmps15 (by kernel_rfl) (fun f hf => by
      rcases List.mem_cons.1 hf with rfl | hf
      · exact Tryd.call45
      rcases List.mem_cons.1 hf with rfl | hf
      · exact Tryd.call47
      cases hf) orders hh

/-- (*aqueduct/outflow.Flow).Waiting -/
def outflow_Flow_Waiting (p0 : Option Addr) : HM (Slc × Unit) :=
  HM.ite (Option.isNone p0) (
  HM.pure (⟨none, 0, 0⟩, ())) (
  HM.bind (α := Addr) (HM.nonnil p0) fun (x1 : Addr) =>
  HM.bind (α := Slc) (HM.load1 .slc (Addr.add x1 4)) fun (x2 : Slc) =>
  HM.bind (α := Slc) (HM.call1 Tryd.prog (.one .slc) 48 #[.slice x2.a x2.len x2.cap]) fun (x3 : Slc) =>
  HM.pure (x3, ()))

theorem outflow_Flow_Waiting_den (p0 : Option Addr) : denFn Tryd.prog [48] 10 [0, 2, 4] [0, 4] Tryd.f16.results.toList [.one .slc] (bodyOf Tryd.f16) [Kind.val (.one .ptr) p0] = outflow_Flow_Waiting p0 := by kernel_rfl
theorem outflow_Flow_Waiting_calls (p0 : Option Addr) (h : Heap) (Q : Value → Heap → Prop) (hh : outflow_Flow_Waiting p0 h fun x h' => Q (.slice x.1.a x.1.len x.1.cap) h') :
    HCalls Tryd.prog 16 #[.pointer p0] h Q := by
  rw [← outflow_Flow_Waiting_den] at hh
  exact calls_of_den Tryd.func16 (by kernel_rfl) Tryd.ntmps16 (by kernel_rfl) (fun f hf => by
      rcases List.mem_cons.1 hf with rfl | hf
      · exact Tryd.call48
      cases hf) orders hh

/-- (*aqueduct/outflow.Flow).Begin -/
def outflow_Flow_Begin (p0 : Option Addr) (p1 : Int) : HM (Slc × Unit) :=
  HM.ite (Option.isNone p0) (
  HM.pure (⟨none, 0, 0⟩, ())) (
  HM.bind (α := Int) (HM.call1 Tryd.prog (.one (.int .i64)) 49 #[.int .i64 p1]) fun (x1 : Int) =>
  HM.bind (α := Addr) (HM.nonnil p0) fun (x2 : Addr) =>
  HM.bind (α := Unit) (HM.store1 (Addr.add x2 2) (.bool true)) fun (_ : Unit) =>
  HM.bind (α := Addr) (HM.nonnil p0) fun (x3 : Addr) =>
  HM.bind (α := Unit) (HM.store1 (Addr.add x3 1) (.int .i64 x1)) fun (_ : Unit) =>
  HM.bind (α := Addr) (HM.nonnil p0) fun (x4 : Addr) =>
  HM.bind (α := Slc) (HM.load1 .slc (Addr.add x4 3)) fun (x5 : Slc) =>
  HM.bind (α := Slc × Int × Unit) (HM.loop (σ := Slc × Int × Unit) (τ := Slc × Int × Unit) (fun (x7 : Slc × Int × Unit) =>
  HM.ite (decide (x7.2.1 < (((x5.len : Nat) : Int) : Int))) (
  HM.bind (α := Addr) (HM.idx x5.a x5.len x7.2.1 7) fun (x8 : Addr) =>
  HM.bind (α := Int × ByteArray × ByteArray × Int × Bool × ByteArray × Bool × Unit) (HM.loadN [.int .i64, .str, .str, .int .i64, .bool, .str, .bool] x8) fun (x9 : Int × ByteArray × ByteArray × Int × Bool × ByteArray × Bool × Unit) =>
  HM.bind (α := Nat) (HM.new (.cells #[.int .i64 0, .string (ByteArray.mk #[]), .string (ByteArray.mk #[]), .int .i64 0, .bool false, .string (ByteArray.mk #[]), .bool false] 124)) fun (x10 : Nat) =>
  HM.bind (α := Unit) (HM.storeN ⟨x10, 0, none⟩ [.int .i64 x9.1, .string x9.2.1, .string x9.2.2.1, .int .i64 x9.2.2.2.1, .bool x9.2.2.2.2.1, .string x9.2.2.2.2.2.1, .bool x9.2.2.2.2.2.2.1]) fun (_ : Unit) =>
  HM.bind (α := Bool) (HM.load1 .bool (Addr.add ⟨x10, 0, none⟩ 6)) fun (x11 : Bool) =>
  HM.bind (α := Slc × Unit) (HM.ite x11 (
  HM.bind (α := Int) (HM.load1 (.int .i64) (Addr.add ⟨x10, 0, none⟩ 0)) fun (x13 : Int) =>
  HM.bind (α := Nat) (HM.new (.cells #[.int .i64 6, .bool false, .bool false, .int .i64 0, .int .i64 x13, .string (ByteArray.mk #[]), .string (ByteArray.mk #[]), .int .u8 0, .slice none 0 0, .slice none 0 0, .string (ByteArray.mk #[]), .bool false, .int .i64 0, .bool false, .string (ByteArray.mk #[]), .string (ByteArray.mk #[]), .int .i64 0, .bool false, .slice none 0 0, .bool false, .bool false, .string (ByteArray.mk #[]), .string (ByteArray.mk #[]), .bool false, .slice none 0 0, .slice none 0 0] 49)) fun (x14 : Nat) =>
  HM.bind (α := Slc) (HM.append 49 26 328 #[.int .i64 0, .bool false, .bool false, .int .i64 0, .int .i64 0, .string (ByteArray.mk #[]), .string (ByteArray.mk #[]), .int .u8 0, .slice none 0 0, .slice none 0 0, .string (ByteArray.mk #[]), .bool false, .int .i64 0, .bool false, .string (ByteArray.mk #[]), .string (ByteArray.mk #[]), .int .i64 0, .bool false, .slice none 0 0, .bool false, .bool false, .string (ByteArray.mk #[]), .string (ByteArray.mk #[]), .bool false, .slice none 0 0, .slice none 0 0] x7.1 1 (srcSlc 26 (⟨some ⟨x14, 0, none⟩, 1, 1⟩))) fun (x15 : Slc) =>
  HM.pure (x15, ())) (
  HM.bind (α := ByteArray × ByteArray × Int × Bool × ByteArray × Unit) (HM.loadN [.str, .str, .int .i64, .bool, .str] (Addr.add ⟨x10, 0, none⟩ 1)) fun (x16 : ByteArray × ByteArray × Int × Bool × ByteArray × Unit) =>
  HM.bind (α := Int) (HM.load1 (.int .i64) (Addr.add ⟨x10, 0, none⟩ 0)) fun (x17 : Int) =>
  HM.bind (α := Int × Bool × Bool × Int × Int × ByteArray × ByteArray × Int × Slc × Slc × ByteArray × Bool × Int × Bool × ByteArray × ByteArray × Int × Bool × Slc × Bool × Bool × ByteArray × ByteArray × Bool × Slc × Slc × Unit) (HM.call1 Tryd.prog (.agg [.int .i64, .bool, .bool, .int .i64, .int .i64, .str, .str, .int .u8, .slc, .slc, .str, .bool, .int .i64, .bool, .str, .str, .int .i64, .bool, .slc, .bool, .bool, .str, .str, .bool, .slc, .slc]) 50 #[.agg #[.string x16.1, .string x16.2.1, .int .i64 x16.2.2.1, .bool x16.2.2.2.1, .string x16.2.2.2.2.1], .int .i64 x17, .bool true]) fun (x18 : Int × Bool × Bool × Int × Int × ByteArray × ByteArray × Int × Slc × Slc × ByteArray × Bool × Int × Bool × ByteArray × ByteArray × Int × Bool × Slc × Bool × Bool × ByteArray × ByteArray × Bool × Slc × Slc × Unit) =>
  HM.bind (α := Nat) (HM.new (.cells #[.int .i64 x18.1, .bool x18.2.1, .bool x18.2.2.1, .int .i64 x18.2.2.2.1, .int .i64 x18.2.2.2.2.1, .string x18.2.2.2.2.2.1, .string x18.2.2.2.2.2.2.1, .int .u8 x18.2.2.2.2.2.2.2.1, .slice x18.2.2.2.2.2.2.2.2.1.a x18.2.2.2.2.2.2.2.2.1.len x18.2.2.2.2.2.2.2.2.1.cap, .slice x18.2.2.2.2.2.2.2.2.2.1.a x18.2.2.2.2.2.2.2.2.2.1.len x18.2.2.2.2.2.2.2.2.2.1.cap, .string x18.2.2.2.2.2.2.2.2.2.2.1, .bool x18.2.2.2.2.2.2.2.2.2.2.2.1, .int .i64 x18.2.2.2.2.2.2.2.2.2.2.2.2.1, .bool x18.2.2.2.2.2.2.2.2.2.2.2.2.2.1, .string x18.2.2.2.2.2.2.2.2.2.2.2.2.2.2.1, .string x18.2.2.2.2.2.2.2.2.2.2.2.2.2.2.2.1, .int .i64 x18.2.2.2.2.2.2.2.2.2.2.2.2.2.2.2.2.1, .bool x18.2.2.2.2.2.2.2.2.2.2.2.2.2.2.2.2.2.1, .slice x18.2.2.2.2.2.2.2.2.2.2.2.2.2.2.2.2.2.2.1.a x18.2.2.2.2.2.2.2.2.2.2.2.2.2.2.2.2.2.2.1.len x18.2.2.2.2.2.2.2.2.2.2.2.2.2.2.2.2.2.2.1.cap, .bool x18.2.2.2.2.2.2.2.2.2.2.2.2.2.2.2.2.2.2.2.1, .bool x18.2.2.2.2.2.2.2.2.2.2.2.2.2.2.2.2.2.2.2.2.1, .string x18.2.2.2.2.2.2.2.2.2.2.2.2.2.2.2.2.2.2.2.2.2.1, .string x18.2.2.2.2.2.2.2.2.2.2.2.2.2.2.2.2.2.2.2.2.2.2.1, .bool x18.2.2.2.2.2.2.2.2.2.2.2.2.2.2.2.2.2.2.2.2.2.2.2.1, .slice x18.2.2.2.2.2.2.2.2.2.2.2.2.2.2.2.2.2.2.2.2.2.2.2.2.1.a x18.2.2.2.2.2.2.2.2.2.2.2.2.2.2.2.2.2.2.2.2.2.2.2.2.1.len x18.2.2.2.2.2.2.2.2.2.2.2.2.2.2.2.2.2.2.2.2.2.2.2.2.1.cap, .slice x18.2.2.2.2.2.2.2.2.2.2.2.2.2.2.2.2.2.2.2.2.2.2.2.2.2.1.a x18.2.2.2.2.2.2.2.2.2.2.2.2.2.2.2.2.2.2.2.2.2.2.2.2.2.1.len x18.2.2.2.2.2.2.2.2.2.2.2.2.2.2.2.2.2.2.2.2.2.2.2.2.2.1.cap] 49)) fun (x19 : Nat) =>
  HM.bind (α := Slc) (HM.append 49 26 328 #[.int .i64 0, .bool false, .bool false, .int .i64 0, .int .i64 0, .string (ByteArray.mk #[]), .string (ByteArray.mk #[]), .int .u8 0, .slice none 0 0, .slice none 0 0, .string (ByteArray.mk #[]), .bool false, .int .i64 0, .bool false, .string (ByteArray.mk #[]), .string (ByteArray.mk #[]), .int .i64 0, .bool false, .slice none 0 0, .bool false, .bool false, .string (ByteArray.mk #[]), .string (ByteArray.mk #[]), .bool false, .slice none 0 0, .slice none 0 0] x7.1 1 (srcSlc 26 (⟨some ⟨x19, 0, none⟩, 1, 1⟩))) fun (x20 : Slc) =>
  HM.pure (x20, ()))) fun (x12 : Slc × Unit) =>
  HM.pure (.inl (x12.1, IntKind.wrap .i64 (x7.2.1 + 1), ()))) (
  HM.pure (.inr (x7.1, x7.2.1, ())))) (⟨none, 0, 0⟩, 0, ())) fun (x6 : Slc × Int × Unit) =>
  HM.bind (α := Slc) (HM.call1 Tryd.prog (.one .slc) 46 #[.pointer p0, .slice x6.1.a x6.1.len x6.1.cap]) fun (x21 : Slc) =>
  HM.pure (x21, ()))

theorem outflow_Flow_Begin_den (p0 : Option Addr) (p1 : Int) : denFn Tryd.prog [49, 50, 46] 47 [0, 1, 4, 5, 7, 9, 21, 22, 23, 24, 28] [0, 1, 5, 7, 9, 21, 22, 23, 24, 28] Tryd.f17.results.toList [.one .slc] (bodyOf Tryd.f17) [Kind.val (.one .ptr) p0, Kind.val (.one (.int .i64)) p1] = outflow_Flow_Begin p0 p1 := by kernel_rfl
theorem outflow_Flow_Begin_calls (p0 : Option Addr) (p1 : Int) (h : Heap) (Q : Value → Heap → Prop) (hh : outflow_Flow_Begin p0 p1 h fun x h' => Q (.slice x.1.a x.1.len x.1.cap) h') :
    HCalls Tryd.prog 17 #[.pointer p0, .int .i64 p1] h Q := by
  rw [← outflow_Flow_Begin_den] at hh
  exact calls_of_den Tryd.func17 (by kernel_rfl) Tryd.ntmps17 (by kernel_rfl) (fun f hf => by
      rcases List.mem_cons.1 hf with rfl | hf
      · exact Tryd.call49
      rcases List.mem_cons.1 hf with rfl | hf
      · exact Tryd.call50
      rcases List.mem_cons.1 hf with rfl | hf
      · exact Tryd.call46
      cases hf) orders hh

/-- aqueduct/text.Fault -/
def text_Fault (p0 : ByteArray) : HM (Int × Bool × Unit) :=
  HM.bind (α := (Int × Unit) ⊕ (Int × Bool × Unit)) (HM.loop (σ := Int × Unit) (τ := (Int × Unit) ⊕ (Int × Bool × Unit)) (fun (x2 : Int × Unit) =>
  HM.ite (decide (x2.1 < (((ByteArray.size p0 : Nat) : Int) : Int))) (
  HM.bind (α := ByteArray) (HM.substr p0 (some x2.1) none) fun (x3 : ByteArray) =>
  HM.bind (α := Int) (HM.call1 Tryd.prog (.one (.int .i64)) 84 #[.string x3]) fun (x4 : Int) =>
  HM.ite (x4 == 0) (
  HM.pure (.inr (.inr (x2.1, true, ())))) (
  HM.pure (.inl (IntKind.wrap .i64 (x2.1 + x4), ())))) (
  HM.pure (.inr (.inl (x2.1, ()))))) (0, ())) (Sum.elim (fun (x1 : Int × Unit) =>
  HM.pure (0, false, ())) HM.pure)

theorem text_Fault_den (p0 : ByteArray) : denFn Tryd.prog [84] 20 [0, 2, 3, 4, 5, 9, 15] [0, 4, 5, 9, 15] Tryd.f41.results.toList [.one (.int .i64), .one .bool] (bodyOf Tryd.f41) [Kind.val (.one .str) p0] = text_Fault p0 := by kernel_rfl
theorem text_Fault_calls (p0 : ByteArray) (h : Heap) (Q : Value → Heap → Prop) (hh : text_Fault p0 h fun x h' => Q (.tuple #[.int .i64 x.1, .bool x.2.1]) h') :
    HCalls Tryd.prog 41 #[.string p0] h Q := by
  rw [← text_Fault_den] at hh
  exact calls_of_den Tryd.func41 (by kernel_rfl) Tryd.ntmps41 (by kernel_rfl) (fun f hf => by
      rcases List.mem_cons.1 hf with rfl | hf
      · exact Tryd.call84
      cases hf) orders hh

/-- (*aqueduct/session.Table).of -/
def session_Table_of (p0 : Option Addr) (p1 : ByteArray) : HM (Option Addr × Unit) :=
  HM.bind (α := (Unit) ⊕ (Option Addr × Unit)) (HM.ite (!(Option.isNone p0)) (
  HM.bind (α := Addr) (HM.nonnil p0) fun (x2 : Addr) =>
  HM.bind (α := Option Nat) (HM.load1 .map (Addr.add x2 1)) fun (x3 : Option Nat) =>
  HM.bind (α := Nat) (HM.rangeM x3) fun (x4 : Nat) =>
  HM.bind (α := (Unit) ⊕ ((Unit) ⊕ (Option Addr × Unit))) (HM.loop (σ := Unit) (τ := (Unit) ⊕ ((Unit) ⊕ (Option Addr × Unit))) (fun (x6 : Unit) =>
  HM.bind (α := Option (Value × Value)) (HM.nextM x4) fun (x7 : Option (Value × Value)) =>
  HM.opt x7 (
  HM.ite false (
  HM.bind (α := Value × Option Addr) (HM.entryM (.one .any) (.one .ptr) x4) fun (x9 : Value × Option Addr) =>
  HM.bind (α := Addr) (HM.nonnil x9.2) fun (x10 : Addr) =>
  HM.bind (α := ByteArray) (HM.load1 .str (Addr.add (Addr.add x10 0) 1)) fun (x11 : ByteArray) =>
  HM.ite (decide (x11 = p1)) (
  HM.pure (.inr (.inr (.inr (x9.2, ()))))) (
  HM.pure (.inl ()))) (
  HM.pure (.inr (.inl ())))) fun (x8 : Value × Value) =>
  HM.ite true (
  HM.bind (α := Value × Option Addr) (HM.entryM (.one .any) (.one .ptr) x4) fun (x12 : Value × Option Addr) =>
  HM.bind (α := Addr) (HM.nonnil x12.2) fun (x13 : Addr) =>
  HM.bind (α := ByteArray) (HM.load1 .str (Addr.add (Addr.add x13 0) 1)) fun (x14 : ByteArray) =>
  HM.ite (decide (x14 = p1)) (
  HM.pure (.inr (.inr (.inr (x12.2, ()))))) (
  HM.pure (.inl ()))) (
  HM.pure (.inr (.inl ())))) ()) (Sum.elim (fun (x5 : Unit) =>
  HM.pure (.inl ())) HM.pure)) (
  HM.pure (.inl ()))) (Sum.elim (fun (x1 : Unit) =>
  HM.pure (none, ())) HM.pure)

theorem session_Table_of_den (p0 : Option Addr) (p1 : ByteArray) : denFn Tryd.prog [] 26 [0, 1, 4, 6, 8, 13, 15, 24] [0, 1, 6, 8, 13, 15, 24] Tryd.f42.results.toList [.one .ptr] (bodyOf Tryd.f42) [Kind.val (.one .ptr) p0, Kind.val (.one .str) p1] = session_Table_of p0 p1 := by kernel_rfl
theorem session_Table_of_calls (p0 : Option Addr) (p1 : ByteArray) (h : Heap) (Q : Value → Heap → Prop) (hh : session_Table_of p0 p1 h fun x h' => Q (.pointer x.1) h') :
    HCalls Tryd.prog 42 #[.pointer p0, .string p1] h Q := by
  rw [← session_Table_of_den] at hh
  exact calls_of_den Tryd.func42 (by kernel_rfl) Tryd.ntmps42 (by kernel_rfl) (fun f hf => by cases hf) orders hh

/-- aqueduct/outflow.New -/
def outflow_New (p0 : Int) : HM (Option Addr × Unit) :=
  HM.bind (α := Option Addr) (HM.call1 Tryd.prog (.one .ptr) 85 #[.int .i64 64]) fun (x1 : Option Addr) =>
  HM.bind (α := Int) (HM.call1 Tryd.prog (.one (.int .i64)) 49 #[.int .i64 p0]) fun (x2 : Int) =>
  HM.bind (α := Nat) (HM.new (.cells #[.pointer x1, .int .i64 x2, .bool false, .slice none 0 0, .slice none 0 0] 120)) fun (x3 : Nat) =>
  HM.pure (some ⟨x3, 0, none⟩, ())

theorem outflow_New_den (p0 : Int) : denFn Tryd.prog [85, 49] 8 [0, 2] [0] Tryd.f43.results.toList [.one .ptr] (bodyOf Tryd.f43) [Kind.val (.one (.int .i64)) p0] = outflow_New p0 := by kernel_rfl
theorem outflow_New_calls (p0 : Int) (h : Heap) (Q : Value → Heap → Prop) (hh : outflow_New p0 h fun x h' => Q (.pointer x.1) h') :
    HCalls Tryd.prog 43 #[.int .i64 p0] h Q := by
  rw [← outflow_New_den] at hh
  exact calls_of_den Tryd.func43 (by kernel_rfl) Tryd.ntmps43 (by kernel_rfl) (fun f hf => by
      rcases List.mem_cons.1 hf with rfl | hf
      · exact Tryd.call85
      rcases List.mem_cons.1 hf with rfl | hf
      · exact Tryd.call49
      cases hf) orders hh

/-- aqueduct/inflow.New -/
def inflow_New (p0 : Int) : HM (Option Addr × Unit) :=
  HM.bind (α := Option Addr) (HM.call1 Tryd.prog (.one .ptr) 85 #[.int .i64 p0]) fun (x1 : Option Addr) =>
  HM.bind (α := Nat) (HM.new (.cells #[.pointer x1] 182)) fun (x2 : Nat) =>
  HM.pure (some ⟨x2, 0, none⟩, ())

theorem inflow_New_den (p0 : Int) : denFn Tryd.prog [85] 7 [0, 2] [0] Tryd.f44.results.toList [.one .ptr] (bodyOf Tryd.f44) [Kind.val (.one (.int .i64)) p0] = inflow_New p0 := by kernel_rfl
theorem inflow_New_calls (p0 : Int) (h : Heap) (Q : Value → Heap → Prop) (hh : inflow_New p0 h fun x h' => Q (.pointer x.1) h') :
    HCalls Tryd.prog 44 #[.int .i64 p0] h Q := by
  rw [← inflow_New_den] at hh
  exact calls_of_den Tryd.func44 (by kernel_rfl) Tryd.ntmps44 (by kernel_rfl) (fun f hf => by
      rcases List.mem_cons.1 hf with rfl | hf
      · exact Tryd.call85
      cases hf) orders hh

/-- (*aqueduct/session.Table).at -/
def session_Table_at (p0 : Option Addr) (p1 : Int) : HM (Option Addr × Unit) :=
  HM.ite (Option.isNone p0) (
  HM.pure (none, ())) (
  HM.bind (α := Addr) (HM.nonnil p0) fun (x1 : Addr) =>
  HM.bind (α := Option Nat) (HM.load1 .map (Addr.add x1 1)) fun (x2 : Option Nat) =>
  HM.bind (α := Option Addr × Bool) (HM.lookup (Instr.sameNow (.int .i64)) (.pointer none) (.one .ptr) x2 (.int .i64 p1)) fun (x3 : Option Addr × Bool) =>
  HM.pure (x3.1, ()))

theorem session_Table_at_den (p0 : Option Addr) (p1 : Int) : denFn Tryd.prog [] 13 [0, 1, 4, 6] [0, 1, 6] Tryd.f45.results.toList [.one .ptr] (bodyOf Tryd.f45) [Kind.val (.one .ptr) p0, Kind.val (.one (.int .i64)) p1] = session_Table_at p0 p1 := by kernel_rfl
theorem session_Table_at_calls (p0 : Option Addr) (p1 : Int) (h : Heap) (Q : Value → Heap → Prop) (hh : session_Table_at p0 p1 h fun x h' => Q (.pointer x.1) h') :
    HCalls Tryd.prog 45 #[.pointer p0, .int .i64 p1] h Q := by
  rw [← session_Table_at_den] at hh
  exact calls_of_den Tryd.func45 (by kernel_rfl) Tryd.ntmps45 (by kernel_rfl) (fun f hf => by cases hf) orders hh

/-- (*aqueduct/outflow.Flow).goOn -/
def outflow_Flow_goOn (p0 : Option Addr) (p1 : Slc) : HM (Slc × Unit) :=
  HM.bind (α := Slc × Unit) (HM.loop (σ := Slc × Unit) (τ := Slc × Unit) (fun (x2 : Slc × Unit) =>
  HM.bind (α := Bool × Unit) (HM.bind (α := Addr) (HM.nonnil p0) fun (x3 : Addr) =>
  HM.bind (α := Bool) (HM.load1 .bool (Addr.add x3 2)) fun (x4 : Bool) =>
  HM.ite x4 (
  HM.bind (α := Addr) (HM.nonnil p0) fun (x5 : Addr) =>
  HM.bind (α := Slc) (HM.load1 .slc (Addr.add x5 4)) fun (x6 : Slc) =>
  HM.pure (decide (0 < (((x6.len : Nat) : Int) : Int)), ())) (
  HM.pure (false, ()))) fun (x7 : Bool × Unit) =>
  HM.ite x7.1 (
  HM.bind (α := Addr) (HM.nonnil p0) fun (x8 : Addr) =>
  HM.bind (α := Slc) (HM.load1 .slc (Addr.add x8 4)) fun (x9 : Slc) =>
  HM.bind (α := Addr) (HM.idx x9.a x9.len 0 5) fun (x10 : Addr) =>
  HM.bind (α := ByteArray × ByteArray × Int × Bool × ByteArray × Unit) (HM.loadN [.str, .str, .int .i64, .bool, .str] x10) fun (x11 : ByteArray × ByteArray × Int × Bool × ByteArray × Unit) =>
  HM.bind (α := Nat) (HM.new (.cells #[.string (ByteArray.mk #[]), .string (ByteArray.mk #[]), .int .i64 0, .bool false, .string (ByteArray.mk #[])] 36)) fun (x12 : Nat) =>
  HM.bind (α := Unit) (HM.storeN ⟨x12, 0, none⟩ [.string x11.1, .string x11.2.1, .int .i64 x11.2.2.1, .bool x11.2.2.2.1, .string x11.2.2.2.2.1]) fun (_ : Unit) =>
  HM.bind (α := Bool × Unit) (HM.bind (α := Int) (HM.load1 (.int .i64) (Addr.add ⟨x12, 0, none⟩ 2)) fun (x13 : Int) =>
  HM.ite (decide (0 < (x13 : Int))) (
  HM.bind (α := Addr) (HM.nonnil p0) fun (x14 : Addr) =>
  HM.bind (α := Slc) (HM.load1 .slc (Addr.add x14 3)) fun (x15 : Slc) =>
  HM.bind (α := Addr) (HM.nonnil p0) fun (x16 : Addr) =>
  HM.bind (α := Int) (HM.load1 (.int .i64) (Addr.add x16 1)) fun (x17 : Int) =>
  HM.pure (decide (x17 ≤ (((x15.len : Nat) : Int) : Int)), ())) (
  HM.pure (false, ()))) fun (x18 : Bool × Unit) =>
  HM.ite x18.1 (
  HM.pure (.inr (x2.1, ()))) (
  HM.bind (α := Addr) (HM.nonnil p0) fun (x19 : Addr) =>
  HM.bind (α := Slc) (HM.load1 .slc (Addr.add x19 4)) fun (x20 : Slc) =>
  HM.bind (α := Slc) (HM.slice x20 (some 1) none none 5) fun (x21 : Slc) =>
  HM.bind (α := Addr) (HM.nonnil p0) fun (x22 : Addr) =>
  HM.bind (α := Unit) (HM.store1 (Addr.add x22 4) (.slice x21.a x21.len x21.cap)) fun (_ : Unit) =>
  HM.bind (α := Int) (HM.load1 (.int .i64) (Addr.add ⟨x12, 0, none⟩ 2)) fun (x23 : Int) =>
  HM.bind (α := Int × Unit) (HM.ite (decide (0 < (x23 : Int))) (
  HM.bind (α := Addr) (HM.nonnil p0) fun (x25 : Addr) =>
  HM.bind (α := Option Addr) (HM.load1 .ptr (Addr.add x25 0)) fun (x26 : Option Addr) =>
  HM.bind (α := Int × Int × Unit) (HM.callN Tryd.prog [.one (.int .i64), .one (.int .u8)] 86 #[.pointer x26]) fun (x27 : Int × Int × Unit) =>
  HM.bind (α := Addr) (HM.nonnil p0) fun (x28 : Addr) =>
  HM.bind (α := Slc) (HM.load1 .slc (Addr.add x28 3)) fun (x29 : Slc) =>
  HM.bind (α := ByteArray × ByteArray × Int × Bool × ByteArray × Unit) (HM.loadN [.str, .str, .int .i64, .bool, .str] ⟨x12, 0, none⟩) fun (x30 : ByteArray × ByteArray × Int × Bool × ByteArray × Unit) =>
  HM.bind (α := Nat) (HM.new (.cells #[.int .i64 x27.1, .string x30.1, .string x30.2.1, .int .i64 x30.2.2.1, .bool x30.2.2.2.1, .string x30.2.2.2.2.1, .bool false] 124)) fun (x31 : Nat) =>
  HM.bind (α := Slc) (HM.load1 .slc (Addr.add x28 3)) fun (x32 : Slc) =>
  HM.req ((.slice x32.a x32.len x32.cap : Value) = .slice x29.a x29.len x29.cap) <|
  HM.bind (α := Slc) (HM.append 124 7 80 #[.int .i64 0, .string (ByteArray.mk #[]), .string (ByteArray.mk #[]), .int .i64 0, .bool false, .string (ByteArray.mk #[]), .bool false] x29 1 (srcSlc 7 (⟨some ⟨x31, 0, none⟩, 1, 1⟩))) fun (x33 : Slc) =>
  HM.bind (α := Addr) (HM.nonnil p0) fun (x34 : Addr) =>
  HM.bind (α := Unit) (HM.store1 (Addr.add x34 3) (.slice x33.a x33.len x33.cap)) fun (_ : Unit) =>
  HM.pure (x27.1, ())) (
  HM.pure (0, ()))) fun (x24 : Int × Unit) =>
  HM.bind (α := ByteArray × ByteArray × Int × Bool × ByteArray × Unit) (HM.loadN [.str, .str, .int .i64, .bool, .str] ⟨x12, 0, none⟩) fun (x35 : ByteArray × ByteArray × Int × Bool × ByteArray × Unit) =>
  HM.bind (α := Int × Bool × Bool × Int × Int × ByteArray × ByteArray × Int × Slc × Slc × ByteArray × Bool × Int × Bool × ByteArray × ByteArray × Int × Bool × Slc × Bool × Bool × ByteArray × ByteArray × Bool × Slc × Slc × Unit) (HM.call1 Tryd.prog (.agg [.int .i64, .bool, .bool, .int .i64, .int .i64, .str, .str, .int .u8, .slc, .slc, .str, .bool, .int .i64, .bool, .str, .str, .int .i64, .bool, .slc, .bool, .bool, .str, .str, .bool, .slc, .slc]) 50 #[.agg #[.string x35.1, .string x35.2.1, .int .i64 x35.2.2.1, .bool x35.2.2.2.1, .string x35.2.2.2.2.1], .int .i64 x24.1, .bool false]) fun (x36 : Int × Bool × Bool × Int × Int × ByteArray × ByteArray × Int × Slc × Slc × ByteArray × Bool × Int × Bool × ByteArray × ByteArray × Int × Bool × Slc × Bool × Bool × ByteArray × ByteArray × Bool × Slc × Slc × Unit) =>
  HM.bind (α := Nat) (HM.new (.cells #[.int .i64 x36.1, .bool x36.2.1, .bool x36.2.2.1, .int .i64 x36.2.2.2.1, .int .i64 x36.2.2.2.2.1, .string x36.2.2.2.2.2.1, .string x36.2.2.2.2.2.2.1, .int .u8 x36.2.2.2.2.2.2.2.1, .slice x36.2.2.2.2.2.2.2.2.1.a x36.2.2.2.2.2.2.2.2.1.len x36.2.2.2.2.2.2.2.2.1.cap, .slice x36.2.2.2.2.2.2.2.2.2.1.a x36.2.2.2.2.2.2.2.2.2.1.len x36.2.2.2.2.2.2.2.2.2.1.cap, .string x36.2.2.2.2.2.2.2.2.2.2.1, .bool x36.2.2.2.2.2.2.2.2.2.2.2.1, .int .i64 x36.2.2.2.2.2.2.2.2.2.2.2.2.1, .bool x36.2.2.2.2.2.2.2.2.2.2.2.2.2.1, .string x36.2.2.2.2.2.2.2.2.2.2.2.2.2.2.1, .string x36.2.2.2.2.2.2.2.2.2.2.2.2.2.2.2.1, .int .i64 x36.2.2.2.2.2.2.2.2.2.2.2.2.2.2.2.2.1, .bool x36.2.2.2.2.2.2.2.2.2.2.2.2.2.2.2.2.2.1, .slice x36.2.2.2.2.2.2.2.2.2.2.2.2.2.2.2.2.2.2.1.a x36.2.2.2.2.2.2.2.2.2.2.2.2.2.2.2.2.2.2.1.len x36.2.2.2.2.2.2.2.2.2.2.2.2.2.2.2.2.2.2.1.cap, .bool x36.2.2.2.2.2.2.2.2.2.2.2.2.2.2.2.2.2.2.2.1, .bool x36.2.2.2.2.2.2.2.2.2.2.2.2.2.2.2.2.2.2.2.2.1, .string x36.2.2.2.2.2.2.2.2.2.2.2.2.2.2.2.2.2.2.2.2.2.1, .string x36.2.2.2.2.2.2.2.2.2.2.2.2.2.2.2.2.2.2.2.2.2.2.1, .bool x36.2.2.2.2.2.2.2.2.2.2.2.2.2.2.2.2.2.2.2.2.2.2.2.1, .slice x36.2.2.2.2.2.2.2.2.2.2.2.2.2.2.2.2.2.2.2.2.2.2.2.2.1.a x36.2.2.2.2.2.2.2.2.2.2.2.2.2.2.2.2.2.2.2.2.2.2.2.2.1.len x36.2.2.2.2.2.2.2.2.2.2.2.2.2.2.2.2.2.2.2.2.2.2.2.2.1.cap, .slice x36.2.2.2.2.2.2.2.2.2.2.2.2.2.2.2.2.2.2.2.2.2.2.2.2.2.1.a x36.2.2.2.2.2.2.2.2.2.2.2.2.2.2.2.2.2.2.2.2.2.2.2.2.2.1.len x36.2.2.2.2.2.2.2.2.2.2.2.2.2.2.2.2.2.2.2.2.2.2.2.2.2.1.cap] 49)) fun (x37 : Nat) =>
  HM.bind (α := Slc) (HM.append 49 26 328 #[.int .i64 0, .bool false, .bool false, .int .i64 0, .int .i64 0, .string (ByteArray.mk #[]), .string (ByteArray.mk #[]), .int .u8 0, .slice none 0 0, .slice none 0 0, .string (ByteArray.mk #[]), .bool false, .int .i64 0, .bool false, .string (ByteArray.mk #[]), .string (ByteArray.mk #[]), .int .i64 0, .bool false, .slice none 0 0, .bool false, .bool false, .string (ByteArray.mk #[]), .string (ByteArray.mk #[]), .bool false, .slice none 0 0, .slice none 0 0] x2.1 1 (srcSlc 26 (⟨some ⟨x37, 0, none⟩, 1, 1⟩))) fun (x38 : Slc) =>
  HM.pure (.inl (x38, ())))) (
  HM.pure (.inr (x2.1, ())))) (p1, ())) fun (x1 : Slc × Unit) =>
  HM.pure (x1.1, ())

theorem outflow_Flow_goOn_den (p0 : Option Addr) (p1 : Slc) : denFn Tryd.prog [86, 50] 78 [0, 1, 4, 5, 6, 18, 39, 50] [0, 1, 5, 6, 18, 39, 50] Tryd.f46.results.toList [.one .slc] (bodyOf Tryd.f46) [Kind.val (.one .ptr) p0, Kind.val (.one .slc) p1] = outflow_Flow_goOn p0 p1 := by kernel_rfl
theorem outflow_Flow_goOn_calls (p0 : Option Addr) (p1 : Slc) (h : Heap) (Q : Value → Heap → Prop) (hh : outflow_Flow_goOn p0 p1 h fun x h' => Q (.slice x.1.a x.1.len x.1.cap) h') :
    HCalls Tryd.prog 46 #[.pointer p0, .slice p1.a p1.len p1.cap] h Q := by
  rw [← outflow_Flow_goOn_den] at hh
  exact calls_of_den Tryd.func46 (by kernel_rfl) Tryd.ntmps46 (by kernel_rfl) (fun f hf => by
      rcases List.mem_cons.1 hf with rfl | hf
      · exact Tryd.call86
      rcases List.mem_cons.1 hf with rfl | hf
      · exact Tryd.call50
      cases hf) orders hh

/-- (*aqueduct/outflow.Flow).End -/
def outflow_Flow_End (p0 : Option Addr) : HM (Unit) :=
  HM.bind (α := Unit) (HM.ite (!(Option.isNone p0)) (
  HM.bind (α := Addr) (HM.nonnil p0) fun (x2 : Addr) =>
  HM.bind (α := Unit) (HM.store1 (Addr.add x2 2) (.bool false)) fun (_ : Unit) =>
  HM.pure ()) (
  HM.pure ())) fun (x1 : Unit) =>
  HM.pure ()

theorem outflow_Flow_End_den (p0 : Option Addr) : denFn Tryd.prog [] 7 [0, 3] [0, 3] Tryd.f47.results.toList [] (bodyOf Tryd.f47) [Kind.val (.one .ptr) p0] = outflow_Flow_End p0 := by kernel_rfl
theorem outflow_Flow_End_calls (p0 : Option Addr) (h : Heap) (Q : Value → Heap → Prop) (hh : outflow_Flow_End p0 h fun x h' => Q (.tuple #[]) h') :
    HCalls Tryd.prog 47 #[.pointer p0] h Q := by
  rw [← outflow_Flow_End_den] at hh
  exact calls_of_den Tryd.func47 (by kernel_rfl) Tryd.ntmps47 (by kernel_rfl) (fun f hf => by cases hf) orders hh

/-- slices.Clone[[]aqueduct/outflow.Message,aqueduct/outflow.Message] -/
def slices_Clone_Message (p0 : Slc) : HM (Slc × Unit) :=
  HM.ite (Option.isNone p0.a) (
  HM.pure (⟨none, 0, 0⟩, ())) (
  HM.bind (α := Nat) (HM.new (.cells #[] 36)) fun (x1 : Nat) =>
  HM.bind (α := Slc) (HM.append 36 5 64 #[.string (ByteArray.mk #[]), .string (ByteArray.mk #[]), .int .i64 0, .bool false, .string (ByteArray.mk #[])] (⟨some ⟨x1, 0, none⟩, 0, 0⟩) p0.len (srcSlc 5 p0)) fun (x2 : Slc) =>
  HM.pure (x2, ()))

theorem slices_Clone_Message_den (p0 : Slc) : denFn Tryd.prog [] 8 [0, 2, 4] [0, 4] Tryd.f48.results.toList [.one .slc] (bodyOf Tryd.f48) [Kind.val (.one .slc) p0] = slices_Clone_Message p0 := by kernel_rfl
theorem slices_Clone_Message_calls (p0 : Slc) (h : Heap) (Q : Value → Heap → Prop) (hh : slices_Clone_Message p0 h fun x h' => Q (.slice x.1.a x.1.len x.1.cap) h') :
    HCalls Tryd.prog 48 #[.slice p0.a p0.len p0.cap] h Q := by
  rw [← slices_Clone_Message_den] at hh
  exact calls_of_den Tryd.func48 (by kernel_rfl) Tryd.ntmps48 (by kernel_rfl) (fun f hf => by cases hf) orders hh

/-- aqueduct/outflow.bounded -/
def outflow_bounded (p0 : Int) : HM (Int × Unit) :=
  HM.pure (if 1 < ((if 64 < (p0 : Int) then 64 else p0) : Int) then (if 64 < (p0 : Int) then 64 else p0) else 1, ())

theorem outflow_bounded_den (p0 : Int) : denFn Tryd.prog [] 6 [0, 2] [0] Tryd.f49.results.toList [.one (.int .i64)] (bodyOf Tryd.f49) [Kind.val (.one (.int .i64)) p0] = outflow_bounded p0 := by kernel_rfl
theorem outflow_bounded_calls (p0 : Int) (h : Heap) (Q : Value → Heap → Prop) (hh : outflow_bounded p0 h fun x h' => Q (.int .i64 x.1) h') :
    HCalls Tryd.prog 49 #[.int .i64 p0] h Q := by
  rw [← outflow_bounded_den] at hh
  exact calls_of_den Tryd.func49 (by kernel_rfl) Tryd.ntmps49 (by kernel_rfl) (fun f hf => by cases hf) orders hh

/-- (aqueduct/outflow.Message).packet -/
def outflow_Message_packet (p0 : ByteArray × ByteArray × Int × Bool × ByteArray × Unit) (p1 : Int) (p2 : Bool) : HM ((Int × Bool × Bool × Int × Int × ByteArray × ByteArray × Int × Slc × Slc × ByteArray × Bool × Int × Bool × ByteArray × ByteArray × Int × Bool × Slc × Bool × Bool × ByteArray × ByteArray × Bool × Slc × Slc × Unit) × Unit) :=
  HM.bind (α := Nat) (HM.new (.cells #[.string p0.1, .string p0.2.1, .int .i64 p0.2.2.1, .bool p0.2.2.2.1, .string p0.2.2.2.2.1] 36)) fun (x1 : Nat) =>
  HM.bind (α := Nat) (HM.new (.cells #[.int .i64 0, .bool false, .bool false, .int .i64 0, .int .i64 0, .string (ByteArray.mk #[]), .string (ByteArray.mk #[]), .int .u8 0, .slice none 0 0, .slice none 0 0, .string (ByteArray.mk #[]), .bool false, .int .i64 0, .bool false, .string (ByteArray.mk #[]), .string (ByteArray.mk #[]), .int .i64 0, .bool false, .slice none 0 0, .bool false, .bool false, .string (ByteArray.mk #[]), .string (ByteArray.mk #[]), .bool false, .slice none 0 0, .slice none 0 0] 49)) fun (x2 : Nat) =>
  HM.bind (α := Int) (HM.load1 (.int .i64) (Addr.add ⟨x1, 0, none⟩ 2)) fun (x3 : Int) =>
  HM.bind (α := Bool) (HM.load1 .bool (Addr.add ⟨x1, 0, none⟩ 3)) fun (x4 : Bool) =>
  HM.bind (α := ByteArray) (HM.load1 .str (Addr.add ⟨x1, 0, none⟩ 0)) fun (x5 : ByteArray) =>
  HM.bind (α := ByteArray) (HM.load1 .str (Addr.add ⟨x1, 0, none⟩ 1)) fun (x6 : ByteArray) =>
  HM.bind (α := Nat) (HM.new (.cells #[.int .i64 0, .bool false, .bool false, .int .i64 0, .int .i64 0, .string (ByteArray.mk #[]), .string (ByteArray.mk #[]), .int .u8 0, .slice none 0 0, .slice none 0 0, .string (ByteArray.mk #[]), .bool false, .int .i64 0, .bool false, .string (ByteArray.mk #[]), .string (ByteArray.mk #[]), .int .i64 0, .bool false, .slice none 0 0, .bool false, .bool false, .string (ByteArray.mk #[]), .string (ByteArray.mk #[]), .bool false, .slice none 0 0, .slice none 0 0] 49)) fun (x7 : Nat) =>
  HM.bind (α := Unit) (HM.storeN ⟨x7, 0, none⟩ [.int .i64 3, .bool p2, .bool x4, .int .i64 x3, .int .i64 p1, .string x5, .string x6, .int .u8 0, .slice none 0 0, .slice none 0 0, .string (ByteArray.mk #[]), .bool false, .int .i64 0, .bool false, .string (ByteArray.mk #[]), .string (ByteArray.mk #[]), .int .i64 0, .bool false, .slice none 0 0, .bool false, .bool false, .string (ByteArray.mk #[]), .string (ByteArray.mk #[]), .bool false, .slice none 0 0, .slice none 0 0]) fun (_ : Unit) =>
  HM.bind (α := ByteArray) (HM.load1 .str (Addr.add ⟨x1, 0, none⟩ 4)) fun (x8 : ByteArray) =>
  HM.bind (α := Unit) (HM.ite (!(decide (x8 = (ByteArray.mk #[])))) (
  HM.bind (α := ByteArray) (HM.load1 .str (Addr.add ⟨x1, 0, none⟩ 4)) fun (x10 : ByteArray) =>
  HM.bind (α := Nat) (HM.new (.cells #[.int .i64 38, .int .i64 0, .string (ByteArray.mk #[116, 97, 103]), .string x10] 186)) fun (x11 : Nat) =>
  HM.bind (α := Unit) (HM.store1 (Addr.add ⟨x7, 0, none⟩ 9) (.slice (some ⟨x11, 0, none⟩) 1 1)) fun (_ : Unit) =>
  HM.pure ()) (
  HM.pure ())) fun (x9 : Unit) =>
  HM.bind (α := Int × Bool × Bool × Int × Int × ByteArray × ByteArray × Int × Slc × Slc × ByteArray × Bool × Int × Bool × ByteArray × ByteArray × Int × Bool × Slc × Bool × Bool × ByteArray × ByteArray × Bool × Slc × Slc × Unit) (HM.loadN [.int .i64, .bool, .bool, .int .i64, .int .i64, .str, .str, .int .u8, .slc, .slc, .str, .bool, .int .i64, .bool, .str, .str, .int .i64, .bool, .slc, .bool, .bool, .str, .str, .bool, .slc, .slc] ⟨x7, 0, none⟩) fun (x12 : Int × Bool × Bool × Int × Int × ByteArray × ByteArray × Int × Slc × Slc × ByteArray × Bool × Int × Bool × ByteArray × ByteArray × Int × Bool × Slc × Bool × Bool × ByteArray × ByteArray × Bool × Slc × Slc × Unit) =>
  HM.bind (α := Unit) (HM.storeN ⟨x2, 0, none⟩ [.int .i64 x12.1, .bool x12.2.1, .bool x12.2.2.1, .int .i64 x12.2.2.2.1, .int .i64 x12.2.2.2.2.1, .string x12.2.2.2.2.2.1, .string x12.2.2.2.2.2.2.1, .int .u8 x12.2.2.2.2.2.2.2.1, .slice x12.2.2.2.2.2.2.2.2.1.a x12.2.2.2.2.2.2.2.2.1.len x12.2.2.2.2.2.2.2.2.1.cap, .slice x12.2.2.2.2.2.2.2.2.2.1.a x12.2.2.2.2.2.2.2.2.2.1.len x12.2.2.2.2.2.2.2.2.2.1.cap, .string x12.2.2.2.2.2.2.2.2.2.2.1, .bool x12.2.2.2.2.2.2.2.2.2.2.2.1, .int .i64 x12.2.2.2.2.2.2.2.2.2.2.2.2.1, .bool x12.2.2.2.2.2.2.2.2.2.2.2.2.2.1, .string x12.2.2.2.2.2.2.2.2.2.2.2.2.2.2.1, .string x12.2.2.2.2.2.2.2.2.2.2.2.2.2.2.2.1, .int .i64 x12.2.2.2.2.2.2.2.2.2.2.2.2.2.2.2.2.1, .bool x12.2.2.2.2.2.2.2.2.2.2.2.2.2.2.2.2.2.1, .slice x12.2.2.2.2.2.2.2.2.2.2.2.2.2.2.2.2.2.2.1.a x12.2.2.2.2.2.2.2.2.2.2.2.2.2.2.2.2.2.2.1.len x12.2.2.2.2.2.2.2.2.2.2.2.2.2.2.2.2.2.2.1.cap, .bool x12.2.2.2.2.2.2.2.2.2.2.2.2.2.2.2.2.2.2.2.1, .bool x12.2.2.2.2.2.2.2.2.2.2.2.2.2.2.2.2.2.2.2.2.1, .string x12.2.2.2.2.2.2.2.2.2.2.2.2.2.2.2.2.2.2.2.2.2.1, .string x12.2.2.2.2.2.2.2.2.2.2.2.2.2.2.2.2.2.2.2.2.2.2.1, .bool x12.2.2.2.2.2.2.2.2.2.2.2.2.2.2.2.2.2.2.2.2.2.2.2.1, .slice x12.2.2.2.2.2.2.2.2.2.2.2.2.2.2.2.2.2.2.2.2.2.2.2.2.1.a x12.2.2.2.2.2.2.2.2.2.2.2.2.2.2.2.2.2.2.2.2.2.2.2.2.1.len x12.2.2.2.2.2.2.2.2.2.2.2.2.2.2.2.2.2.2.2.2.2.2.2.2.1.cap, .slice x12.2.2.2.2.2.2.2.2.2.2.2.2.2.2.2.2.2.2.2.2.2.2.2.2.2.1.a x12.2.2.2.2.2.2.2.2.2.2.2.2.2.2.2.2.2.2.2.2.2.2.2.2.2.1.len x12.2.2.2.2.2.2.2.2.2.2.2.2.2.2.2.2.2.2.2.2.2.2.2.2.2.1.cap]) fun (_ : Unit) =>
  HM.bind (α := Int × Bool × Bool × Int × Int × ByteArray × ByteArray × Int × Slc × Slc × ByteArray × Bool × Int × Bool × ByteArray × ByteArray × Int × Bool × Slc × Bool × Bool × ByteArray × ByteArray × Bool × Slc × Slc × Unit) (HM.loadN [.int .i64, .bool, .bool, .int .i64, .int .i64, .str, .str, .int .u8, .slc, .slc, .str, .bool, .int .i64, .bool, .str, .str, .int .i64, .bool, .slc, .bool, .bool, .str, .str, .bool, .slc, .slc] ⟨x2, 0, none⟩) fun (x13 : Int × Bool × Bool × Int × Int × ByteArray × ByteArray × Int × Slc × Slc × ByteArray × Bool × Int × Bool × ByteArray × ByteArray × Int × Bool × Slc × Bool × Bool × ByteArray × ByteArray × Bool × Slc × Slc × Unit) =>
  HM.pure ((x13.1, x13.2.1, x13.2.2.1, x13.2.2.2.1, x13.2.2.2.2.1, x13.2.2.2.2.2.1, x13.2.2.2.2.2.2.1, x13.2.2.2.2.2.2.2.1, x13.2.2.2.2.2.2.2.2.1, x13.2.2.2.2.2.2.2.2.2.1, x13.2.2.2.2.2.2.2.2.2.2.1, x13.2.2.2.2.2.2.2.2.2.2.2.1, x13.2.2.2.2.2.2.2.2.2.2.2.2.1, x13.2.2.2.2.2.2.2.2.2.2.2.2.2.1, x13.2.2.2.2.2.2.2.2.2.2.2.2.2.2.1, x13.2.2.2.2.2.2.2.2.2.2.2.2.2.2.2.1, x13.2.2.2.2.2.2.2.2.2.2.2.2.2.2.2.2.1, x13.2.2.2.2.2.2.2.2.2.2.2.2.2.2.2.2.2.1, x13.2.2.2.2.2.2.2.2.2.2.2.2.2.2.2.2.2.2.1, x13.2.2.2.2.2.2.2.2.2.2.2.2.2.2.2.2.2.2.2.1, x13.2.2.2.2.2.2.2.2.2.2.2.2.2.2.2.2.2.2.2.2.1, x13.2.2.2.2.2.2.2.2.2.2.2.2.2.2.2.2.2.2.2.2.2.1, x13.2.2.2.2.2.2.2.2.2.2.2.2.2.2.2.2.2.2.2.2.2.2.1, x13.2.2.2.2.2.2.2.2.2.2.2.2.2.2.2.2.2.2.2.2.2.2.2.1, x13.2.2.2.2.2.2.2.2.2.2.2.2.2.2.2.2.2.2.2.2.2.2.2.2.1, x13.2.2.2.2.2.2.2.2.2.2.2.2.2.2.2.2.2.2.2.2.2.2.2.2.2.1, ()), ())

theorem outflow_Message_packet_den (p0 : ByteArray × ByteArray × Int × Bool × ByteArray × Unit) (p1 : Int) (p2 : Bool) : denFn Tryd.prog [] 28 [0, 1, 2, 3, 6, 7, 21] [0, 1, 2, 3, 6, 7, 21] Tryd.f50.results.toList [.agg [.int .i64, .bool, .bool, .int .i64, .int .i64, .str, .str, .int .u8, .slc, .slc, .str, .bool, .int .i64, .bool, .str, .str, .int .i64, .bool, .slc, .bool, .bool, .str, .str, .bool, .slc, .slc]] (bodyOf Tryd.f50) [Kind.val (.agg [.str, .str, .int .i64, .bool, .str]) p0, Kind.val (.one (.int .i64)) p1, Kind.val (.one .bool) p2] = outflow_Message_packet p0 p1 p2 := by kernel_rfl
theorem outflow_Message_packet_calls (p0 : ByteArray × ByteArray × Int × Bool × ByteArray × Unit) (p1 : Int) (p2 : Bool) (h : Heap) (Q : Value → Heap → Prop) (hh : outflow_Message_packet p0 p1 p2 h fun x h' => Q (.agg #[.int .i64 x.1.1, .bool x.1.2.1, .bool x.1.2.2.1, .int .i64 x.1.2.2.2.1, .int .i64 x.1.2.2.2.2.1, .string x.1.2.2.2.2.2.1, .string x.1.2.2.2.2.2.2.1, .int .u8 x.1.2.2.2.2.2.2.2.1, .slice x.1.2.2.2.2.2.2.2.2.1.a x.1.2.2.2.2.2.2.2.2.1.len x.1.2.2.2.2.2.2.2.2.1.cap, .slice x.1.2.2.2.2.2.2.2.2.2.1.a x.1.2.2.2.2.2.2.2.2.2.1.len x.1.2.2.2.2.2.2.2.2.2.1.cap, .string x.1.2.2.2.2.2.2.2.2.2.2.1, .bool x.1.2.2.2.2.2.2.2.2.2.2.2.1, .int .i64 x.1.2.2.2.2.2.2.2.2.2.2.2.2.1, .bool x.1.2.2.2.2.2.2.2.2.2.2.2.2.2.1, .string x.1.2.2.2.2.2.2.2.2.2.2.2.2.2.2.1, .string x.1.2.2.2.2.2.2.2.2.2.2.2.2.2.2.2.1, .int .i64 x.1.2.2.2.2.2.2.2.2.2.2.2.2.2.2.2.2.1, .bool x.1.2.2.2.2.2.2.2.2.2.2.2.2.2.2.2.2.2.1, .slice x.1.2.2.2.2.2.2.2.2.2.2.2.2.2.2.2.2.2.2.1.a x.1.2.2.2.2.2.2.2.2.2.2.2.2.2.2.2.2.2.2.1.len x.1.2.2.2.2.2.2.2.2.2.2.2.2.2.2.2.2.2.2.1.cap, .bool x.1.2.2.2.2.2.2.2.2.2.2.2.2.2.2.2.2.2.2.2.1, .bool x.1.2.2.2.2.2.2.2.2.2.2.2.2.2.2.2.2.2.2.2.2.1, .string x.1.2.2.2.2.2.2.2.2.2.2.2.2.2.2.2.2.2.2.2.2.2.1, .string x.1.2.2.2.2.2.2.2.2.2.2.2.2.2.2.2.2.2.2.2.2.2.2.1, .bool x.1.2.2.2.2.2.2.2.2.2.2.2.2.2.2.2.2.2.2.2.2.2.2.2.1, .slice x.1.2.2.2.2.2.2.2.2.2.2.2.2.2.2.2.2.2.2.2.2.2.2.2.2.1.a x.1.2.2.2.2.2.2.2.2.2.2.2.2.2.2.2.2.2.2.2.2.2.2.2.2.1.len x.1.2.2.2.2.2.2.2.2.2.2.2.2.2.2.2.2.2.2.2.2.2.2.2.2.1.cap, .slice x.1.2.2.2.2.2.2.2.2.2.2.2.2.2.2.2.2.2.2.2.2.2.2.2.2.2.1.a x.1.2.2.2.2.2.2.2.2.2.2.2.2.2.2.2.2.2.2.2.2.2.2.2.2.2.1.len x.1.2.2.2.2.2.2.2.2.2.2.2.2.2.2.2.2.2.2.2.2.2.2.2.2.2.1.cap]) h') :
    HCalls Tryd.prog 50 #[.agg #[.string p0.1, .string p0.2.1, .int .i64 p0.2.2.1, .bool p0.2.2.2.1, .string p0.2.2.2.2.1], .int .i64 p1, .bool p2] h Q := by
  rw [← outflow_Message_packet_den] at hh
  exact calls_of_den Tryd.func50 (by kernel_rfl) Tryd.ntmps50 (by kernel_rfl) (fun f hf => by cases hf) orders hh

/-- aqueduct/text.next -/
def text_next (p0 : ByteArray) : HM (Int × Unit) :=
  HM.bind (α := Int × Int × Unit) (HM.callN Tryd.prog [.one (.int .i32), .one (.int .i64)] 114 #[.string p0]) fun (x1 : Int × Int × Unit) =>
  HM.bind (α := Bool × Unit) (HM.ite (x1.1 == 0) (
  HM.pure (true, ())) (
  HM.ite (x1.1 == 65533) (
  HM.pure (decide (x1.2.1 < (2 : Int)), ())) (
  HM.pure (false, ())))) fun (x2 : Bool × Unit) =>
  HM.ite x2.1 (
  HM.pure (0, ())) (
  HM.pure (x1.2.1, ()))

theorem text_next_den (p0 : ByteArray) : denFn Tryd.prog [114] 21 [0, 2, 3, 4, 19] [0, 3, 4, 19] Tryd.f84.results.toList [.one (.int .i64)] (bodyOf Tryd.f84) [Kind.val (.one .str) p0] = text_next p0 := by kernel_rfl
theorem text_next_calls (p0 : ByteArray) (h : Heap) (Q : Value → Heap → Prop) (hh : text_next p0 h fun x h' => Q (.int .i64 x.1) h') :
    HCalls Tryd.prog 84 #[.string p0] h Q := by
  rw [← text_next_den] at hh
  exact calls_of_den Tryd.func84 (by kernel_rfl) Tryd.ntmps84 (by kernel_rfl) (fun f hf => by
      rcases List.mem_cons.1 hf with rfl | hf
      · exact Tryd.call114
      cases hf) orders hh

/-- aqueduct/ids.New -/
def ids_New (p0 : Int) : HM (Option Addr × Unit) :=
  HM.bind (α := Nat) (HM.new (.map #[] 0)) fun (x1 : Nat) =>
  HM.bind (α := Nat) (HM.new (.cells #[.int .i64 (if 1 < ((if 64 < (p0 : Int) then 64 else p0) : Int) then (if 64 < (p0 : Int) then 64 else p0) else 1), .int .i64 0, .map (some x1)] 216)) fun (x2 : Nat) =>
  HM.pure (some ⟨x2, 0, none⟩, ())

theorem ids_New_den (p0 : Int) : denFn Tryd.prog [] 9 [0, 2] [0] Tryd.f85.results.toList [.one .ptr] (bodyOf Tryd.f85) [Kind.val (.one (.int .i64)) p0] = ids_New p0 := by kernel_rfl
theorem ids_New_calls (p0 : Int) (h : Heap) (Q : Value → Heap → Prop) (hh : ids_New p0 h fun x h' => Q (.pointer x.1) h') :
    HCalls Tryd.prog 85 #[.int .i64 p0] h Q := by
  rw [← ids_New_den] at hh
  exact calls_of_den Tryd.func85 (by kernel_rfl) Tryd.ntmps85 (by kernel_rfl) (fun f hf => by cases hf) orders hh

/-- (*aqueduct/ids.Pool).Take -/
def ids_Pool_Take (p0 : Option Addr) : HM (Int × Int × Unit) :=
  HM.ite (Option.isNone p0) (
  HM.pure (0, 128, ())) (
  HM.bind (α := Int) (HM.call1 Tryd.prog (.one (.int .i64)) 115 #[.pointer p0]) fun (x1 : Int) =>
  HM.ite (x1 == 0) (
  HM.pure (0, 147, ())) (
  HM.bind (α := Unit) (HM.loop (σ := Unit) (τ := Unit) (fun (x3 : Unit) =>
  HM.bind (α := Addr) (HM.nonnil p0) fun (x4 : Addr) =>
  HM.bind (α := Int) (HM.load1 (.int .i64) (Addr.add x4 1)) fun (x5 : Int) =>
  HM.req (65535 ≠ (0 : Int)) <|
  HM.bind (α := Addr) (HM.nonnil p0) fun (x6 : Addr) =>
  HM.bind (α := Unit) (HM.store1 (Addr.add x6 1) (.int .i64 (IntKind.wrap .i64 ((Int.tmod x5 65535) + 1)))) fun (_ : Unit) =>
  HM.bind (α := Addr) (HM.nonnil p0) fun (x7 : Addr) =>
  HM.bind (α := Option Nat) (HM.load1 .map (Addr.add x7 2)) fun (x8 : Option Nat) =>
  HM.bind (α := Addr) (HM.nonnil p0) fun (x9 : Addr) =>
  HM.bind (α := Int) (HM.load1 (.int .i64) (Addr.add x9 1)) fun (x10 : Int) =>
  HM.bind (α := Bool × Bool) (HM.lookup (Instr.sameNow (.int .i64)) (.bool false) (.one .bool) x8 (.int .i64 x10)) fun (x11 : Bool × Bool) =>
  HM.ite (!x11.1) (
  HM.pure (.inr ())) (
  HM.pure (.inl ()))) ()) fun (x2 : Unit) =>
  HM.bind (α := Addr) (HM.nonnil p0) fun (x12 : Addr) =>
  HM.bind (α := Option Nat) (HM.load1 .map (Addr.add x12 2)) fun (x13 : Option Nat) =>
  HM.bind (α := Addr) (HM.nonnil p0) fun (x14 : Addr) =>
  HM.bind (α := Int) (HM.load1 (.int .i64) (Addr.add x14 1)) fun (x15 : Int) =>
  HM.bind (α := Unit) (HM.mapSet (Instr.sameNow (.int .i64)) x13 (.int .i64 x15) (.bool true)) fun (_ : Unit) =>
  HM.bind (α := Addr) (HM.nonnil p0) fun (x16 : Addr) =>
  HM.bind (α := Int) (HM.load1 (.int .i64) (Addr.add x16 1)) fun (x17 : Int) =>
  HM.pure (x17, 0, ())))

theorem ids_Pool_Take_den (p0 : Option Addr) : denFn Tryd.prog [115] 42 [0, 2, 3, 4, 7, 29] [0, 4, 7, 29] Tryd.f86.results.toList [.one (.int .i64), .one (.int .u8)] (bodyOf Tryd.f86) [Kind.val (.one .ptr) p0] = ids_Pool_Take p0 := by kernel_rfl
theorem ids_Pool_Take_calls (p0 : Option Addr) (h : Heap) (Q : Value → Heap → Prop) (hh : ids_Pool_Take p0 h fun x h' => Q (.tuple #[.int .i64 x.1, .int .u8 x.2.1]) h') :
    HCalls Tryd.prog 86 #[.pointer p0] h Q := by
  rw [← ids_Pool_Take_den] at hh
  exact calls_of_den Tryd.func86 (by kernel_rfl) Tryd.ntmps86 (by kernel_rfl) (fun f hf => by
      rcases List.mem_cons.1 hf with rfl | hf
      · exact Tryd.call115
      cases hf) orders hh

/-- (*aqueduct/ids.Pool).Left -/
def ids_Pool_Left (p0 : Option Addr) : HM (Int × Unit) :=
  HM.ite (Option.isNone p0) (
  HM.pure (0, ())) (
  HM.bind (α := Addr) (HM.nonnil p0) fun (x1 : Addr) =>
  HM.bind (α := Int) (HM.load1 (.int .i64) (Addr.add x1 0)) fun (x2 : Int) =>
  HM.bind (α := Addr) (HM.nonnil p0) fun (x3 : Addr) =>
  HM.bind (α := Option Nat) (HM.load1 .map (Addr.add x3 2)) fun (x4 : Option Nat) =>
  HM.bind (α := Int) (HM.mapLen x4) fun (x5 : Int) =>
  HM.pure (IntKind.wrap .i64 (x2 - x5), ()))

theorem ids_Pool_Left_den (p0 : Option Addr) : denFn Tryd.prog [] 15 [0, 2, 4] [0, 4] Tryd.f115.results.toList [.one (.int .i64)] (bodyOf Tryd.f115) [Kind.val (.one .ptr) p0] = ids_Pool_Left p0 := by kernel_rfl
theorem ids_Pool_Left_calls (p0 : Option Addr) (h : Heap) (Q : Value → Heap → Prop) (hh : ids_Pool_Left p0 h fun x h' => Q (.int .i64 x.1) h') :
    HCalls Tryd.prog 115 #[.pointer p0] h Q := by
  rw [← ids_Pool_Left_den] at hh
  exact calls_of_den Tryd.func115 (by kernel_rfl) Tryd.ntmps115 (by kernel_rfl) (fun f hf => by cases hf) orders hh

end Go.Proofs.YtnmighfcpeifeaaDoor
