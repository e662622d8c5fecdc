/-
  The shallow forms of functions of the program, written by gen.py; each is held against the program by the kernel.
-/
import Derived.Test.YtlgddhcbiioefaaDoorHj
import Derived.Test.YtlgddhcbiioefaaDoorProg
import Derived.KernelRfl
namespace Go.Proofs.YtlgddhcbiioefaaDoor
open Go.H Go.Proofs
set_option linter.unusedVariables false
set_option linter.unusedSimpArgs false
set_option maxRecDepth 100000

theorem orders : Tryd.prog.follows .mixedOrders = true := by kernel_rfl

/-- aqueduct/aqueductlaw18.SessionUnique -/
def law18_SessionUnique (p0 : Slc) : HM (Bool × Unit) :=
  HM.bind (α := Option Addr) (HM.call1 Tryd.prog (.one .ptr) 12 #[]) fun (x1 : Option Addr) =>
  HM.bind (α := Nat) (HM.new (.map #[] 0)) fun (x2 : Nat) =>
  HM.bind (α := Slc) (HM.slice p0 none (some (if 100 < (((p0.len : Nat) : Int) : Int) then 100 else ((p0.len : Nat) : Int))) none 5) fun (x3 : Slc) =>
  HM.bind (α := (Int × Unit) ⊕ (Bool × Unit)) (HM.loop (σ := Int × Unit) (τ := (Int × Unit) ⊕ (Bool × Unit)) (fun (x5 : Int × Unit) =>
  HM.ite (decide (x5.1 < (((x3.len : Nat) : Int) : Int))) (
  HM.bind (α := (Unit) ⊕ ((Int × Unit) ⊕ ((Int × Unit) ⊕ (Bool × Unit)))) (HM.bind (α := Addr) (HM.idx x3.a x3.len x5.1 5) fun (x7 : Addr) =>
  HM.bind (α := Int × ByteArray × Bool × Bool × Int × Unit) (HM.loadN [.int .i64, .str, .bool, .bool, .int .i64] x7) fun (x8 : Int × ByteArray × Bool × Bool × Int × Unit) =>
  HM.bind (α := Nat) (HM.new (.cells #[.int .i64 0, .string (ByteArray.mk #[]), .bool false, .bool false, .int .i64 0] 54)) fun (x9 : Nat) =>
  HM.bind (α := Unit) (HM.storeN ⟨x9, 0, none⟩ [.int .i64 x8.1, .string x8.2.1, .bool x8.2.2.1, .bool x8.2.2.2.1, .int .i64 x8.2.2.2.2.1]) fun (_ : Unit) =>
  HM.bind (α := Int) (HM.load1 (.int .i64) (Addr.add ⟨x9, 0, none⟩ 0)) fun (x10 : Int) =>
  HM.req (4 ≠ (0 : Int)) <|
  HM.ite ((Int.tmod x10 4) == 1) (
  HM.bind (α := Int) (HM.load1 (.int .i64) (Addr.add ⟨x9, 0, none⟩ 4)) fun (x11 : Int) =>
  HM.bind (α := Bool) (HM.call1 Tryd.prog (.one .bool) 17 #[.pointer x1, .int .i64 x11]) fun (x12 : Bool) =>
  HM.pure (.inl ())) (
  HM.bind (α := ByteArray) (HM.load1 .str (Addr.add ⟨x9, 0, none⟩ 1)) fun (x13 : ByteArray) =>
  HM.bind (α := Bool) (HM.load1 .bool (Addr.add ⟨x9, 0, none⟩ 2)) fun (x14 : Bool) =>
  HM.bind (α := Bool) (HM.load1 .bool (Addr.add ⟨x9, 0, none⟩ 3)) fun (x15 : Bool) =>
  HM.bind (α := Int × Bool × Int × Unit) (HM.callN Tryd.prog [.one (.int .i64), .one .bool, .one (.int .u8)] 13 #[.pointer x1, .string x13, .bool x14, .bool x15]) fun (x16 : Int × Bool × Int × Unit) =>
  HM.ite (!(x16.2.2.1 == 0)) (
  HM.pure (.inl ())) (
  HM.bind (α := ByteArray × Bool) (HM.lookup (Instr.sameNow (.int .i64)) (.string (ByteArray.mk #[])) (.one .str) (some x2) (.int .i64 x16.1)) fun (x17 : ByteArray × Bool) =>
  HM.bind (α := Bool × Unit) (HM.ite (!(x17.2 == x16.2.1)) (
  HM.pure (true, ())) (
  HM.ite x17.2 (
  HM.bind (α := ByteArray) (HM.load1 .str (Addr.add ⟨x9, 0, none⟩ 1)) fun (x18 : ByteArray) =>
  HM.pure (!(decide (x17.1 = x18)), ())) (
  HM.pure (false, ())))) fun (x19 : Bool × Unit) =>
  HM.ite x19.1 (
  HM.pure (.inr (.inr (.inr (false, ()))))) (
  HM.bind (α := ByteArray) (HM.load1 .str (Addr.add ⟨x9, 0, none⟩ 1)) fun (x20 : ByteArray) =>
  HM.bind (α := Unit) (HM.mapSet (Instr.sameNow (.int .i64)) (some x2) (.int .i64 x16.1) (.string x20)) fun (_ : Unit) =>
  HM.bind (α := Nat) (HM.new (.map #[] 0)) fun (x21 : Nat) =>
  HM.bind (α := Slc) (HM.call1 Tryd.prog (.one .slc) 20 #[.pointer x1]) fun (x22 : Slc) =>
  HM.bind (α := (Int × Unit) ⊕ ((Unit) ⊕ ((Int × Unit) ⊕ ((Int × Unit) ⊕ (Bool × Unit))))) (HM.loop (σ := Int × Unit) (τ := (Int × Unit) ⊕ ((Unit) ⊕ ((Int × Unit) ⊕ ((Int × Unit) ⊕ (Bool × Unit))))) (fun (x24 : Int × Unit) =>
  HM.ite (decide (x24.1 < (((x22.len : Nat) : Int) : Int))) (
  HM.bind (α := Addr) (HM.idx x22.a x22.len x24.1 4) fun (x25 : Addr) =>
  HM.bind (α := Int × ByteArray × Bool × Bool × Unit) (HM.loadN [.int .i64, .str, .bool, .bool] x25) fun (x26 : Int × ByteArray × Bool × Bool × Unit) =>
  HM.bind (α := Nat) (HM.new (.cells #[.int .i64 0, .string (ByteArray.mk #[]), .bool false, .bool false] 60)) fun (x27 : Nat) =>
  HM.bind (α := Unit) (HM.storeN ⟨x27, 0, none⟩ [.int .i64 x26.1, .string x26.2.1, .bool x26.2.2.1, .bool x26.2.2.2.1]) fun (_ : Unit) =>
  HM.bind (α := ByteArray) (HM.load1 .str (Addr.add ⟨x27, 0, none⟩ 1)) fun (x28 : ByteArray) =>
  HM.bind (α := Bool × Bool) (HM.lookup (Instr.sameNow .string) (.bool false) (.one .bool) (some x21) (.string x28)) fun (x29 : Bool × Bool) =>
  HM.ite x29.1 (
  HM.pure (.inr (.inr (.inr (.inr (.inr (false, ()))))))) (
  HM.bind (α := ByteArray) (HM.load1 .str (Addr.add ⟨x27, 0, none⟩ 1)) fun (x30 : ByteArray) =>
  HM.bind (α := Unit) (HM.mapSet (Instr.sameNow .string) (some x21) (.string x30) (.bool true)) fun (_ : Unit) =>
  HM.pure (.inl (IntKind.wrap .i64 (x24.1 + 1), ())))) (
  HM.pure (.inr (.inl (x24.1, ()))))) (0, ())) (Sum.elim (fun (x23 : Int × Unit) =>
  HM.bind (α := Bool × Unit) (HM.bind (α := Int) (HM.mapLen (some x21)) fun (x31 : Int) =>
  HM.ite (decide (32 < (x31 : Int))) (
  HM.pure (true, ())) (
  HM.bind (α := ByteArray) (HM.load1 .str (Addr.add ⟨x9, 0, none⟩ 1)) fun (x32 : ByteArray) =>
  HM.bind (α := Bool × Bool) (HM.lookup (Instr.sameNow .string) (.bool false) (.one .bool) (some x21) (.string x32)) fun (x33 : Bool × Bool) =>
  HM.pure (!x33.1, ()))) fun (x34 : Bool × Unit) =>
  HM.ite x34.1 (
  HM.pure (.inr (.inr (.inr (false, ()))))) (
  HM.pure (.inl ()))) HM.pure))))) (Sum.elim (fun (x6 : Unit) =>
  HM.pure (.inl (IntKind.wrap .i64 (x5.1 + 1), ()))) HM.pure)) (
  HM.pure (.inr (.inl (x5.1, ()))))) (0, ())) (Sum.elim (fun (x4 : Int × Unit) =>
  HM.bind (α := Bool) (HM.call1 Tryd.prog (.one .bool) 14 #[]) fun (x35 : Bool) =>
  HM.pure (x35, ())) HM.pure)

theorem law18_SessionUnique_den (p0 : Slc) : denFn Tryd.prog [12, 17, 13, 20, 14] 99 [0, 2, 3, 4, 6, 7, 8, 9, 10, 11, 12, 14, 21, 22, 23, 24, 30, 48, 66, 73, 74, 75, 76, 82, 96] [0, 3, 4, 6, 7, 8, 9, 10, 11, 12, 14, 21, 22, 23, 24, 30, 48, 66, 73, 74, 75, 76, 82, 96] Tryd.f4.results.toList [.one .bool] (bodyOf Tryd.f4) [Kind.val (.one .slc) p0] = law18_SessionUnique p0 := by kernel_rfl
theorem law18_SessionUnique_calls (p0 : Slc) (h : Heap) (Q : Value → Heap → Prop) (hh : law18_SessionUnique p0 h fun x h' => Q (.bool x.1) h') :
    HCalls Tryd.prog 4 #[.slice p0.a p0.len p0.cap] h Q := by
  rw [← law18_SessionUnique_den] at hh
  exact calls_of_den Tryd.func4 (by kernel_rfl) Tryd.ntmps4 (by kernel_rfl) (fun f hf => by
      rcases List.mem_cons.1 hf with rfl | hf
      · exact Tryd.call12
      rcases List.mem_cons.1 hf with rfl | hf
      · exact Tryd.call17
      rcases List.mem_cons.1 hf with rfl | hf
      · exact Tryd.call13
      rcases List.mem_cons.1 hf with rfl | hf
      · exact Tryd.call20
      rcases List.mem_cons.1 hf with rfl | hf
      · exact Tryd.call14
      cases hf) orders hh

/-- aqueduct/aqueductlaw18.SessionNil -/
def law18_SessionNil (p0 : Int × ByteArray × Bool × Bool × Int × Unit) : HM (Bool × Unit) :=
  HM.bind (α := Nat) (HM.new (.cells #[.int .i64 p0.1, .string p0.2.1, .bool p0.2.2.1, .bool p0.2.2.2.1, .int .i64 p0.2.2.2.2.1] 54)) fun (x1 : Nat) =>
  HM.bind (α := ByteArray) (HM.load1 .str (Addr.add ⟨x1, 0, none⟩ 1)) fun (x2 : ByteArray) =>
  HM.bind (α := Bool) (HM.load1 .bool (Addr.add ⟨x1, 0, none⟩ 2)) fun (x3 : Bool) =>
  HM.bind (α := Bool) (HM.load1 .bool (Addr.add ⟨x1, 0, none⟩ 3)) fun (x4 : Bool) =>
  HM.bind (α := Int × Bool × Int × Unit) (HM.callN Tryd.prog [.one (.int .i64), .one .bool, .one (.int .u8)] 13 #[.pointer none, .string x2, .bool x3, .bool x4]) fun (x5 : Int × Bool × Int × Unit) =>
  HM.bind (α := ByteArray) (HM.load1 .str (Addr.add ⟨x1, 0, none⟩ 1)) fun (x6 : ByteArray) =>
  HM.bind (α := (Int × ByteArray × Bool × Bool × Unit) × Bool × Unit) (HM.callN Tryd.prog [.agg [.int .i64, .str, .bool, .bool], .one .bool] 21 #[.pointer none, .string x6]) fun (x7 : (Int × ByteArray × Bool × Bool × Unit) × Bool × Unit) =>
  HM.bind (α := Nat) (HM.new (.cells #[.int .i64 0, .string (ByteArray.mk #[]), .bool false, .bool false] 60)) fun (x8 : Nat) =>
  HM.bind (α := Unit) (HM.storeN ⟨x8, 0, none⟩ [.int .i64 x7.1.1, .string x7.1.2.1, .bool x7.1.2.2.1, .bool x7.1.2.2.2.1]) fun (_ : Unit) =>
  HM.bind (α := Int) (HM.load1 (.int .i64) (Addr.add ⟨x1, 0, none⟩ 4)) fun (x9 : Int) =>
  HM.bind (α := (Int × ByteArray × Bool × Bool × Unit) × Bool × Unit) (HM.callN Tryd.prog [.agg [.int .i64, .str, .bool, .bool], .one .bool] 22 #[.pointer none, .int .i64 x9]) fun (x10 : (Int × ByteArray × Bool × Bool × Unit) × Bool × Unit) =>
  HM.bind (α := Nat) (HM.new (.cells #[.int .i64 0, .string (ByteArray.mk #[]), .bool false, .bool false] 60)) fun (x11 : Nat) =>
  HM.bind (α := Unit) (HM.storeN ⟨x11, 0, none⟩ [.int .i64 x10.1.1, .string x10.1.2.1, .bool x10.1.2.2.1, .bool x10.1.2.2.2.1]) fun (_ : Unit) =>
  HM.bind (α := Bool × Unit) (HM.bind (α := Bool) (HM.call1 Tryd.prog (.one .bool) 14 #[]) fun (x12 : Bool) =>
  HM.ite x12 (
  HM.ite (x5.2.2.1 == 128) (
  HM.bind (α := Int) (HM.load1 (.int .i64) (Addr.add ⟨x1, 0, none⟩ 4)) fun (x13 : Int) =>
  HM.bind (α := Bool) (HM.call1 Tryd.prog (.one .bool) 17 #[.pointer none, .int .i64 x13]) fun (x14 : Bool) =>
  HM.ite (!x14) (
  HM.ite (!x7.2.1) (
  HM.ite (!x10.2.1) (
  HM.bind (α := Int) (HM.load1 (.int .i64) (Addr.add ⟨x1, 0, none⟩ 4)) fun (x15 : Int) =>
  HM.bind (α := Option Addr) (HM.call1 Tryd.prog (.one .ptr) 15 #[.pointer none, .int .i64 x15]) fun (x16 : Option Addr) =>
  HM.ite (Option.isNone x16) (
  HM.bind (α := Int) (HM.load1 (.int .i64) (Addr.add ⟨x1, 0, none⟩ 4)) fun (x17 : Int) =>
  HM.bind (α := Option Addr) (HM.call1 Tryd.prog (.one .ptr) 23 #[.pointer none, .int .i64 x17]) fun (x18 : Option Addr) =>
  HM.ite (Option.isNone x18) (
  HM.bind (α := Slc) (HM.call1 Tryd.prog (.one .slc) 20 #[.pointer none]) fun (x19 : Slc) =>
  HM.pure (((x19.len : Nat) : Int) == 0, ())) (
  HM.pure (false, ()))) (
  HM.pure (false, ()))) (
  HM.pure (false, ()))) (
  HM.pure (false, ()))) (
  HM.pure (false, ()))) (
  HM.pure (false, ()))) (
  HM.pure (false, ()))) fun (x20 : Bool × Unit) =>
  HM.pure (x20.1, ())

theorem law18_SessionNil_den (p0 : Int × ByteArray × Bool × Bool × Int × Unit) : denFn Tryd.prog [13, 21, 22, 14, 17, 15, 23, 20] 77 [0, 1, 2, 3, 6, 8, 10] [0, 1, 3, 6, 8, 10] Tryd.f5.results.toList [.one .bool] (bodyOf Tryd.f5) [Kind.val (.agg [.int .i64, .str, .bool, .bool, .int .i64]) p0] = law18_SessionNil p0 := by kernel_rfl
theorem law18_SessionNil_calls (p0 : Int × ByteArray × Bool × Bool × Int × Unit) (h : Heap) (Q : Value → Heap → Prop) (hh : law18_SessionNil p0 h fun x h' => Q (.bool x.1) h') :
    HCalls Tryd.prog 5 #[.agg #[.int .i64 p0.1, .string p0.2.1, .bool p0.2.2.1, .bool p0.2.2.2.1, .int .i64 p0.2.2.2.2.1]] h Q := by
  rw [← law18_SessionNil_den] at hh
  exact calls_of_den Tryd.func5 (by kernel_rfl) Tryd.ntmps5 (by kernel_rfl) (fun f hf => by
      rcases List.mem_cons.1 hf with rfl | hf
      · exact Tryd.call13
      rcases List.mem_cons.1 hf with rfl | hf
      · exact Tryd.call21
      rcases List.mem_cons.1 hf with rfl | hf
      · exact Tryd.call22
      rcases List.mem_cons.1 hf with rfl | hf
      · exact Tryd.call14
      rcases List.mem_cons.1 hf with rfl | hf
      · exact Tryd.call17
      rcases List.mem_cons.1 hf with rfl | hf
      · exact Tryd.call15
      rcases List.mem_cons.1 hf with rfl | hf
      · exact Tryd.call23
      rcases List.mem_cons.1 hf with rfl | hf
      · exact Tryd.call20
      cases hf) orders hh

/-- aqueduct/aqueductlaw18.SessionPlays -/
def law18_SessionPlays (p0 : Slc) (p1 : Int × ByteArray × Bool × Bool × Int × Unit) : HM (Bool × Unit) :=
  HM.bind (α := Nat) (HM.new (.cells #[.int .i64 p1.1, .string p1.2.1, .bool p1.2.2.1, .bool p1.2.2.2.1, .int .i64 p1.2.2.2.2.1] 54)) fun (x1 : Nat) =>
  HM.bind (α := Option Addr) (HM.call1 Tryd.prog (.one .ptr) 12 #[]) fun (x2 : Option Addr) =>
  HM.bind (α := Nat) (HM.new (.cells #[.int .i64 0, .slice none 0 0] 71)) fun (x3 : Nat) =>
  HM.bind (α := Bool) (HM.call1 Tryd.prog (.one .bool) 14 #[]) fun (x4 : Bool) =>
  HM.ite (!x4) (
  HM.pure (false, ())) (
  HM.bind (α := Slc) (HM.slice p0 none (some (if 100 < (((p0.len : Nat) : Int) : Int) then 100 else ((p0.len : Nat) : Int))) none 5) fun (x5 : Slc) =>
  HM.bind (α := (Int × Unit) ⊕ (Bool × Unit)) (HM.loop (σ := Int × Unit) (τ := (Int × Unit) ⊕ (Bool × Unit)) (fun (x7 : Int × Unit) =>
  HM.ite (decide (x7.1 < (((x5.len : Nat) : Int) : Int))) (
  HM.bind (α := Addr) (HM.idx x5.a x5.len x7.1 5) fun (x8 : Addr) =>
  HM.bind (α := Int × ByteArray × Bool × Bool × Int × Unit) (HM.loadN [.int .i64, .str, .bool, .bool, .int .i64] x8) fun (x9 : Int × ByteArray × Bool × Bool × Int × Unit) =>
  HM.bind (α := Nat) (HM.new (.cells #[.int .i64 0, .string (ByteArray.mk #[]), .bool false, .bool false, .int .i64 0] 54)) fun (x10 : Nat) =>
  HM.bind (α := Unit) (HM.storeN ⟨x10, 0, none⟩ [.int .i64 x9.1, .string x9.2.1, .bool x9.2.2.1, .bool x9.2.2.2.1, .int .i64 x9.2.2.2.2.1]) fun (_ : Unit) =>
  HM.bind (α := Int) (HM.load1 (.int .i64) (Addr.add ⟨x10, 0, none⟩ 0)) fun (x11 : Int) =>
  HM.req (4 ≠ (0 : Int)) <|
  HM.bind (α := (Unit) ⊕ ((Int × Unit) ⊕ ((Int × Unit) ⊕ (Bool × Unit)))) (HM.bind (α := Bool × Unit) (HM.ite ((Int.tmod x11 4) == 1) (
  HM.pure ((Int.tmod x11 4) == 1, ())) (
  HM.pure ((Int.tmod x11 4) == (-1), ()))) fun (x13 : Bool × Unit) =>
  HM.bind (α := (Unit) ⊕ ((Unit) ⊕ ((Int × Unit) ⊕ ((Int × Unit) ⊕ (Bool × Unit))))) (HM.ite x13.1 (
  HM.bind (α := Int) (HM.load1 (.int .i64) (Addr.add ⟨x10, 0, none⟩ 4)) fun (x15 : Int) =>
  HM.bind (α := Int) (HM.load1 (.int .i64) (Addr.add ⟨x10, 0, none⟩ 4)) fun (x16 : Int) =>
  HM.bind (α := Bool) (HM.call1 Tryd.prog (.one .bool) 17 #[.pointer x2, .int .i64 x15]) fun (x17 : Bool) =>
  HM.bind (α := Int) (HM.load1 (.int .i64) (Addr.add ⟨x10, 0, none⟩ 4)) fun (x18 : Int) =>
  HM.req ((.int .i64 x18 : Value) = .int .i64 x16) <|
  HM.bind (α := Bool) (HM.call1 Tryd.prog (.one .bool) 24 #[.pointer (some ⟨x3, 0, none⟩), .int .i64 x16]) fun (x19 : Bool) =>
  HM.ite (!(x17 == x19)) (
  HM.pure (.inr (.inr (.inr (.inr (false, ())))))) (
  HM.pure (.inl ()))) (
  HM.bind (α := Bool × Unit) (HM.ite ((Int.tmod x11 4) == 3) (
  HM.pure ((Int.tmod x11 4) == 3, ())) (
  HM.pure ((Int.tmod x11 4) == (-3), ()))) fun (x20 : Bool × Unit) =>
  HM.bind (α := (Unit) ⊕ ((Unit) ⊕ ((Unit) ⊕ ((Int × Unit) ⊕ ((Int × Unit) ⊕ (Bool × Unit)))))) (HM.ite x20.1 (
  HM.bind (α := Nat) (HM.new (.cells #[.string (ByteArray.mk #[]), .string (ByteArray.mk #[]), .int .i64 0, .bool false, .string (ByteArray.mk #[])] 36)) fun (x22 : Nat) =>
  HM.bind (α := Unit) (HM.storeN ⟨x22, 0, none⟩ [.string (ByteArray.mk #[116]), .string (ByteArray.mk #[]), .int .i64 1, .bool false, .string (ByteArray.mk #[])]) fun (_ : Unit) =>
  HM.bind (α := Int) (HM.load1 (.int .i64) (Addr.add ⟨x10, 0, none⟩ 4)) fun (x23 : Int) =>
  HM.bind (α := Option Addr) (HM.call1 Tryd.prog (.one .ptr) 25 #[.pointer (some ⟨x3, 0, none⟩), .int .i64 x23]) fun (x24 : Option Addr) =>
  HM.bind (α := Int) (HM.load1 (.int .i64) (Addr.add ⟨x10, 0, none⟩ 4)) fun (x25 : Int) =>
  HM.bind (α := ByteArray × ByteArray × Int × Bool × ByteArray × Unit) (HM.loadN [.str, .str, .int .i64, .bool, .str] ⟨x22, 0, none⟩) fun (x26 : ByteArray × ByteArray × Int × Bool × ByteArray × Unit) =>
  HM.bind (α := Option Addr) (HM.call1 Tryd.prog (.one .ptr) 15 #[.pointer x2, .int .i64 x25]) fun (x27 : Option Addr) =>
  HM.bind (α := ByteArray × ByteArray × Int × Bool × ByteArray × Unit) (HM.loadN [.str, .str, .int .i64, .bool, .str] ⟨x22, 0, none⟩) fun (x28 : ByteArray × ByteArray × Int × Bool × ByteArray × Unit) =>
  HM.req ((.agg #[.string x28.1, .string x28.2.1, .int .i64 x28.2.2.1, .bool x28.2.2.2.1, .string x28.2.2.2.2.1] : Value) = .agg #[.string x26.1, .string x26.2.1, .int .i64 x26.2.2.1, .bool x26.2.2.2.1, .string x26.2.2.2.2.1]) <|
  HM.bind (α := Slc × Int × Unit) (HM.callN Tryd.prog [.one .slc, .one (.int .u8)] 16 #[.pointer x27, .agg #[.string x26.1, .string x26.2.1, .int .i64 x26.2.2.1, .bool x26.2.2.2.1, .string x26.2.2.2.2.1]]) fun (x29 : Slc × Int × Unit) =>
  HM.ite (Option.isNone x24) (
  HM.ite (!(x29.2.1 == 128)) (
  HM.pure (.inr (.inr (.inr (.inr (.inr (false, ()))))))) (
  HM.pure (.inr (.inr (.inl ()))))) (
  HM.bind (α := Addr) (HM.nonnil x24) fun (x30 : Addr) =>
  HM.bind (α := Option Addr) (HM.load1 .ptr (Addr.add x30 4)) fun (x31 : Option Addr) =>
  HM.bind (α := ByteArray × ByteArray × Int × Bool × ByteArray × Unit) (HM.loadN [.str, .str, .int .i64, .bool, .str] ⟨x22, 0, none⟩) fun (x32 : ByteArray × ByteArray × Int × Bool × ByteArray × Unit) =>
  HM.bind (α := Slc × Int × Unit) (HM.callN Tryd.prog [.one .slc, .one (.int .i64)] 26 #[.pointer x31, .agg #[.string x32.1, .string x32.2.1, .int .i64 x32.2.2.1, .bool x32.2.2.2.1, .string x32.2.2.2.2.1]]) fun (x33 : Slc × Int × Unit) =>
  HM.bind (α := Bool × Unit) (HM.ite (!((IntKind.wrap .i64 x29.2.1) == x33.2.1)) (
  HM.pure (true, ())) (
  HM.ite (!(((x29.1.len : Nat) : Int) == ((x33.1.len : Nat) : Int))) (
  HM.pure (true, ())) (
  HM.bind (α := Int) (HM.load1 (.int .i64) (Addr.add ⟨x10, 0, none⟩ 4)) fun (x34 : Int) =>
  HM.bind (α := Addr) (HM.nonnil x24) fun (x35 : Addr) =>
  HM.bind (α := Option Addr) (HM.load1 .ptr (Addr.add x35 4)) fun (x36 : Option Addr) =>
  HM.bind (α := Addr) (HM.nonnil x36) fun (x37 : Addr) =>
  HM.bind (α := Slc) (HM.load1 .slc (Addr.add x37 4)) fun (x38 : Slc) =>
  HM.bind (α := Option Addr) (HM.call1 Tryd.prog (.one .ptr) 15 #[.pointer x2, .int .i64 x34]) fun (x39 : Option Addr) =>
  HM.req ((.int .i64 ((x38.len : Nat) : Int) : Value) = .int .i64 ((x38.len : Nat) : Int)) <|
  HM.bind (α := Slc) (HM.load1 .slc (Addr.add x37 4)) fun (x40 : Slc) =>
  HM.req ((.slice x40.a x40.len x40.cap : Value) = .slice x38.a x38.len x38.cap) <|
  HM.bind (α := Option Addr) (HM.load1 .ptr (Addr.add x35 4)) fun (x41 : Option Addr) =>
  HM.req ((.pointer x41 : Value) = .pointer x36) <|
  HM.bind (α := Slc) (HM.call1 Tryd.prog (.one .slc) 18 #[.pointer x39]) fun (x42 : Slc) =>
  HM.req ((.int .i64 ((x38.len : Nat) : Int) : Value) = .int .i64 ((x38.len : Nat) : Int)) <|
  HM.bind (α := Slc) (HM.load1 .slc (Addr.add x37 4)) fun (x43 : Slc) =>
  HM.req ((.slice x43.a x43.len x43.cap : Value) = .slice x38.a x38.len x38.cap) <|
  HM.bind (α := Option Addr) (HM.load1 .ptr (Addr.add x35 4)) fun (x44 : Option Addr) =>
  HM.req ((.pointer x44 : Value) = .pointer x36) <|
  HM.ite (!(((x42.len : Nat) : Int) == ((x38.len : Nat) : Int))) (
  HM.pure (true, ())) (
  HM.bind (α := Int) (HM.load1 (.int .i64) (Addr.add ⟨x10, 0, none⟩ 4)) fun (x45 : Int) =>
  HM.bind (α := Addr) (HM.nonnil x24) fun (x46 : Addr) =>
  HM.bind (α := Option Addr) (HM.load1 .ptr (Addr.add x46 5)) fun (x47 : Option Addr) =>
  HM.bind (α := Addr) (HM.nonnil x47) fun (x48 : Addr) =>
  HM.bind (α := Option Addr) (HM.load1 .ptr (Addr.add x48 0)) fun (x49 : Option Addr) =>
  HM.bind (α := Addr) (HM.nonnil x49) fun (x50 : Addr) =>
  HM.bind (α := Slc) (HM.load1 .slc (Addr.add x50 2)) fun (x51 : Slc) =>
  HM.bind (α := Option Addr) (HM.call1 Tryd.prog (.one .ptr) 23 #[.pointer x2, .int .i64 x45]) fun (x52 : Option Addr) =>
  HM.req ((.int .i64 ((x51.len : Nat) : Int) : Value) = .int .i64 ((x51.len : Nat) : Int)) <|
  HM.bind (α := Slc) (HM.load1 .slc (Addr.add x50 2)) fun (x53 : Slc) =>
  HM.req ((.slice x53.a x53.len x53.cap : Value) = .slice x51.a x51.len x51.cap) <|
  HM.bind (α := Option Addr) (HM.load1 .ptr (Addr.add x48 0)) fun (x54 : Option Addr) =>
  HM.req ((.pointer x54 : Value) = .pointer x49) <|
  HM.bind (α := Option Addr) (HM.load1 .ptr (Addr.add x46 5)) fun (x55 : Option Addr) =>
  HM.req ((.pointer x55 : Value) = .pointer x47) <|
  HM.bind (α := Slc) (HM.call1 Tryd.prog (.one .slc) 27 #[.pointer x52]) fun (x56 : Slc) =>
  HM.req ((.int .i64 ((x51.len : Nat) : Int) : Value) = .int .i64 ((x51.len : Nat) : Int)) <|
  HM.bind (α := Slc) (HM.load1 .slc (Addr.add x50 2)) fun (x57 : Slc) =>
  HM.req ((.slice x57.a x57.len x57.cap : Value) = .slice x51.a x51.len x51.cap) <|
  HM.bind (α := Option Addr) (HM.load1 .ptr (Addr.add x48 0)) fun (x58 : Option Addr) =>
  HM.req ((.pointer x58 : Value) = .pointer x49) <|
  HM.bind (α := Option Addr) (HM.load1 .ptr (Addr.add x46 5)) fun (x59 : Option Addr) =>
  HM.req ((.pointer x59 : Value) = .pointer x47) <|
  HM.pure (!(((x56.len : Nat) : Int) == ((x51.len : Nat) : Int)), ()))))) fun (x60 : Bool × Unit) =>
  HM.ite x60.1 (
  HM.pure (.inr (.inr (.inr (.inr (.inr (false, ()))))))) (
  HM.pure (.inl ())))) (
  HM.bind (α := ByteArray) (HM.load1 .str (Addr.add ⟨x10, 0, none⟩ 1)) fun (x61 : ByteArray) =>
  HM.bind (α := Bool) (HM.load1 .bool (Addr.add ⟨x10, 0, none⟩ 2)) fun (x62 : Bool) =>
  HM.bind (α := Bool) (HM.load1 .bool (Addr.add ⟨x10, 0, none⟩ 3)) fun (x63 : Bool) =>
  HM.bind (α := Int × Bool × Int × Unit) (HM.callN Tryd.prog [.one (.int .i64), .one .bool, .one (.int .u8)] 13 #[.pointer x2, .string x61, .bool x62, .bool x63]) fun (x64 : Int × Bool × Int × Unit) =>
  HM.bind (α := ByteArray) (HM.load1 .str (Addr.add ⟨x10, 0, none⟩ 1)) fun (x65 : ByteArray) =>
  HM.bind (α := Bool) (HM.load1 .bool (Addr.add ⟨x10, 0, none⟩ 2)) fun (x66 : Bool) =>
  HM.bind (α := Bool) (HM.load1 .bool (Addr.add ⟨x10, 0, none⟩ 3)) fun (x67 : Bool) =>
  HM.bind (α := Int × Bool × Int × Unit) (HM.callN Tryd.prog [.one (.int .i64), .one .bool, .one (.int .i64)] 28 #[.pointer (some ⟨x3, 0, none⟩), .string x65, .bool x66, .bool x67]) fun (x68 : Int × Bool × Int × Unit) =>
  HM.bind (α := Bool × Unit) (HM.ite (!(x64.1 == x68.1)) (
  HM.pure (true, ())) (
  HM.ite (!(x64.2.1 == x68.2.1)) (
  HM.pure (true, ())) (
  HM.pure (!((IntKind.wrap .i64 x64.2.2.1) == x68.2.2.1), ())))) fun (x69 : Bool × Unit) =>
  HM.ite x69.1 (
  HM.pure (.inr (.inr (.inr (.inr (.inr (false, ()))))))) (
  HM.pure (.inl ())))) (Sum.elim (fun (x21 : Unit) =>
  HM.pure (.inl ())) HM.pure))) (Sum.elim (fun (x14 : Unit) =>
  HM.pure (.inl ())) HM.pure)) (Sum.elim (fun (x12 : Unit) =>
  HM.bind (α := Slc) (HM.call1 Tryd.prog (.one .slc) 20 #[.pointer x2]) fun (x70 : Slc) =>
  HM.bind (α := Addr) (HM.nonnil (some ⟨x3, 0, none⟩)) fun (x71 : Addr) =>
  HM.bind (α := Slc) (HM.load1 .slc (Addr.add x71 1)) fun (x72 : Slc) =>
  HM.ite (!(((x70.len : Nat) : Int) == ((x72.len : Nat) : Int))) (
  HM.pure (.inr (.inr (false, ())))) (
  HM.bind (α := (Int × Unit) ⊕ ((Int × Unit) ⊕ ((Int × Unit) ⊕ (Bool × Unit)))) (HM.loop (σ := Int × Unit) (τ := (Int × Unit) ⊕ ((Int × Unit) ⊕ ((Int × Unit) ⊕ (Bool × Unit)))) (fun (x74 : Int × Unit) =>
  HM.ite (decide (x74.1 < (((x70.len : Nat) : Int) : Int))) (
  HM.bind (α := Addr) (HM.idx x70.a x70.len x74.1 4) fun (x75 : Addr) =>
  HM.bind (α := Int × ByteArray × Bool × Bool × Unit) (HM.loadN [.int .i64, .str, .bool, .bool] x75) fun (x76 : Int × ByteArray × Bool × Bool × Unit) =>
  HM.bind (α := Addr) (HM.nonnil (some ⟨x3, 0, none⟩)) fun (x77 : Addr) =>
  HM.bind (α := Slc) (HM.load1 .slc (Addr.add x77 1)) fun (x78 : Slc) =>
  HM.bind (α := Addr) (HM.idx x78.a x78.len x74.1 1) fun (x79 : Addr) =>
  HM.bind (α := Option Addr) (HM.load1 .ptr x79) fun (x80 : Option Addr) =>
  HM.bind (α := Bool) (HM.call1 Tryd.prog (.one .bool) 29 #[.agg #[.int .i64 x76.1, .string x76.2.1, .bool x76.2.2.1, .bool x76.2.2.2.1], .bool true, .pointer x80]) fun (x81 : Bool) =>
  HM.ite (!x81) (
  HM.pure (.inr (.inr (.inr (.inr (false, ())))))) (
  HM.pure (.inl (IntKind.wrap .i64 (x74.1 + 1), ())))) (
  HM.pure (.inr (.inl (x74.1, ()))))) (0, ())) (Sum.elim (fun (x73 : Int × Unit) =>
  HM.bind (α := ByteArray) (HM.load1 .str (Addr.add ⟨x1, 0, none⟩ 1)) fun (x82 : ByteArray) =>
  HM.bind (α := (Int × ByteArray × Bool × Bool × Unit) × Bool × Unit) (HM.callN Tryd.prog [.agg [.int .i64, .str, .bool, .bool], .one .bool] 21 #[.pointer x2, .string x82]) fun (x83 : (Int × ByteArray × Bool × Bool × Unit) × Bool × Unit) =>
  HM.bind (α := Nat) (HM.new (.cells #[.int .i64 0, .string (ByteArray.mk #[]), .bool false, .bool false] 60)) fun (x84 : Nat) =>
  HM.bind (α := Unit) (HM.storeN ⟨x84, 0, none⟩ [.int .i64 x83.1.1, .string x83.1.2.1, .bool x83.1.2.2.1, .bool x83.1.2.2.2.1]) fun (_ : Unit) =>
  HM.bind (α := Int) (HM.load1 (.int .i64) (Addr.add ⟨x1, 0, none⟩ 4)) fun (x85 : Int) =>
  HM.bind (α := (Int × ByteArray × Bool × Bool × Unit) × Bool × Unit) (HM.callN Tryd.prog [.agg [.int .i64, .str, .bool, .bool], .one .bool] 22 #[.pointer x2, .int .i64 x85]) fun (x86 : (Int × ByteArray × Bool × Bool × Unit) × Bool × Unit) =>
  HM.bind (α := Nat) (HM.new (.cells #[.int .i64 0, .string (ByteArray.mk #[]), .bool false, .bool false] 60)) fun (x87 : Nat) =>
  HM.bind (α := Unit) (HM.storeN ⟨x87, 0, none⟩ [.int .i64 x86.1.1, .string x86.1.2.1, .bool x86.1.2.2.1, .bool x86.1.2.2.2.1]) fun (_ : Unit) =>
  HM.bind (α := Bool × Unit) (HM.bind (α := Int × ByteArray × Bool × Bool × Unit) (HM.loadN [.int .i64, .str, .bool, .bool] ⟨x84, 0, none⟩) fun (x88 : Int × ByteArray × Bool × Bool × Unit) =>
  HM.bind (α := ByteArray) (HM.load1 .str (Addr.add ⟨x1, 0, none⟩ 1)) fun (x89 : ByteArray) =>
  HM.bind (α := Option Addr) (HM.call1 Tryd.prog (.one .ptr) 30 #[.pointer (some ⟨x3, 0, none⟩), .string x89]) fun (x90 : Option Addr) =>
  HM.bind (α := Int × ByteArray × Bool × Bool × Unit) (HM.loadN [.int .i64, .str, .bool, .bool] ⟨x84, 0, none⟩) fun (x91 : Int × ByteArray × Bool × Bool × Unit) =>
  HM.req ((.agg #[.int .i64 x91.1, .string x91.2.1, .bool x91.2.2.1, .bool x91.2.2.2.1] : Value) = .agg #[.int .i64 x88.1, .string x88.2.1, .bool x88.2.2.1, .bool x88.2.2.2.1]) <|
  HM.bind (α := Bool) (HM.call1 Tryd.prog (.one .bool) 29 #[.agg #[.int .i64 x88.1, .string x88.2.1, .bool x88.2.2.1, .bool x88.2.2.2.1], .bool x83.2.1, .pointer x90]) fun (x92 : Bool) =>
  HM.ite (!x92) (
  HM.pure (true, ())) (
  HM.bind (α := Int × ByteArray × Bool × Bool × Unit) (HM.loadN [.int .i64, .str, .bool, .bool] ⟨x87, 0, none⟩) fun (x93 : Int × ByteArray × Bool × Bool × Unit) =>
  HM.bind (α := Int) (HM.load1 (.int .i64) (Addr.add ⟨x1, 0, none⟩ 4)) fun (x94 : Int) =>
  HM.bind (α := Option Addr) (HM.call1 Tryd.prog (.one .ptr) 25 #[.pointer (some ⟨x3, 0, none⟩), .int .i64 x94]) fun (x95 : Option Addr) =>
  HM.bind (α := Int × ByteArray × Bool × Bool × Unit) (HM.loadN [.int .i64, .str, .bool, .bool] ⟨x87, 0, none⟩) fun (x96 : Int × ByteArray × Bool × Bool × Unit) =>
  HM.req ((.agg #[.int .i64 x96.1, .string x96.2.1, .bool x96.2.2.1, .bool x96.2.2.2.1] : Value) = .agg #[.int .i64 x93.1, .string x93.2.1, .bool x93.2.2.1, .bool x93.2.2.2.1]) <|
  HM.bind (α := Bool) (HM.call1 Tryd.prog (.one .bool) 29 #[.agg #[.int .i64 x93.1, .string x93.2.1, .bool x93.2.2.1, .bool x93.2.2.2.1], .bool x86.2.1, .pointer x95]) fun (x97 : Bool) =>
  HM.pure (!x97, ()))) fun (x98 : Bool × Unit) =>
  HM.ite x98.1 (
  HM.pure (.inr (.inr (false, ())))) (
  HM.pure (.inl (IntKind.wrap .i64 (x7.1 + 1), ())))) HM.pure))) HM.pure)) (
  HM.pure (.inr (.inl (x7.1, ()))))) (0, ())) (Sum.elim (fun (x6 : Int × Unit) =>
  HM.pure (true, ())) HM.pure))

theorem law18_SessionPlays_den (p0 : Slc) (p1 : Int × ByteArray × Bool × Bool × Int × Unit) : denFn Tryd.prog [12, 14, 17, 24, 25, 15, 16, 26, 18, 23, 27, 13, 28, 20, 29, 21, 22, 30] 235 [0, 1, 3, 4, 5, 6, 8, 9, 10, 11, 12, 13, 14, 15, 16, 17, 18, 19, 20, 21, 22, 23, 24, 25, 26, 31, 36, 37, 38, 39, 44, 82, 83, 94, 95, 113, 115, 172, 182, 184, 185, 186, 200, 233] [0, 1, 3, 5, 6, 8, 9, 10, 11, 12, 13, 14, 15, 16, 17, 18, 19, 20, 21, 22, 23, 24, 25, 26, 31, 36, 37, 38, 39, 44, 82, 83, 94, 95, 113, 115, 172, 182, 184, 185, 186, 200, 233] Tryd.f6.results.toList [.one .bool] (bodyOf Tryd.f6) [Kind.val (.one .slc) p0, Kind.val (.agg [.int .i64, .str, .bool, .bool, .int .i64]) p1] = law18_SessionPlays p0 p1 := by kernel_rfl
theorem law18_SessionPlays_calls (p0 : Slc) (p1 : Int × ByteArray × Bool × Bool × Int × Unit) (h : Heap) (Q : Value → Heap → Prop) (hh : law18_SessionPlays p0 p1 h fun x h' => Q (.bool x.1) h') :
    HCalls Tryd.prog 6 #[.slice p0.a p0.len p0.cap, .agg #[.int .i64 p1.1, .string p1.2.1, .bool p1.2.2.1, .bool p1.2.2.2.1, .int .i64 p1.2.2.2.2.1]] h Q := by
  rw [← law18_SessionPlays_den] at hh
  exact calls_of_den Tryd.func6 (by kernel_rfl) Tryd.ntmps6 (by kernel_rfl) (fun f hf => by
      rcases List.mem_cons.1 hf with rfl | hf
      · exact Tryd.call12
      rcases List.mem_cons.1 hf with rfl | hf
      · exact Tryd.call14
      rcases List.mem_cons.1 hf with rfl | hf
      · exact Tryd.call17
      rcases List.mem_cons.1 hf with rfl | hf
      · exact Tryd.call24
      rcases List.mem_cons.1 hf with rfl | hf
      · exact Tryd.call25
      rcases List.mem_cons.1 hf with rfl | hf
      · exact Tryd.call15
      rcases List.mem_cons.1 hf with rfl | hf
      · exact Tryd.call16
      rcases List.mem_cons.1 hf with rfl | hf
      · exact Tryd.call26
      rcases List.mem_cons.1 hf with rfl | hf
      · exact Tryd.call18
      rcases List.mem_cons.1 hf with rfl | hf
      · exact Tryd.call23
      rcases List.mem_cons.1 hf with rfl | hf
      · exact Tryd.call27
      rcases List.mem_cons.1 hf with rfl | hf
      · exact Tryd.call13
      rcases List.mem_cons.1 hf with rfl | hf
      · exact Tryd.call28
      rcases List.mem_cons.1 hf with rfl | hf
      · exact Tryd.call20
      rcases List.mem_cons.1 hf with rfl | hf
      · exact Tryd.call29
      rcases List.mem_cons.1 hf with rfl | hf
      · exact Tryd.call21
      rcases List.mem_cons.1 hf with rfl | hf
      · exact Tryd.call22
      rcases List.mem_cons.1 hf with rfl | hf
      · exact Tryd.call30
      cases hf) orders hh

/-- aqueduct/aqueductlaw16.TagsOnce -/
def law16_TagsOnce (p0 : Int) (p1 : Slc) : HM (Bool × Unit) :=
  HM.bind (α := Option Addr) (HM.call1 Tryd.prog (.one .ptr) 31 #[.int .i64 p0]) fun (x1 : Option Addr) =>
  HM.bind (α := Nat) (HM.new (.map #[] 0)) fun (x2 : Nat) =>
  HM.bind (α := Slc) (HM.slice p1 none (some (if 200 < (((p1.len : Nat) : Int) : Int) then 200 else ((p1.len : Nat) : Int))) none 2) fun (x3 : Slc) =>
  HM.bind (α := (Int × Unit) ⊕ (Bool × Unit)) (HM.loop (σ := Int × Unit) (τ := (Int × Unit) ⊕ (Bool × Unit)) (fun (x5 : Int × Unit) =>
  HM.ite (decide (x5.1 < (((x3.len : Nat) : Int) : Int))) (
  HM.bind (α := Addr) (HM.idx x3.a x3.len x5.1 2) fun (x6 : Addr) =>
  HM.bind (α := Int × Int × Unit) (HM.loadN [.int .i64, .int .i64] x6) fun (x7 : Int × Int × Unit) =>
  HM.bind (α := Nat) (HM.new (.cells #[.int .i64 0, .int .i64 0] 104)) fun (x8 : Nat) =>
  HM.bind (α := Unit) (HM.storeN ⟨x8, 0, none⟩ [.int .i64 x7.1, .int .i64 x7.2.1]) fun (_ : Unit) =>
  HM.bind (α := Int × Int × Unit) (HM.loadN [.int .i64, .int .i64] ⟨x8, 0, none⟩) fun (x9 : Int × Int × Unit) =>
  HM.bind (α := Bool × Int × Unit) (HM.callN Tryd.prog [.one .bool, .one (.int .u8)] 32 #[.pointer x1, .agg #[.int .i64 x9.1, .int .i64 x9.2.1]]) fun (x10 : Bool × Int × Unit) =>
  HM.bind (α := Int × Int × Unit) (HM.loadN [.int .i64, .int .i64] ⟨x8, 0, none⟩) fun (x11 : Int × Int × Unit) =>
  HM.req (eqTy Tryd.prog 8 104 (.agg #[.int .i64 x11.1, .int .i64 x11.2.1]) (.agg #[.int .i64 x11.1, .int .i64 x11.2.1]) = some true) <|
  HM.bind (α := Int × Bool) (HM.lookup (eqTy Tryd.prog 8 104) (.int .i64 0) (.one (.int .i64)) (some x2) (.agg #[.int .i64 x11.1, .int .i64 x11.2.1])) fun (x12 : Int × Bool) =>
  HM.bind (α := Unit) (HM.ite x10.1 (
  HM.bind (α := Int × Int × Unit) (HM.loadN [.int .i64, .int .i64] ⟨x8, 0, none⟩) fun (x14 : Int × Int × Unit) =>
  HM.req (eqTy Tryd.prog 8 104 (.agg #[.int .i64 x14.1, .int .i64 x14.2.1]) (.agg #[.int .i64 x14.1, .int .i64 x14.2.1]) = some true) <|
  HM.bind (α := Int × Bool) (HM.lookup (eqTy Tryd.prog 8 104) (.int .i64 0) (.one (.int .i64)) (some x2) (.agg #[.int .i64 x14.1, .int .i64 x14.2.1])) fun (x15 : Int × Bool) =>
  HM.req (eqTy Tryd.prog 8 104 (.agg #[.int .i64 x14.1, .int .i64 x14.2.1]) (.agg #[.int .i64 x14.1, .int .i64 x14.2.1]) = some true) <|
  HM.bind (α := Int × Int) (HM.mapEntry (eqTy Tryd.prog 8 104) (.int .i64 0) (.one (.int .i64)) (some x2) (.agg #[.int .i64 x14.1, .int .i64 x14.2.1])) fun (x16 : Int × Int) =>
  HM.req (eqTy Tryd.prog 8 104 (.agg #[.int .i64 x14.1, .int .i64 x14.2.1]) (.agg #[.int .i64 x14.1, .int .i64 x14.2.1]) = some true) <|
  HM.bind (α := Int × Bool) (HM.lookup (eqTy Tryd.prog 8 104) (.int .i64 0) (.one (.int .i64)) (some x2) (.agg #[.int .i64 x14.1, .int .i64 x14.2.1])) fun (x17 : Int × Bool) =>
  HM.req ((.int .i64 x17.1 : Value) = .int .i64 x15.1) <|
  HM.bind (α := Unit) (HM.entryStore (some x2) x16.2 (.int .i64 (IntKind.wrap .i64 (x15.1 + 1)))) fun (_ : Unit) =>
  HM.pure ()) (
  HM.pure ())) fun (x13 : Unit) =>
  HM.bind (α := Bool × Unit) (HM.ite x10.1 (
  HM.ite (decide (0 < (x12.1 : Int))) (
  HM.pure (true, ())) (
  HM.ite (!(x10.2.1 == 0)) (
  HM.pure (true, ())) (
  HM.ite (decide (0 < (x12.1 : Int))) (
  HM.ite (!(x10.2.1 == 0)) (
  HM.pure (true, ())) (
  HM.ite (x10.2.1 == 151) (
  HM.bind (α := Int) (HM.call1 Tryd.prog (.one (.int .i64)) 33 #[.pointer x1]) fun (x18 : Int) =>
  HM.pure (decide (x18 < ((if 0 < (p0 : Int) then p0 else 0) : Int)), ())) (
  HM.pure (false, ())))) (
  HM.ite (x10.2.1 == 151) (
  HM.bind (α := Int) (HM.call1 Tryd.prog (.one (.int .i64)) 33 #[.pointer x1]) fun (x19 : Int) =>
  HM.pure (decide (x19 < ((if 0 < (p0 : Int) then p0 else 0) : Int)), ())) (
  HM.pure (false, ())))))) (
  HM.ite (decide (0 < (x12.1 : Int))) (
  HM.ite (!(x10.2.1 == 0)) (
  HM.pure (true, ())) (
  HM.ite (x10.2.1 == 151) (
  HM.bind (α := Int) (HM.call1 Tryd.prog (.one (.int .i64)) 33 #[.pointer x1]) fun (x20 : Int) =>
  HM.pure (decide (x20 < ((if 0 < (p0 : Int) then p0 else 0) : Int)), ())) (
  HM.pure (false, ())))) (
  HM.ite (x10.2.1 == 151) (
  HM.bind (α := Int) (HM.call1 Tryd.prog (.one (.int .i64)) 33 #[.pointer x1]) fun (x21 : Int) =>
  HM.pure (decide (x21 < ((if 0 < (p0 : Int) then p0 else 0) : Int)), ())) (
  HM.pure (false, ()))))) fun (x22 : Bool × Unit) =>
  HM.ite x22.1 (
  HM.pure (.inr (.inr (false, ())))) (
  HM.bind (α := Nat) (HM.rangeM (some x2)) fun (x23 : Nat) =>
  HM.bind (α := (Unit) ⊕ ((Int × Unit) ⊕ ((Int × Unit) ⊕ (Bool × Unit)))) (HM.loop (σ := Unit) (τ := (Unit) ⊕ ((Int × Unit) ⊕ ((Int × Unit) ⊕ (Bool × Unit)))) (fun (x25 : Unit) =>
  HM.bind (α := Option (Value × Value)) (HM.nextM x23) fun (x26 : Option (Value × Value)) =>
  HM.opt x26 (
  HM.ite false (
  HM.bind (α := (Int × Int × Unit) × Value) (HM.entryM (.agg [.int .i64, .int .i64]) (.one .any) x23) fun (x28 : (Int × Int × Unit) × Value) =>
  HM.bind (α := Nat) (HM.new (.cells #[.int .i64 0, .int .i64 0] 104)) fun (x29 : Nat) =>
  HM.bind (α := Unit) (HM.storeN ⟨x29, 0, none⟩ [.int .i64 x28.1.1, .int .i64 x28.1.2.1]) fun (_ : Unit) =>
  HM.bind (α := Int × Int × Unit) (HM.loadN [.int .i64, .int .i64] ⟨x29, 0, none⟩) fun (x30 : Int × Int × Unit) =>
  HM.bind (α := Bool) (HM.call1 Tryd.prog (.one .bool) 34 #[.pointer x1, .agg #[.int .i64 x30.1, .int .i64 x30.2.1]]) fun (x31 : Bool) =>
  HM.ite (!x31) (
  HM.pure (.inr (.inr (.inr (.inr (false, ())))))) (
  HM.pure (.inl ()))) (
  HM.pure (.inr (.inl ())))) fun (x27 : Value × Value) =>
  HM.ite true (
  HM.bind (α := (Int × Int × Unit) × Value) (HM.entryM (.agg [.int .i64, .int .i64]) (.one .any) x23) fun (x32 : (Int × Int × Unit) × Value) =>
  HM.bind (α := Nat) (HM.new (.cells #[.int .i64 0, .int .i64 0] 104)) fun (x33 : Nat) =>
  HM.bind (α := Unit) (HM.storeN ⟨x33, 0, none⟩ [.int .i64 x32.1.1, .int .i64 x32.1.2.1]) fun (_ : Unit) =>
  HM.bind (α := Int × Int × Unit) (HM.loadN [.int .i64, .int .i64] ⟨x33, 0, none⟩) fun (x34 : Int × Int × Unit) =>
  HM.bind (α := Bool) (HM.call1 Tryd.prog (.one .bool) 34 #[.pointer x1, .agg #[.int .i64 x34.1, .int .i64 x34.2.1]]) fun (x35 : Bool) =>
  HM.ite (!x35) (
  HM.pure (.inr (.inr (.inr (.inr (false, ())))))) (
  HM.pure (.inl ()))) (
  HM.pure (.inr (.inl ())))) ()) (Sum.elim (fun (x24 : Unit) =>
  HM.pure (.inl (IntKind.wrap .i64 (x5.1 + 1), ()))) HM.pure))) (
  HM.pure (.inr (.inl (x5.1, ()))))) (0, ())) (Sum.elim (fun (x4 : Int × Unit) =>
  HM.bind (α := Bool × Unit) (HM.bind (α := Bool) (HM.call1 Tryd.prog (.one .bool) 35 #[]) fun (x36 : Bool) =>
  HM.ite x36 (
  HM.bind (α := Int) (HM.call1 Tryd.prog (.one (.int .i64)) 33 #[.pointer x1]) fun (x37 : Int) =>
  HM.bind (α := Int) (HM.mapLen (some x2)) fun (x38 : Int) =>
  HM.ite (x37 == x38) (
  HM.bind (α := Int) (HM.call1 Tryd.prog (.one (.int .i64)) 33 #[.pointer x1]) fun (x39 : Int) =>
  HM.pure (decide (x39 ≤ ((if 0 < (p0 : Int) then p0 else 0) : Int)), ())) (
  HM.pure (false, ()))) (
  HM.pure (false, ()))) fun (x40 : Bool × Unit) =>
  HM.pure (x40.1, ())) HM.pure)

theorem law16_TagsOnce_den (p0 : Int) (p1 : Slc) : denFn Tryd.prog [31, 32, 33, 34, 35] 95 [0, 1, 4, 5, 6, 8, 9, 10, 11, 12, 20, 21, 22, 23, 36, 68, 70, 72, 78] [0, 1, 5, 6, 8, 9, 10, 11, 12, 20, 21, 22, 23, 36, 68, 70, 72, 78] Tryd.f7.results.toList [.one .bool] (bodyOf Tryd.f7) [Kind.val (.one (.int .i64)) p0, Kind.val (.one .slc) p1] = law16_TagsOnce p0 p1 := by kernel_rfl
theorem law16_TagsOnce_calls (p0 : Int) (p1 : Slc) (h : Heap) (Q : Value → Heap → Prop) (hh : law16_TagsOnce p0 p1 h fun x h' => Q (.bool x.1) h') :
    HCalls Tryd.prog 7 #[.int .i64 p0, .slice p1.a p1.len p1.cap] h Q := by
  rw [← law16_TagsOnce_den] at hh
  exact calls_of_den Tryd.func7 (by kernel_rfl) Tryd.ntmps7 (by kernel_rfl) (fun f hf => by
      rcases List.mem_cons.1 hf with rfl | hf
      · exact Tryd.call31
      rcases List.mem_cons.1 hf with rfl | hf
      · exact Tryd.call32
      rcases List.mem_cons.1 hf with rfl | hf
      · exact Tryd.call33
      rcases List.mem_cons.1 hf with rfl | hf
      · exact Tryd.call34
      rcases List.mem_cons.1 hf with rfl | hf
      · exact Tryd.call35
      cases hf) orders hh

/-- aqueduct/aqueductlaw16.TagsPlays -/
def law16_TagsPlays (p0 : Int) (p1 : Slc) (p2 : Int × Int × Unit) : HM (Bool × Unit) :=
  HM.bind (α := Nat) (HM.new (.cells #[.int .i64 p2.1, .int .i64 p2.2.1] 104)) fun (x1 : Nat) =>
  HM.bind (α := Option Addr) (HM.call1 Tryd.prog (.one .ptr) 31 #[.int .i64 p0]) fun (x2 : Option Addr) =>
  HM.bind (α := Option Addr) (HM.call1 Tryd.prog (.one .ptr) 36 #[.int .i64 p0]) fun (x3 : Option Addr) =>
  HM.bind (α := Bool) (HM.call1 Tryd.prog (.one .bool) 35 #[]) fun (x4 : Bool) =>
  HM.ite (!x4) (
  HM.pure (false, ())) (
  HM.bind (α := Slc) (HM.slice p1 none (some (if 100 < (((p1.len : Nat) : Int) : Int) then 100 else ((p1.len : Nat) : Int))) none 2) fun (x5 : Slc) =>
  HM.bind (α := (Int × Unit) ⊕ (Bool × Unit)) (HM.loop (σ := Int × Unit) (τ := (Int × Unit) ⊕ (Bool × Unit)) (fun (x7 : Int × Unit) =>
  HM.ite (decide (x7.1 < (((x5.len : Nat) : Int) : Int))) (
  HM.bind (α := Addr) (HM.idx x5.a x5.len x7.1 2) fun (x8 : Addr) =>
  HM.bind (α := Int × Int × Unit) (HM.loadN [.int .i64, .int .i64] x8) fun (x9 : Int × Int × Unit) =>
  HM.bind (α := Nat) (HM.new (.cells #[.int .i64 0, .int .i64 0] 104)) fun (x10 : Nat) =>
  HM.bind (α := Unit) (HM.storeN ⟨x10, 0, none⟩ [.int .i64 x9.1, .int .i64 x9.2.1]) fun (_ : Unit) =>
  HM.bind (α := Int × Int × Unit) (HM.loadN [.int .i64, .int .i64] ⟨x10, 0, none⟩) fun (x11 : Int × Int × Unit) =>
  HM.bind (α := Bool × Int × Unit) (HM.callN Tryd.prog [.one .bool, .one (.int .u8)] 32 #[.pointer x2, .agg #[.int .i64 x11.1, .int .i64 x11.2.1]]) fun (x12 : Bool × Int × Unit) =>
  HM.bind (α := Int × Int × Unit) (HM.loadN [.int .i64, .int .i64] ⟨x10, 0, none⟩) fun (x13 : Int × Int × Unit) =>
  HM.bind (α := Bool × Int × Unit) (HM.callN Tryd.prog [.one .bool, .one (.int .i64)] 37 #[.pointer x3, .agg #[.int .i64 x13.1, .int .i64 x13.2.1]]) fun (x14 : Bool × Int × Unit) =>
  HM.bind (α := Bool × Unit) (HM.ite (!(x12.1 == x14.1)) (
  HM.pure (true, ())) (
  HM.ite (!((IntKind.wrap .i64 x12.2.1) == x14.2.1)) (
  HM.pure (true, ())) (
  HM.bind (α := Addr) (HM.nonnil x3) fun (x15 : Addr) =>
  HM.bind (α := Slc) (HM.load1 .slc (Addr.add x15 1)) fun (x16 : Slc) =>
  HM.bind (α := Int) (HM.call1 Tryd.prog (.one (.int .i64)) 33 #[.pointer x2]) fun (x17 : Int) =>
  HM.req ((.int .i64 ((x16.len : Nat) : Int) : Value) = .int .i64 ((x16.len : Nat) : Int)) <|
  HM.bind (α := Slc) (HM.load1 .slc (Addr.add x15 1)) fun (x18 : Slc) =>
  HM.req ((.slice x18.a x18.len x18.cap : Value) = .slice x16.a x16.len x16.cap) <|
  HM.ite (!(x17 == ((x16.len : Nat) : Int))) (
  HM.pure (true, ())) (
  HM.bind (α := Int × Int × Unit) (HM.loadN [.int .i64, .int .i64] ⟨x10, 0, none⟩) fun (x19 : Int × Int × Unit) =>
  HM.bind (α := Int × Int × Unit) (HM.loadN [.int .i64, .int .i64] ⟨x10, 0, none⟩) fun (x20 : Int × Int × Unit) =>
  HM.bind (α := Bool) (HM.call1 Tryd.prog (.one .bool) 34 #[.pointer x2, .agg #[.int .i64 x19.1, .int .i64 x19.2.1]]) fun (x21 : Bool) =>
  HM.bind (α := Int × Int × Unit) (HM.loadN [.int .i64, .int .i64] ⟨x10, 0, none⟩) fun (x22 : Int × Int × Unit) =>
  HM.req ((.agg #[.int .i64 x22.1, .int .i64 x22.2.1] : Value) = .agg #[.int .i64 x20.1, .int .i64 x20.2.1]) <|
  HM.bind (α := Bool) (HM.call1 Tryd.prog (.one .bool) 38 #[.pointer x3, .agg #[.int .i64 x20.1, .int .i64 x20.2.1]]) fun (x23 : Bool) =>
  HM.pure (!(x21 == x23), ()))))) fun (x24 : Bool × Unit) =>
  HM.ite x24.1 (
  HM.pure (.inr (.inr (false, ())))) (
  HM.pure (.inl (IntKind.wrap .i64 (x7.1 + 1), ())))) (
  HM.pure (.inr (.inl (x7.1, ()))))) (0, ())) (Sum.elim (fun (x6 : Int × Unit) =>
  HM.bind (α := Slc) (HM.call1 Tryd.prog (.one .slc) 39 #[.pointer x2]) fun (x25 : Slc) =>
  HM.bind (α := Bool × Unit) (HM.bind (α := Addr) (HM.nonnil x3) fun (x26 : Addr) =>
  HM.bind (α := Slc) (HM.load1 .slc (Addr.add x26 1)) fun (x27 : Slc) =>
  HM.ite (!(((x25.len : Nat) : Int) == ((x27.len : Nat) : Int))) (
  HM.pure (true, ())) (
  HM.bind (α := Int × Int × Unit) (HM.loadN [.int .i64, .int .i64] ⟨x1, 0, none⟩) fun (x28 : Int × Int × Unit) =>
  HM.bind (α := Int × Int × Unit) (HM.loadN [.int .i64, .int .i64] ⟨x1, 0, none⟩) fun (x29 : Int × Int × Unit) =>
  HM.bind (α := Bool) (HM.call1 Tryd.prog (.one .bool) 34 #[.pointer x2, .agg #[.int .i64 x28.1, .int .i64 x28.2.1]]) fun (x30 : Bool) =>
  HM.bind (α := Int × Int × Unit) (HM.loadN [.int .i64, .int .i64] ⟨x1, 0, none⟩) fun (x31 : Int × Int × Unit) =>
  HM.req ((.agg #[.int .i64 x31.1, .int .i64 x31.2.1] : Value) = .agg #[.int .i64 x29.1, .int .i64 x29.2.1]) <|
  HM.bind (α := Bool) (HM.call1 Tryd.prog (.one .bool) 38 #[.pointer x3, .agg #[.int .i64 x29.1, .int .i64 x29.2.1]]) fun (x32 : Bool) =>
  HM.pure (!(x30 == x32), ()))) fun (x33 : Bool × Unit) =>
  HM.ite x33.1 (
  HM.pure (false, ())) (
  HM.bind (α := (Int × Unit) ⊕ (Bool × Unit)) (HM.loop (σ := Int × Unit) (τ := (Int × Unit) ⊕ (Bool × Unit)) (fun (x35 : Int × Unit) =>
  HM.ite (decide (x35.1 < (((x25.len : Nat) : Int) : Int))) (
  HM.bind (α := Addr) (HM.idx x25.a x25.len x35.1 2) fun (x36 : Addr) =>
  HM.bind (α := Int × Int × Unit) (HM.loadN [.int .i64, .int .i64] x36) fun (x37 : Int × Int × Unit) =>
  HM.bind (α := Addr) (HM.nonnil x3) fun (x38 : Addr) =>
  HM.bind (α := Slc) (HM.load1 .slc (Addr.add x38 1)) fun (x39 : Slc) =>
  HM.bind (α := Addr) (HM.idx x39.a x39.len x35.1 2) fun (x40 : Addr) =>
  HM.bind (α := Int × Int × Unit) (HM.loadN [.int .i64, .int .i64] x40) fun (x41 : Int × Int × Unit) =>
  HM.ite (!((x37.1 == x41.1) && ((x37.2.1 == x41.2.1) && true))) (
  HM.pure (.inr (.inr (false, ())))) (
  HM.pure (.inl (IntKind.wrap .i64 (x35.1 + 1), ())))) (
  HM.pure (.inr (.inl (x35.1, ()))))) (0, ())) (Sum.elim (fun (x34 : Int × Unit) =>
  HM.pure (true, ())) HM.pure))) HM.pure))

theorem law16_TagsPlays_den (p0 : Int) (p1 : Slc) (p2 : Int × Int × Unit) : denFn Tryd.prog [31, 36, 35, 32, 37, 33, 34, 38, 39] 111 [0, 1, 2, 5, 6, 7, 8, 10, 11, 12, 13, 14, 15, 16, 22, 27, 28, 29, 30, 72, 92, 94, 95, 96, 109] [0, 1, 2, 5, 7, 8, 10, 11, 12, 13, 14, 15, 16, 22, 27, 28, 29, 30, 72, 92, 94, 95, 96, 109] Tryd.f8.results.toList [.one .bool] (bodyOf Tryd.f8) [Kind.val (.one (.int .i64)) p0, Kind.val (.one .slc) p1, Kind.val (.agg [.int .i64, .int .i64]) p2] = law16_TagsPlays p0 p1 p2 := by kernel_rfl
theorem law16_TagsPlays_calls (p0 : Int) (p1 : Slc) (p2 : Int × Int × Unit) (h : Heap) (Q : Value → Heap → Prop) (hh : law16_TagsPlays p0 p1 p2 h fun x h' => Q (.bool x.1) h') :
    HCalls Tryd.prog 8 #[.int .i64 p0, .slice p1.a p1.len p1.cap, .agg #[.int .i64 p2.1, .int .i64 p2.2.1]] h Q := by
  rw [← law16_TagsPlays_den] at hh
  exact calls_of_den Tryd.func8 (by kernel_rfl) Tryd.ntmps8 (by kernel_rfl) (fun f hf => by
      rcases List.mem_cons.1 hf with rfl | hf
      · exact Tryd.call31
      rcases List.mem_cons.1 hf with rfl | hf
      · exact Tryd.call36
      rcases List.mem_cons.1 hf with rfl | hf
      · exact Tryd.call35
      rcases List.mem_cons.1 hf with rfl | hf
      · exact Tryd.call32
      rcases List.mem_cons.1 hf with rfl | hf
      · exact Tryd.call37
      rcases List.mem_cons.1 hf with rfl | hf
      · exact Tryd.call33
      rcases List.mem_cons.1 hf with rfl | hf
      · exact Tryd.call34
      rcases List.mem_cons.1 hf with rfl | hf
      · exact Tryd.call38
      rcases List.mem_cons.1 hf with rfl | hf
      · exact Tryd.call39
      cases hf) orders hh

/-- aqueduct/aqueductlaw16.TagsNil -/
def law16_TagsNil (p0 : Int × Int × Unit) : HM (Bool × Unit) :=
  HM.bind (α := Nat) (HM.new (.cells #[.int .i64 p0.1, .int .i64 p0.2.1] 104)) fun (x1 : Nat) =>
  HM.bind (α := Int × Int × Unit) (HM.loadN [.int .i64, .int .i64] ⟨x1, 0, none⟩) fun (x2 : Int × Int × Unit) =>
  HM.bind (α := Bool × Int × Unit) (HM.callN Tryd.prog [.one .bool, .one (.int .u8)] 32 #[.pointer none, .agg #[.int .i64 x2.1, .int .i64 x2.2.1]]) fun (x3 : Bool × Int × Unit) =>
  HM.bind (α := Bool × Unit) (HM.bind (α := Bool) (HM.call1 Tryd.prog (.one .bool) 35 #[]) fun (x4 : Bool) =>
  HM.ite x4 (
  HM.ite (!x3.1) (
  HM.ite (x3.2.1 == 128) (
  HM.bind (α := Int × Int × Unit) (HM.loadN [.int .i64, .int .i64] ⟨x1, 0, none⟩) fun (x5 : Int × Int × Unit) =>
  HM.bind (α := Bool) (HM.call1 Tryd.prog (.one .bool) 34 #[.pointer none, .agg #[.int .i64 x5.1, .int .i64 x5.2.1]]) fun (x6 : Bool) =>
  HM.ite (!x6) (
  HM.bind (α := Int) (HM.call1 Tryd.prog (.one (.int .i64)) 33 #[.pointer none]) fun (x7 : Int) =>
  HM.ite (x7 == 0) (
  HM.bind (α := Slc) (HM.call1 Tryd.prog (.one .slc) 39 #[.pointer none]) fun (x8 : Slc) =>
  HM.pure (((x8.len : Nat) : Int) == 0, ())) (
  HM.pure (false, ()))) (
  HM.pure (false, ()))) (
  HM.pure (false, ()))) (
  HM.pure (false, ()))) (
  HM.pure (false, ()))) fun (x9 : Bool × Unit) =>
  HM.pure (x9.1, ())

theorem law16_TagsNil_den (p0 : Int × Int × Unit) : denFn Tryd.prog [32, 35, 34, 33, 39] 38 [0, 1, 2, 3, 4, 5] [0, 1, 3, 4, 5] Tryd.f9.results.toList [.one .bool] (bodyOf Tryd.f9) [Kind.val (.agg [.int .i64, .int .i64]) p0] = law16_TagsNil p0 := by kernel_rfl
theorem law16_TagsNil_calls (p0 : Int × Int × Unit) (h : Heap) (Q : Value → Heap → Prop) (hh : law16_TagsNil p0 h fun x h' => Q (.bool x.1) h') :
    HCalls Tryd.prog 9 #[.agg #[.int .i64 p0.1, .int .i64 p0.2.1]] h Q := by
  rw [← law16_TagsNil_den] at hh
  exact calls_of_den Tryd.func9 (by kernel_rfl) Tryd.ntmps9 (by kernel_rfl) (fun f hf => by
      rcases List.mem_cons.1 hf with rfl | hf
      · exact Tryd.call32
      rcases List.mem_cons.1 hf with rfl | hf
      · exact Tryd.call35
      rcases List.mem_cons.1 hf with rfl | hf
      · exact Tryd.call34
      rcases List.mem_cons.1 hf with rfl | hf
      · exact Tryd.call33
      rcases List.mem_cons.1 hf with rfl | hf
      · exact Tryd.call39
      cases hf) orders hh

/-- aqueduct/aqueductlaw16.TagsTexts -/
def law16_TagsTexts (p0 : Int × Int × Int × Int × Unit) (p1 : ByteArray) : HM (Bool × Unit) :=
  HM.bind (α := Nat) (HM.new (.cells #[.int .i64 p0.1, .int .i64 p0.2.1, .int .i64 p0.2.2.1, .int .i64 p0.2.2.2.1] 125)) fun (x1 : Nat) =>
  HM.bind (α := Int × Int × Int × Int × Unit) (HM.loadN [.int .i64, .int .i64, .int .i64, .int .i64] ⟨x1, 0, none⟩) fun (x2 : Int × Int × Int × Int × Unit) =>
  HM.bind (α := (Int × Int × Int × Int × Unit) × (Int × Int × Int × Int × Unit) × Unit) (HM.callN Tryd.prog [.agg [.int .i64, .int .i64, .int .i64, .int .i64], .agg [.int .i64, .int .i64, .int .i64, .int .i64]] 40 #[.agg #[.int .i64 x2.1, .int .i64 x2.2.1, .int .i64 x2.2.2.1, .int .i64 x2.2.2.2.1]]) fun (x3 : (Int × Int × Int × Int × Unit) × (Int × Int × Int × Int × Unit) × Unit) =>
  HM.bind (α := Nat) (HM.new (.cells #[.int .i64 0, .int .i64 0, .int .i64 0, .int .i64 0] 127)) fun (x4 : Nat) =>
  HM.bind (α := Nat) (HM.new (.cells #[.int .i64 0, .int .i64 0, .int .i64 0, .int .i64 0] 129)) fun (x5 : Nat) =>
  HM.bind (α := Unit) (HM.storeN ⟨x4, 0, none⟩ [.int .i64 x3.1.1, .int .i64 x3.1.2.1, .int .i64 x3.1.2.2.1, .int .i64 x3.1.2.2.2.1]) fun (_ : Unit) =>
  HM.bind (α := Unit) (HM.storeN ⟨x5, 0, none⟩ [.int .i64 x3.2.1.1, .int .i64 x3.2.1.2.1, .int .i64 x3.2.1.2.2.1, .int .i64 x3.2.1.2.2.2.1]) fun (_ : Unit) =>
  HM.bind (α := (Int × Int × Int × Int × Unit) × Bool × Unit) (HM.callN Tryd.prog [.agg [.int .i64, .int .i64, .int .i64, .int .i64], .one .bool] 41 #[.string p1]) fun (x6 : (Int × Int × Int × Int × Unit) × Bool × Unit) =>
  HM.bind (α := Nat) (HM.new (.cells #[.int .i64 0, .int .i64 0, .int .i64 0, .int .i64 0] 127)) fun (x7 : Nat) =>
  HM.bind (α := Unit) (HM.storeN ⟨x7, 0, none⟩ [.int .i64 x6.1.1, .int .i64 x6.1.2.1, .int .i64 x6.1.2.2.1, .int .i64 x6.1.2.2.2.1]) fun (_ : Unit) =>
  HM.bind (α := (Int × Int × Int × Int × Unit) × Bool × Unit) (HM.callN Tryd.prog [.agg [.int .i64, .int .i64, .int .i64, .int .i64], .one .bool] 42 #[.string p1]) fun (x8 : (Int × Int × Int × Int × Unit) × Bool × Unit) =>
  HM.bind (α := Nat) (HM.new (.cells #[.int .i64 0, .int .i64 0, .int .i64 0, .int .i64 0] 129)) fun (x9 : Nat) =>
  HM.bind (α := Unit) (HM.storeN ⟨x9, 0, none⟩ [.int .i64 x8.1.1, .int .i64 x8.1.2.1, .int .i64 x8.1.2.2.1, .int .i64 x8.1.2.2.2.1]) fun (_ : Unit) =>
  HM.bind (α := Bool × Unit) (HM.bind (α := Bool) (HM.call1 Tryd.prog (.one .bool) 35 #[]) fun (x10 : Bool) =>
  HM.ite x10 (
  HM.bind (α := Int × Int × Int × Int × Unit) (HM.loadN [.int .i64, .int .i64, .int .i64, .int .i64] ⟨x4, 0, none⟩) fun (x11 : Int × Int × Int × Int × Unit) =>
  HM.bind (α := Int × Int × Int × Int × Unit) (HM.loadN [.int .i64, .int .i64, .int .i64, .int .i64] ⟨x5, 0, none⟩) fun (x12 : Int × Int × Int × Int × Unit) =>
  HM.bind (α := ByteArray) (HM.call1 Tryd.prog (.one .str) 43 #[.agg #[.int .i64 x11.1, .int .i64 x11.2.1, .int .i64 x11.2.2.1, .int .i64 x11.2.2.2.1]]) fun (x13 : ByteArray) =>
  HM.bind (α := Int × Int × Int × Int × Unit) (HM.loadN [.int .i64, .int .i64, .int .i64, .int .i64] ⟨x5, 0, none⟩) fun (x14 : Int × Int × Int × Int × Unit) =>
  HM.req ((.agg #[.int .i64 x14.1, .int .i64 x14.2.1, .int .i64 x14.2.2.1, .int .i64 x14.2.2.2.1] : Value) = .agg #[.int .i64 x12.1, .int .i64 x12.2.1, .int .i64 x12.2.2.1, .int .i64 x12.2.2.2.1]) <|
  HM.bind (α := ByteArray) (HM.call1 Tryd.prog (.one .str) 44 #[.agg #[.int .i64 x12.1, .int .i64 x12.2.1, .int .i64 x12.2.2.1, .int .i64 x12.2.2.2.1]]) fun (x15 : ByteArray) =>
  HM.ite (decide (x13 = x15)) (
  HM.ite (x6.2.1 == x8.2.1) (
  HM.bind (α := Int × Int × Unit) (HM.loadN [.int .i64, .int .i64] (Addr.add ⟨x7, 0, none⟩ 0)) fun (x16 : Int × Int × Unit) =>
  HM.bind (α := Int × Int × Unit) (HM.loadN [.int .i64, .int .i64] (Addr.add ⟨x9, 0, none⟩ 0)) fun (x17 : Int × Int × Unit) =>
  HM.ite ((x16.1 == x17.1) && ((x16.2.1 == x17.2.1) && true)) (
  HM.bind (α := Int) (HM.load1 (.int .i64) (Addr.add ⟨x7, 0, none⟩ 2)) fun (x18 : Int) =>
  HM.bind (α := Int) (HM.load1 (.int .i64) (Addr.add ⟨x9, 0, none⟩ 2)) fun (x19 : Int) =>
  HM.ite (x18 == x19) (
  HM.bind (α := Int) (HM.load1 (.int .i64) (Addr.add ⟨x7, 0, none⟩ 3)) fun (x20 : Int) =>
  HM.bind (α := Int) (HM.load1 (.int .i64) (Addr.add ⟨x9, 0, none⟩ 3)) fun (x21 : Int) =>
  HM.pure (x20 == x21, ())) (
  HM.pure (false, ()))) (
  HM.pure (false, ()))) (
  HM.pure (false, ()))) (
  HM.pure (false, ()))) (
  HM.pure (false, ()))) fun (x22 : Bool × Unit) =>
  HM.pure (x22.1, ())

theorem law16_TagsTexts_den (p0 : Int × Int × Int × Int × Unit) (p1 : ByteArray) : denFn Tryd.prog [40, 41, 42, 35, 43, 44] 60 [0, 1, 2, 4, 5, 6, 7, 8, 9, 10] [0, 1, 2, 5, 6, 7, 8, 9, 10] Tryd.f10.results.toList [.one .bool] (bodyOf Tryd.f10) [Kind.val (.agg [.int .i64, .int .i64, .int .i64, .int .i64]) p0, Kind.val (.one .str) p1] = law16_TagsTexts p0 p1 := by kernel_rfl
theorem law16_TagsTexts_calls (p0 : Int × Int × Int × Int × Unit) (p1 : ByteArray) (h : Heap) (Q : Value → Heap → Prop) (hh : law16_TagsTexts p0 p1 h fun x h' => Q (.bool x.1) h') :
    HCalls Tryd.prog 10 #[.agg #[.int .i64 p0.1, .int .i64 p0.2.1, .int .i64 p0.2.2.1, .int .i64 p0.2.2.2.1], .string p1] h Q := by
  rw [← law16_TagsTexts_den] at hh
  exact calls_of_den Tryd.func10 (by kernel_rfl) Tryd.ntmps10 (by kernel_rfl) (fun f hf => by
      rcases List.mem_cons.1 hf with rfl | hf
      · exact Tryd.call40
      rcases List.mem_cons.1 hf with rfl | hf
      · exact Tryd.call41
      rcases List.mem_cons.1 hf with rfl | hf
      · exact Tryd.call42
      rcases List.mem_cons.1 hf with rfl | hf
      · exact Tryd.call35
      rcases List.mem_cons.1 hf with rfl | hf
      · exact Tryd.call43
      rcases List.mem_cons.1 hf with rfl | hf
      · exact Tryd.call44
      cases hf) orders hh

/-- aqueduct/aqueductlaw16.TagsBack -/
def law16_TagsBack (p0 : Int × Int × Int × Int × Unit) (p1 : ByteArray) : HM (Bool × Unit) :=
  HM.bind (α := Nat) (HM.new (.cells #[.int .i64 p0.1, .int .i64 p0.2.1, .int .i64 p0.2.2.1, .int .i64 p0.2.2.2.1] 125)) fun (x1 : Nat) =>
  HM.bind (α := Int × Int × Int × Int × Unit) (HM.loadN [.int .i64, .int .i64, .int .i64, .int .i64] ⟨x1, 0, none⟩) fun (x2 : Int × Int × Int × Int × Unit) =>
  HM.bind (α := (Int × Int × Int × Int × Unit) × (Int × Int × Int × Int × Unit) × Unit) (HM.callN Tryd.prog [.agg [.int .i64, .int .i64, .int .i64, .int .i64], .agg [.int .i64, .int .i64, .int .i64, .int .i64]] 40 #[.agg #[.int .i64 x2.1, .int .i64 x2.2.1, .int .i64 x2.2.2.1, .int .i64 x2.2.2.2.1]]) fun (x3 : (Int × Int × Int × Int × Unit) × (Int × Int × Int × Int × Unit) × Unit) =>
  HM.bind (α := Nat) (HM.new (.cells #[.int .i64 0, .int .i64 0, .int .i64 0, .int .i64 0] 127)) fun (x4 : Nat) =>
  HM.bind (α := Nat) (HM.new (.cells #[.int .i64 0, .int .i64 0, .int .i64 0, .int .i64 0] 129)) fun (x5 : Nat) =>
  HM.bind (α := Unit) (HM.storeN ⟨x4, 0, none⟩ [.int .i64 x3.1.1, .int .i64 x3.1.2.1, .int .i64 x3.1.2.2.1, .int .i64 x3.1.2.2.2.1]) fun (_ : Unit) =>
  HM.bind (α := Unit) (HM.storeN ⟨x5, 0, none⟩ [.int .i64 x3.2.1.1, .int .i64 x3.2.1.2.1, .int .i64 x3.2.1.2.2.1, .int .i64 x3.2.1.2.2.2.1]) fun (_ : Unit) =>
  HM.bind (α := Int × Int × Int × Int × Unit) (HM.loadN [.int .i64, .int .i64, .int .i64, .int .i64] ⟨x4, 0, none⟩) fun (x6 : Int × Int × Int × Int × Unit) =>
  HM.bind (α := ByteArray) (HM.call1 Tryd.prog (.one .str) 43 #[.agg #[.int .i64 x6.1, .int .i64 x6.2.1, .int .i64 x6.2.2.1, .int .i64 x6.2.2.2.1]]) fun (x7 : ByteArray) =>
  HM.bind (α := (Int × Int × Int × Int × Unit) × Bool × Unit) (HM.callN Tryd.prog [.agg [.int .i64, .int .i64, .int .i64, .int .i64], .one .bool] 41 #[.string x7]) fun (x8 : (Int × Int × Int × Int × Unit) × Bool × Unit) =>
  HM.bind (α := Nat) (HM.new (.cells #[.int .i64 0, .int .i64 0, .int .i64 0, .int .i64 0] 127)) fun (x9 : Nat) =>
  HM.bind (α := Unit) (HM.storeN ⟨x9, 0, none⟩ [.int .i64 x8.1.1, .int .i64 x8.1.2.1, .int .i64 x8.1.2.2.1, .int .i64 x8.1.2.2.2.1]) fun (_ : Unit) =>
  HM.bind (α := Bool × Unit) (HM.bind (α := Bool) (HM.call1 Tryd.prog (.one .bool) 35 #[]) fun (x10 : Bool) =>
  HM.ite (!x10) (
  HM.pure (true, ())) (
  HM.ite (!(x8.2.1 == (!(decide (x7 = (ByteArray.mk #[])))))) (
  HM.pure (true, ())) (
  HM.ite x8.2.1 (
  HM.bind (α := Int × Int × Int × Int × Unit) (HM.loadN [.int .i64, .int .i64, .int .i64, .int .i64] ⟨x9, 0, none⟩) fun (x11 : Int × Int × Int × Int × Unit) =>
  HM.bind (α := Int × Int × Int × Int × Unit) (HM.loadN [.int .i64, .int .i64, .int .i64, .int .i64] ⟨x4, 0, none⟩) fun (x12 : Int × Int × Int × Int × Unit) =>
  HM.pure (!(((x11.1 == x12.1) && ((x11.2.1 == x12.2.1) && true)) && ((x11.2.2.1 == x12.2.2.1) && ((x11.2.2.2.1 == x12.2.2.2.1) && true))), ())) (
  HM.pure (false, ()))))) fun (x13 : Bool × Unit) =>
  HM.ite x13.1 (
  HM.pure (false, ())) (
  HM.bind (α := (Int × Int × Int × Int × Unit) × Bool × Unit) (HM.callN Tryd.prog [.agg [.int .i64, .int .i64, .int .i64, .int .i64], .one .bool] 41 #[.string p1]) fun (x14 : (Int × Int × Int × Int × Unit) × Bool × Unit) =>
  HM.bind (α := Nat) (HM.new (.cells #[.int .i64 0, .int .i64 0, .int .i64 0, .int .i64 0] 127)) fun (x15 : Nat) =>
  HM.bind (α := Unit) (HM.storeN ⟨x15, 0, none⟩ [.int .i64 x14.1.1, .int .i64 x14.1.2.1, .int .i64 x14.1.2.2.1, .int .i64 x14.1.2.2.2.1]) fun (_ : Unit) =>
  HM.bind (α := Bool × Unit) (HM.ite (!x14.2.1) (
  HM.pure (true, ())) (
  HM.bind (α := Int × Int × Int × Int × Unit) (HM.loadN [.int .i64, .int .i64, .int .i64, .int .i64] ⟨x15, 0, none⟩) fun (x16 : Int × Int × Int × Int × Unit) =>
  HM.bind (α := ByteArray) (HM.call1 Tryd.prog (.one .str) 43 #[.agg #[.int .i64 x16.1, .int .i64 x16.2.1, .int .i64 x16.2.2.1, .int .i64 x16.2.2.2.1]]) fun (x17 : ByteArray) =>
  HM.pure (decide (x17 = p1), ()))) fun (x18 : Bool × Unit) =>
  HM.pure (x18.1, ()))

theorem law16_TagsBack_den (p0 : Int × Int × Int × Int × Unit) (p1 : ByteArray) : denFn Tryd.prog [40, 43, 41, 35] 52 [0, 1, 2, 4, 5, 7, 8, 9, 10, 38] [0, 1, 2, 5, 7, 8, 9, 10, 38] Tryd.f11.results.toList [.one .bool] (bodyOf Tryd.f11) [Kind.val (.agg [.int .i64, .int .i64, .int .i64, .int .i64]) p0, Kind.val (.one .str) p1] = law16_TagsBack p0 p1 := by kernel_rfl
theorem law16_TagsBack_calls (p0 : Int × Int × Int × Int × Unit) (p1 : ByteArray) (h : Heap) (Q : Value → Heap → Prop) (hh : law16_TagsBack p0 p1 h fun x h' => Q (.bool x.1) h') :
    HCalls Tryd.prog 11 #[.agg #[.int .i64 p0.1, .int .i64 p0.2.1, .int .i64 p0.2.2.1, .int .i64 p0.2.2.2.1], .string p1] h Q := by
  rw [← law16_TagsBack_den] at hh
  exact calls_of_den Tryd.func11 (by kernel_rfl) Tryd.ntmps11 (by kernel_rfl) (fun f hf => by
      rcases List.mem_cons.1 hf with rfl | hf
      · exact Tryd.call40
      rcases List.mem_cons.1 hf with rfl | hf
      · exact Tryd.call43
      rcases List.mem_cons.1 hf with rfl | hf
      · exact Tryd.call41
      rcases List.mem_cons.1 hf with rfl | hf
      · exact Tryd.call35
      cases hf) orders hh

/-- aqueduct/session.New -/
def session_New : HM (Option Addr × Unit) :=
  HM.bind (α := Nat) (HM.new (.map #[] 0)) fun (x1 : Nat) =>
  HM.bind (α := Nat) (HM.new (.cells #[.int .i64 0, .map (some x1)] 141)) fun (x2 : Nat) =>
  HM.pure (some ⟨x2, 0, none⟩, ())

theorem session_New_den : denFn Tryd.prog [] 4 [0] [] Tryd.f12.results.toList [.one .ptr] (bodyOf Tryd.f12) [] = session_New := by kernel_rfl
theorem session_New_calls (h : Heap) (Q : Value → Heap → Prop) (hh : session_New h fun x h' => Q (.pointer x.1) h') :
    HCalls Tryd.prog 12 #[] h Q := by
  rw [← session_New_den] at hh
  exact calls_of_den Tryd.func12 (by kernel_rfl) Tryd.ntmps12 (by kernel_rfl) (fun f hf => by cases hf) orders hh

/-- (*aqueduct/session.Table).Begin -/
def session_Table_Begin (p0 : Option Addr) (p1 : ByteArray) (p2 : Bool) (p3 : Bool) : HM (Int × Bool × Int × Unit) :=
  HM.bind (α := Int × Bool × Unit) (HM.callN Tryd.prog [.one (.int .i64), .one .bool] 45 #[.string p1]) fun (x1 : Int × Bool × Unit) =>
  HM.ite (Option.isNone p0) (
  HM.pure (0, false, 128, ())) (
  HM.bind (α := Bool × Unit) (HM.ite x1.2.1 (
  HM.pure (true, ())) (
  HM.ite (decide (p1 = (ByteArray.mk #[]))) (
  HM.pure (true, ())) (
  HM.pure (decide (64 < (((ByteArray.size p1 : Nat) : Int) : Int)), ())))) fun (x2 : Bool × Unit) =>
  HM.ite x2.1 (
  HM.pure (0, false, 133, ())) (
  HM.bind (α := Option Addr) (HM.call1 Tryd.prog (.one .ptr) 46 #[.pointer p0, .string p1]) fun (x3 : Option Addr) =>
  HM.bind (α := Bool × Unit) (HM.ite (!(Option.isNone x3)) (
  HM.pure (!p2, ())) (
  HM.pure (false, ()))) fun (x4 : Bool × Unit) =>
  HM.ite x4.1 (
  HM.bind (α := Addr) (HM.nonnil x3) fun (x5 : Addr) =>
  HM.bind (α := Unit) (HM.store1 (Addr.add (Addr.add x5 0) 3) (.bool true)) fun (_ : Unit) =>
  HM.bind (α := Addr) (HM.nonnil x3) fun (x6 : Addr) =>
  HM.bind (α := Unit) (HM.store1 (Addr.add (Addr.add x6 0) 2) (.bool p3)) fun (_ : Unit) =>
  HM.bind (α := Addr) (HM.nonnil x3) fun (x7 : Addr) =>
  HM.bind (α := Int) (HM.load1 (.int .i64) (Addr.add (Addr.add x7 0) 0)) fun (x8 : Int) =>
  HM.pure (x8, true, 0, ())) (
  HM.bind (α := (Unit) ⊕ (Int × Bool × Int × Unit)) (HM.ite (!(Option.isNone x3)) (
  HM.bind (α := Addr) (HM.nonnil p0) fun (x10 : Addr) =>
  HM.bind (α := Option Nat) (HM.load1 .map (Addr.add x10 1)) fun (x11 : Option Nat) =>
  HM.bind (α := Addr) (HM.nonnil x3) fun (x12 : Addr) =>
  HM.bind (α := Int) (HM.load1 (.int .i64) (Addr.add (Addr.add x12 0) 0)) fun (x13 : Int) =>
  HM.bind (α := Unit) (HM.mapDel (Instr.sameNow (.int .i64)) x11 (.int .i64 x13)) fun (_ : Unit) =>
  HM.pure (.inl ())) (
  HM.bind (α := Addr) (HM.nonnil p0) fun (x14 : Addr) =>
  HM.bind (α := Option Nat) (HM.load1 .map (Addr.add x14 1)) fun (x15 : Option Nat) =>
  HM.bind (α := Int) (HM.mapLen x15) fun (x16 : Int) =>
  HM.ite (decide (32 ≤ (x16 : Int))) (
  HM.pure (.inr (0, false, 151, ()))) (
  HM.pure (.inl ())))) (Sum.elim (fun (x9 : Unit) =>
  HM.bind (α := Addr) (HM.nonnil p0) fun (x17 : Addr) =>
  HM.bind (α := Int) (HM.load1 (.int .i64) (Addr.add x17 0)) fun (x18 : Int) =>
  HM.bind (α := Addr) (HM.nonnil p0) fun (x19 : Addr) =>
  HM.bind (α := Unit) (HM.store1 (Addr.add x19 0) (.int .i64 (IntKind.wrap .i64 (x18 + 1)))) fun (_ : Unit) =>
  HM.bind (α := Addr) (HM.nonnil p0) fun (x20 : Addr) =>
  HM.bind (α := Option Nat) (HM.load1 .map (Addr.add x20 1)) fun (x21 : Option Nat) =>
  HM.bind (α := Addr) (HM.nonnil p0) fun (x22 : Addr) =>
  HM.bind (α := Int) (HM.load1 (.int .i64) (Addr.add x22 0)) fun (x23 : Int) =>
  HM.bind (α := Addr) (HM.nonnil p0) fun (x24 : Addr) =>
  HM.bind (α := Int) (HM.load1 (.int .i64) (Addr.add x24 0)) fun (x25 : Int) =>
  HM.bind (α := Option Addr) (HM.call1 Tryd.prog (.one .ptr) 47 #[.int .i64 64]) fun (x26 : Option Addr) =>
  HM.bind (α := Int) (HM.load1 (.int .i64) (Addr.add x24 0)) fun (x27 : Int) =>
  HM.req ((.int .i64 x27 : Value) = .int .i64 x25) <|
  HM.bind (α := Int) (HM.load1 (.int .i64) (Addr.add x22 0)) fun (x28 : Int) =>
  HM.req ((.int .i64 x28 : Value) = .int .i64 x23) <|
  HM.bind (α := Option Nat) (HM.load1 .map (Addr.add x20 1)) fun (x29 : Option Nat) =>
  HM.req ((.map x29 : Value) = .map x21) <|
  HM.bind (α := Option Addr) (HM.call1 Tryd.prog (.one .ptr) 48 #[.int .i64 64]) fun (x30 : Option Addr) =>
  HM.bind (α := Int) (HM.load1 (.int .i64) (Addr.add x24 0)) fun (x31 : Int) =>
  HM.req ((.int .i64 x31 : Value) = .int .i64 x25) <|
  HM.bind (α := Int) (HM.load1 (.int .i64) (Addr.add x22 0)) fun (x32 : Int) =>
  HM.req ((.int .i64 x32 : Value) = .int .i64 x23) <|
  HM.bind (α := Option Nat) (HM.load1 .map (Addr.add x20 1)) fun (x33 : Option Nat) =>
  HM.req ((.map x33 : Value) = .map x21) <|
  HM.bind (α := Nat) (HM.new (.cells #[.int .i64 x25, .string p1, .bool p3, .bool true, .pointer x26, .pointer x30] 147)) fun (x34 : Nat) =>
  HM.bind (α := Int) (HM.load1 (.int .i64) (Addr.add x22 0)) fun (x35 : Int) =>
  HM.req ((.int .i64 x35 : Value) = .int .i64 x23) <|
  HM.bind (α := Option Nat) (HM.load1 .map (Addr.add x20 1)) fun (x36 : Option Nat) =>
  HM.req ((.map x36 : Value) = .map x21) <|
  HM.bind (α := Unit) (HM.mapSet (Instr.sameNow (.int .i64)) x21 (.int .i64 x23) (.pointer (some ⟨x34, 0, none⟩))) fun (_ : Unit) =>
  HM.bind (α := Addr) (HM.nonnil p0) fun (x37 : Addr) =>
  HM.bind (α := Int) (HM.load1 (.int .i64) (Addr.add x37 0)) fun (x38 : Int) =>
  HM.pure (x38, false, 0, ())) HM.pure))))

theorem session_Table_Begin_den (p0 : Option Addr) (p1 : ByteArray) (p2 : Bool) (p3 : Bool) : denFn Tryd.prog [45, 46, 47, 48] 106 [0, 1, 2, 3, 8, 9, 10, 12, 13, 19, 22, 36, 57, 69] [0, 1, 2, 3, 12, 13, 19, 22, 36, 57, 69] Tryd.f13.results.toList [.one (.int .i64), .one .bool, .one (.int .u8)] (bodyOf Tryd.f13) [Kind.val (.one .ptr) p0, Kind.val (.one .str) p1, Kind.val (.one .bool) p2, Kind.val (.one .bool) p3] = session_Table_Begin p0 p1 p2 p3 := by kernel_rfl
theorem session_Table_Begin_calls (p0 : Option Addr) (p1 : ByteArray) (p2 : Bool) (p3 : Bool) (h : Heap) (Q : Value → Heap → Prop) (hh : session_Table_Begin p0 p1 p2 p3 h fun x h' => Q (.tuple #[.int .i64 x.1, .bool x.2.1, .int .u8 x.2.2.1]) h') :
    HCalls Tryd.prog 13 #[.pointer p0, .string p1, .bool p2, .bool p3] h Q := by
  rw [← session_Table_Begin_den] at hh
  exact calls_of_den Tryd.func13 (by kernel_rfl) Tryd.ntmps13 (by kernel_rfl) (fun f hf => by
      rcases List.mem_cons.1 hf with rfl | hf
      · exact Tryd.call45
      rcases List.mem_cons.1 hf with rfl | hf
      · exact Tryd.call46
      rcases List.mem_cons.1 hf with rfl | hf
      · exact Tryd.call47
      rcases List.mem_cons.1 hf with rfl | hf
      · exact Tryd.call48
      cases hf) orders hh

/-- aqueduct/aqueductlaw18.wakes -/
def law18_wakes : HM (Bool × Unit) :=
  HM.bind (α := Option Addr) (HM.call1 Tryd.prog (.one .ptr) 12 #[]) fun (x1 : Option Addr) =>
  HM.bind (α := Int × Bool × Int × Unit) (HM.callN Tryd.prog [.one (.int .i64), .one .bool, .one (.int .u8)] 13 #[.pointer x1, .string (ByteArray.mk #[99]), .bool false, .bool true]) fun (x2 : Int × Bool × Int × Unit) =>
  HM.bind (α := Bool) (HM.call1 Tryd.prog (.one .bool) 17 #[.pointer x1, .int .i64 1]) fun (x3 : Bool) =>
  HM.bind (α := Int × Bool × Int × Unit) (HM.callN Tryd.prog [.one (.int .i64), .one .bool, .one (.int .u8)] 13 #[.pointer x1, .string (ByteArray.mk #[99]), .bool false, .bool false]) fun (x4 : Int × Bool × Int × Unit) =>
  HM.bind (α := Bool) (HM.call1 Tryd.prog (.one .bool) 17 #[.pointer x1, .int .i64 1]) fun (x5 : Bool) =>
  HM.bind (α := Int × Bool × Int × Unit) (HM.callN Tryd.prog [.one (.int .i64), .one .bool, .one (.int .u8)] 13 #[.pointer x1, .string (ByteArray.mk #[99]), .bool false, .bool true]) fun (x6 : Int × Bool × Int × Unit) =>
  HM.bind (α := Bool × Unit) (HM.ite (x2.1 == 1) (
  HM.ite (!x2.2.1) (
  HM.ite (x2.2.2.1 == 0) (
  HM.ite (!x3) (
  HM.ite (x4.1 == 1) (
  HM.ite x4.2.1 (
  HM.ite (x4.2.2.1 == 0) (
  HM.ite x5 (
  HM.ite (x6.1 == 2) (
  HM.ite (!x6.2.1) (
  HM.pure (x6.2.2.1 == 0, ())) (
  HM.pure (false, ()))) (
  HM.pure (false, ()))) (
  HM.pure (false, ()))) (
  HM.pure (false, ()))) (
  HM.pure (false, ()))) (
  HM.pure (false, ()))) (
  HM.pure (false, ()))) (
  HM.pure (false, ()))) (
  HM.pure (false, ()))) (
  HM.pure (false, ()))) fun (x7 : Bool × Unit) =>
  HM.pure (x7.1, ())

theorem law18_wakes_den : denFn Tryd.prog [12, 13, 17] 76 [0, 1, 2, 3, 4, 5, 6, 7, 8, 9, 10, 11, 12] [1, 2, 3, 4, 5, 6, 7, 8, 9, 10, 11, 12] Tryd.f14.results.toList [.one .bool] (bodyOf Tryd.f14) [] = law18_wakes := by kernel_rfl
theorem law18_wakes_calls (h : Heap) (Q : Value → Heap → Prop) (hh : law18_wakes h fun x h' => Q (.bool x.1) h') :
    HCalls Tryd.prog 14 #[] h Q := by
  rw [← law18_wakes_den] at hh
  exact calls_of_den Tryd.func14 (by kernel_rfl) Tryd.ntmps14 (by kernel_rfl) (fun f hf => by
      rcases List.mem_cons.1 hf with rfl | hf
      · exact Tryd.call12
      rcases List.mem_cons.1 hf with rfl | hf
      · exact Tryd.call13
      rcases List.mem_cons.1 hf with rfl | hf
      · exact Tryd.call17
      cases hf) orders hh

/-- (*aqueduct/session.Table).Out -/
def session_Table_Out (p0 : Option Addr) (p1 : Int) : HM (Option Addr × Unit) :=
  HM.bind (α := Option Addr) (HM.call1 Tryd.prog (.one .ptr) 49 #[.pointer p0, .int .i64 p1]) fun (x1 : Option Addr) =>
  HM.ite (!(Option.isNone x1)) (
  HM.bind (α := Addr) (HM.nonnil x1) fun (x2 : Addr) =>
  HM.bind (α := Option Addr) (HM.load1 .ptr (Addr.add x2 4)) fun (x3 : Option Addr) =>
  HM.pure (x3, ())) (
  HM.pure (none, ()))

theorem session_Table_Out_den (p0 : Option Addr) (p1 : Int) : denFn Tryd.prog [49] 15 [0, 1, 4, 5, 10] [0, 1, 5, 10] Tryd.f15.results.toList [.one .ptr] (bodyOf Tryd.f15) [Kind.val (.one .ptr) p0, Kind.val (.one (.int .i64)) p1] = session_Table_Out p0 p1 := by kernel_rfl
theorem session_Table_Out_calls (p0 : Option Addr) (p1 : Int) (h : Heap) (Q : Value → Heap → Prop) (hh : session_Table_Out p0 p1 h fun x h' => Q (.pointer x.1) h') :
    HCalls Tryd.prog 15 #[.pointer p0, .int .i64 p1] h Q := by
  rw [← session_Table_Out_den] at hh
  exact calls_of_den Tryd.func15 (by kernel_rfl) Tryd.ntmps15 (by kernel_rfl) (fun f hf => by
      rcases List.mem_cons.1 hf with rfl | hf
      · exact Tryd.call49
      cases hf) orders hh

/-- (*aqueduct/outflow.Flow).Send -/
def outflow_Flow_Send (p0 : Option Addr) (p1 : ByteArray × ByteArray × Int × Bool × ByteArray × Unit) : HM (Slc × Int × Unit) :=
  HM.bind (α := Nat) (HM.new (.cells #[.string p1.1, .string p1.2.1, .int .i64 p1.2.2.1, .bool p1.2.2.2.1, .string p1.2.2.2.2.1] 36)) fun (x1 : Nat) =>
  HM.ite (Option.isNone p0) (
  HM.pure (⟨none, 0, 0⟩, 128, ())) (
  HM.bind (α := Bool × Unit) (HM.bind (α := Int) (HM.load1 (.int .i64) (Addr.add ⟨x1, 0, none⟩ 2)) fun (x2 : Int) =>
  HM.ite (decide (x2 < (0 : Int))) (
  HM.pure (true, ())) (
  HM.bind (α := Int) (HM.load1 (.int .i64) (Addr.add ⟨x1, 0, none⟩ 2)) fun (x3 : Int) =>
  HM.pure (decide (2 < (x3 : Int)), ()))) fun (x4 : Bool × Unit) =>
  HM.ite x4.1 (
  HM.pure (⟨none, 0, 0⟩, 155, ())) (
  HM.bind (α := Bool × Unit) (HM.bind (α := Int) (HM.load1 (.int .i64) (Addr.add ⟨x1, 0, none⟩ 2)) fun (x5 : Int) =>
  HM.ite (x5 == 0) (
  HM.bind (α := Addr) (HM.nonnil p0) fun (x6 : Addr) =>
  HM.bind (α := Bool) (HM.load1 .bool (Addr.add x6 2)) fun (x7 : Bool) =>
  HM.pure (!x7, ())) (
  HM.pure (false, ()))) fun (x8 : Bool × Unit) =>
  HM.ite x8.1 (
  HM.pure (⟨none, 0, 0⟩, 0, ())) (
  HM.bind (α := Addr) (HM.nonnil p0) fun (x9 : Addr) =>
  HM.bind (α := Slc) (HM.load1 .slc (Addr.add x9 4)) fun (x10 : Slc) =>
  HM.ite (decide (256 ≤ (((x10.len : Nat) : Int) : Int))) (
  HM.pure (⟨none, 0, 0⟩, 151, ())) (
  HM.bind (α := Addr) (HM.nonnil p0) fun (x11 : Addr) =>
  HM.bind (α := Slc) (HM.load1 .slc (Addr.add x11 4)) fun (x12 : Slc) =>
  HM.bind (α := ByteArray × ByteArray × Int × Bool × ByteArray × Unit) (HM.loadN [.str, .str, .int .i64, .bool, .str] ⟨x1, 0, none⟩) fun (x13 : ByteArray × ByteArray × Int × Bool × ByteArray × Unit) =>
  HM.bind (α := Nat) (HM.new (.cells #[.string x13.1, .string x13.2.1, .int .i64 x13.2.2.1, .bool x13.2.2.2.1, .string x13.2.2.2.2.1] 36)) fun (x14 : Nat) =>
  HM.bind (α := Slc) (HM.load1 .slc (Addr.add x11 4)) fun (x15 : Slc) =>
  HM.req ((.slice x15.a x15.len x15.cap : Value) = .slice x12.a x12.len x12.cap) <|
  HM.bind (α := Slc) (HM.append 36 5 64 #[.string (ByteArray.mk #[]), .string (ByteArray.mk #[]), .int .i64 0, .bool false, .string (ByteArray.mk #[])] x12 1 (srcSlc 5 (⟨some ⟨x14, 0, none⟩, 1, 1⟩))) fun (x16 : Slc) =>
  HM.bind (α := Addr) (HM.nonnil p0) fun (x17 : Addr) =>
  HM.bind (α := Unit) (HM.store1 (Addr.add x17 4) (.slice x16.a x16.len x16.cap)) fun (_ : Unit) =>
  HM.bind (α := Slc) (HM.call1 Tryd.prog (.one .slc) 50 #[.pointer p0, .slice none 0 0]) fun (x18 : Slc) =>
  HM.pure (x18, 0, ())))))

theorem outflow_Flow_Send_den (p0 : Option Addr) (p1 : ByteArray × ByteArray × Int × Bool × ByteArray × Unit) : denFn Tryd.prog [50] 48 [0, 1, 3, 4, 5, 6, 9, 18, 29] [0, 1, 3, 6, 9, 18, 29] Tryd.f16.results.toList [.one .slc, .one (.int .u8)] (bodyOf Tryd.f16) [Kind.val (.one .ptr) p0, Kind.val (.agg [.str, .str, .int .i64, .bool, .str]) p1] = outflow_Flow_Send p0 p1 := by kernel_rfl
theorem outflow_Flow_Send_calls (p0 : Option Addr) (p1 : ByteArray × ByteArray × Int × Bool × ByteArray × Unit) (h : Heap) (Q : Value → Heap → Prop) (hh : outflow_Flow_Send p0 p1 h fun x h' => Q (.tuple #[.slice x.1.a x.1.len x.1.cap, .int .u8 x.2.1]) h') :
    HCalls Tryd.prog 16 #[.pointer p0, .agg #[.string p1.1, .string p1.2.1, .int .i64 p1.2.2.1, .bool p1.2.2.2.1, .string p1.2.2.2.2.1]] h Q := by
  rw [← outflow_Flow_Send_den] at hh
  exact calls_of_den Tryd.func16 (by kernel_rfl) Tryd.ntmps16 (by kernel_rfl) (fun f hf => by
      rcases List.mem_cons.1 hf with rfl | hf
      · exact Tryd.call50
      cases hf) orders hh

/-- (*aqueduct/session.Table).End -/
def session_Table_End (p0 : Option Addr) (p1 : Int) : HM (Bool × Unit) :=
  HM.bind (α := Option Addr) (HM.call1 Tryd.prog (.one .ptr) 49 #[.pointer p0, .int .i64 p1]) fun (x1 : Option Addr) =>
  HM.bind (α := Bool × Unit) (HM.ite (Option.isNone x1) (
  HM.pure (true, ())) (
  HM.bind (α := Addr) (HM.nonnil x1) fun (x2 : Addr) =>
  HM.bind (α := Bool) (HM.load1 .bool (Addr.add (Addr.add x2 0) 3)) fun (x3 : Bool) =>
  HM.pure (!x3, ()))) fun (x4 : Bool × Unit) =>
  HM.ite x4.1 (
  HM.pure (false, ())) (
  HM.bind (α := Addr) (HM.nonnil x1) fun (x5 : Addr) =>
  HM.bind (α := Unit) (HM.store1 (Addr.add (Addr.add x5 0) 3) (.bool false)) fun (_ : Unit) =>
  HM.bind (α := Addr) (HM.nonnil x1) fun (x6 : Addr) =>
  HM.bind (α := Option Addr) (HM.load1 .ptr (Addr.add x6 4)) fun (x7 : Option Addr) =>
  HM.bind (α := Unit) (HM.callN Tryd.prog [] 51 #[.pointer x7]) fun (x8 : Unit) =>
  HM.bind (α := Addr) (HM.nonnil x1) fun (x9 : Addr) =>
  HM.bind (α := Bool) (HM.load1 .bool (Addr.add (Addr.add x9 0) 2)) fun (x10 : Bool) =>
  HM.bind (α := Unit) (HM.ite (!x10) (
  HM.bind (α := Addr) (HM.nonnil p0) fun (x12 : Addr) =>
  HM.bind (α := Option Nat) (HM.load1 .map (Addr.add x12 1)) fun (x13 : Option Nat) =>
  HM.bind (α := Unit) (HM.mapDel (Instr.sameNow (.int .i64)) x13 (.int .i64 p1)) fun (_ : Unit) =>
  HM.pure ()) (
  HM.pure ())) fun (x11 : Unit) =>
  HM.bind (α := Addr) (HM.nonnil x1) fun (x14 : Addr) =>
  HM.bind (α := Bool) (HM.load1 .bool (Addr.add (Addr.add x14 0) 2)) fun (x15 : Bool) =>
  HM.pure (!x15, ()))

theorem session_Table_End_den (p0 : Option Addr) (p1 : Int) : denFn Tryd.prog [49, 51] 45 [0, 1, 4, 5, 18, 33] [0, 1, 5, 18, 33] Tryd.f17.results.toList [.one .bool] (bodyOf Tryd.f17) [Kind.val (.one .ptr) p0, Kind.val (.one (.int .i64)) p1] = session_Table_End p0 p1 := by kernel_rfl
theorem session_Table_End_calls (p0 : Option Addr) (p1 : Int) (h : Heap) (Q : Value → Heap → Prop) (hh : session_Table_End p0 p1 h fun x h' => Q (.bool x.1) h') :
    HCalls Tryd.prog 17 #[.pointer p0, .int .i64 p1] h Q := by
  rw [← session_Table_End_den] at hh
  exact calls_of_den Tryd.func17 (by kernel_rfl) Tryd.ntmps17 (by kernel_rfl) (fun f hf => by
      rcases List.mem_cons.1 hf with rfl | hf
      · exact Tryd.call49
      rcases List.mem_cons.1 hf with rfl | hf
      · exact Tryd.call51
      cases hf) orders hh

/-- (*aqueduct/outflow.Flow).Waiting -/
def outflow_Flow_Waiting (p0 : Option Addr) : HM (Slc × Unit) :=
  HM.ite (Option.isNone p0) (
  HM.pure (⟨none, 0, 0⟩, ())) (
  HM.bind (α := Addr) (HM.nonnil p0) fun (x1 : Addr) =>
  HM.bind (α := Slc) (HM.load1 .slc (Addr.add x1 4)) fun (x2 : Slc) =>
  HM.bind (α := Slc) (HM.call1 Tryd.prog (.one .slc) 52 #[.slice x2.a x2.len x2.cap]) fun (x3 : Slc) =>
  HM.pure (x3, ()))

theorem outflow_Flow_Waiting_den (p0 : Option Addr) : denFn Tryd.prog [52] 10 [0, 2, 4] [0, 4] Tryd.f18.results.toList [.one .slc] (bodyOf Tryd.f18) [Kind.val (.one .ptr) p0] = outflow_Flow_Waiting p0 := by kernel_rfl
theorem outflow_Flow_Waiting_calls (p0 : Option Addr) (h : Heap) (Q : Value → Heap → Prop) (hh : outflow_Flow_Waiting p0 h fun x h' => Q (.slice x.1.a x.1.len x.1.cap) h') :
    HCalls Tryd.prog 18 #[.pointer p0] h Q := by
  rw [← outflow_Flow_Waiting_den] at hh
  exact calls_of_den Tryd.func18 (by kernel_rfl) Tryd.ntmps18 (by kernel_rfl) (fun f hf => by
      rcases List.mem_cons.1 hf with rfl | hf
      · exact Tryd.call52
      cases hf) orders hh

/-- (*aqueduct/outflow.Flow).Begin -/
def outflow_Flow_Begin (p0 : Option Addr) (p1 : Int) : HM (Slc × Unit) :=
  HM.ite (Option.isNone p0) (
  HM.pure (⟨none, 0, 0⟩, ())) (
  HM.bind (α := Int) (HM.call1 Tryd.prog (.one (.int .i64)) 53 #[.int .i64 p1]) fun (x1 : Int) =>
  HM.bind (α := Addr) (HM.nonnil p0) fun (x2 : Addr) =>
  HM.bind (α := Unit) (HM.store1 (Addr.add x2 2) (.bool true)) fun (_ : Unit) =>
  HM.bind (α := Addr) (HM.nonnil p0) fun (x3 : Addr) =>
  HM.bind (α := Unit) (HM.store1 (Addr.add x3 1) (.int .i64 x1)) fun (_ : Unit) =>
  HM.bind (α := Addr) (HM.nonnil p0) fun (x4 : Addr) =>
  HM.bind (α := Slc) (HM.load1 .slc (Addr.add x4 3)) fun (x5 : Slc) =>
  HM.bind (α := Slc × Int × Unit) (HM.loop (σ := Slc × Int × Unit) (τ := Slc × Int × Unit) (fun (x7 : Slc × Int × Unit) =>
  HM.ite (decide (x7.2.1 < (((x5.len : Nat) : Int) : Int))) (
  HM.bind (α := Addr) (HM.idx x5.a x5.len x7.2.1 7) fun (x8 : Addr) =>
  HM.bind (α := Int × ByteArray × ByteArray × Int × Bool × ByteArray × Bool × Unit) (HM.loadN [.int .i64, .str, .str, .int .i64, .bool, .str, .bool] x8) fun (x9 : Int × ByteArray × ByteArray × Int × Bool × ByteArray × Bool × Unit) =>
  HM.bind (α := Nat) (HM.new (.cells #[.int .i64 0, .string (ByteArray.mk #[]), .string (ByteArray.mk #[]), .int .i64 0, .bool false, .string (ByteArray.mk #[]), .bool false] 157)) fun (x10 : Nat) =>
  HM.bind (α := Unit) (HM.storeN ⟨x10, 0, none⟩ [.int .i64 x9.1, .string x9.2.1, .string x9.2.2.1, .int .i64 x9.2.2.2.1, .bool x9.2.2.2.2.1, .string x9.2.2.2.2.2.1, .bool x9.2.2.2.2.2.2.1]) fun (_ : Unit) =>
  HM.bind (α := Bool) (HM.load1 .bool (Addr.add ⟨x10, 0, none⟩ 6)) fun (x11 : Bool) =>
  HM.bind (α := Slc × Unit) (HM.ite x11 (
  HM.bind (α := Int) (HM.load1 (.int .i64) (Addr.add ⟨x10, 0, none⟩ 0)) fun (x13 : Int) =>
  HM.bind (α := Nat) (HM.new (.cells #[.int .i64 6, .bool false, .bool false, .int .i64 0, .int .i64 x13, .string (ByteArray.mk #[]), .string (ByteArray.mk #[]), .int .u8 0, .slice none 0 0, .slice none 0 0, .string (ByteArray.mk #[]), .bool false, .int .i64 0, .bool false, .string (ByteArray.mk #[]), .string (ByteArray.mk #[]), .int .i64 0, .bool false, .slice none 0 0, .bool false, .bool false, .string (ByteArray.mk #[]), .string (ByteArray.mk #[]), .bool false, .slice none 0 0, .slice none 0 0] 49)) fun (x14 : Nat) =>
  HM.bind (α := Slc) (HM.append 49 26 328 #[.int .i64 0, .bool false, .bool false, .int .i64 0, .int .i64 0, .string (ByteArray.mk #[]), .string (ByteArray.mk #[]), .int .u8 0, .slice none 0 0, .slice none 0 0, .string (ByteArray.mk #[]), .bool false, .int .i64 0, .bool false, .string (ByteArray.mk #[]), .string (ByteArray.mk #[]), .int .i64 0, .bool false, .slice none 0 0, .bool false, .bool false, .string (ByteArray.mk #[]), .string (ByteArray.mk #[]), .bool false, .slice none 0 0, .slice none 0 0] x7.1 1 (srcSlc 26 (⟨some ⟨x14, 0, none⟩, 1, 1⟩))) fun (x15 : Slc) =>
  HM.pure (x15, ())) (
  HM.bind (α := ByteArray × ByteArray × Int × Bool × ByteArray × Unit) (HM.loadN [.str, .str, .int .i64, .bool, .str] (Addr.add ⟨x10, 0, none⟩ 1)) fun (x16 : ByteArray × ByteArray × Int × Bool × ByteArray × Unit) =>
  HM.bind (α := Int) (HM.load1 (.int .i64) (Addr.add ⟨x10, 0, none⟩ 0)) fun (x17 : Int) =>
  HM.bind (α := Int × Bool × Bool × Int × Int × ByteArray × ByteArray × Int × Slc × Slc × ByteArray × Bool × Int × Bool × ByteArray × ByteArray × Int × Bool × Slc × Bool × Bool × ByteArray × ByteArray × Bool × Slc × Slc × Unit) (HM.call1 Tryd.prog (.agg [.int .i64, .bool, .bool, .int .i64, .int .i64, .str, .str, .int .u8, .slc, .slc, .str, .bool, .int .i64, .bool, .str, .str, .int .i64, .bool, .slc, .bool, .bool, .str, .str, .bool, .slc, .slc]) 54 #[.agg #[.string x16.1, .string x16.2.1, .int .i64 x16.2.2.1, .bool x16.2.2.2.1, .string x16.2.2.2.2.1], .int .i64 x17, .bool true]) fun (x18 : Int × Bool × Bool × Int × Int × ByteArray × ByteArray × Int × Slc × Slc × ByteArray × Bool × Int × Bool × ByteArray × ByteArray × Int × Bool × Slc × Bool × Bool × ByteArray × ByteArray × Bool × Slc × Slc × Unit) =>
  HM.bind (α := Nat) (HM.new (.cells #[.int .i64 x18.1, .bool x18.2.1, .bool x18.2.2.1, .int .i64 x18.2.2.2.1, .int .i64 x18.2.2.2.2.1, .string x18.2.2.2.2.2.1, .string x18.2.2.2.2.2.2.1, .int .u8 x18.2.2.2.2.2.2.2.1, .slice x18.2.2.2.2.2.2.2.2.1.a x18.2.2.2.2.2.2.2.2.1.len x18.2.2.2.2.2.2.2.2.1.cap, .slice x18.2.2.2.2.2.2.2.2.2.1.a x18.2.2.2.2.2.2.2.2.2.1.len x18.2.2.2.2.2.2.2.2.2.1.cap, .string x18.2.2.2.2.2.2.2.2.2.2.1, .bool x18.2.2.2.2.2.2.2.2.2.2.2.1, .int .i64 x18.2.2.2.2.2.2.2.2.2.2.2.2.1, .bool x18.2.2.2.2.2.2.2.2.2.2.2.2.2.1, .string x18.2.2.2.2.2.2.2.2.2.2.2.2.2.2.1, .string x18.2.2.2.2.2.2.2.2.2.2.2.2.2.2.2.1, .int .i64 x18.2.2.2.2.2.2.2.2.2.2.2.2.2.2.2.2.1, .bool x18.2.2.2.2.2.2.2.2.2.2.2.2.2.2.2.2.2.1, .slice x18.2.2.2.2.2.2.2.2.2.2.2.2.2.2.2.2.2.2.1.a x18.2.2.2.2.2.2.2.2.2.2.2.2.2.2.2.2.2.2.1.len x18.2.2.2.2.2.2.2.2.2.2.2.2.2.2.2.2.2.2.1.cap, .bool x18.2.2.2.2.2.2.2.2.2.2.2.2.2.2.2.2.2.2.2.1, .bool x18.2.2.2.2.2.2.2.2.2.2.2.2.2.2.2.2.2.2.2.2.1, .string x18.2.2.2.2.2.2.2.2.2.2.2.2.2.2.2.2.2.2.2.2.2.1, .string x18.2.2.2.2.2.2.2.2.2.2.2.2.2.2.2.2.2.2.2.2.2.2.1, .bool x18.2.2.2.2.2.2.2.2.2.2.2.2.2.2.2.2.2.2.2.2.2.2.2.1, .slice x18.2.2.2.2.2.2.2.2.2.2.2.2.2.2.2.2.2.2.2.2.2.2.2.2.1.a x18.2.2.2.2.2.2.2.2.2.2.2.2.2.2.2.2.2.2.2.2.2.2.2.2.1.len x18.2.2.2.2.2.2.2.2.2.2.2.2.2.2.2.2.2.2.2.2.2.2.2.2.1.cap, .slice x18.2.2.2.2.2.2.2.2.2.2.2.2.2.2.2.2.2.2.2.2.2.2.2.2.2.1.a x18.2.2.2.2.2.2.2.2.2.2.2.2.2.2.2.2.2.2.2.2.2.2.2.2.2.1.len x18.2.2.2.2.2.2.2.2.2.2.2.2.2.2.2.2.2.2.2.2.2.2.2.2.2.1.cap] 49)) fun (x19 : Nat) =>
  HM.bind (α := Slc) (HM.append 49 26 328 #[.int .i64 0, .bool false, .bool false, .int .i64 0, .int .i64 0, .string (ByteArray.mk #[]), .string (ByteArray.mk #[]), .int .u8 0, .slice none 0 0, .slice none 0 0, .string (ByteArray.mk #[]), .bool false, .int .i64 0, .bool false, .string (ByteArray.mk #[]), .string (ByteArray.mk #[]), .int .i64 0, .bool false, .slice none 0 0, .bool false, .bool false, .string (ByteArray.mk #[]), .string (ByteArray.mk #[]), .bool false, .slice none 0 0, .slice none 0 0] x7.1 1 (srcSlc 26 (⟨some ⟨x19, 0, none⟩, 1, 1⟩))) fun (x20 : Slc) =>
  HM.pure (x20, ()))) fun (x12 : Slc × Unit) =>
  HM.pure (.inl (x12.1, IntKind.wrap .i64 (x7.2.1 + 1), ()))) (
  HM.pure (.inr (x7.1, x7.2.1, ())))) (⟨none, 0, 0⟩, 0, ())) fun (x6 : Slc × Int × Unit) =>
  HM.bind (α := Slc) (HM.call1 Tryd.prog (.one .slc) 50 #[.pointer p0, .slice x6.1.a x6.1.len x6.1.cap]) fun (x21 : Slc) =>
  HM.pure (x21, ()))

theorem outflow_Flow_Begin_den (p0 : Option Addr) (p1 : Int) : denFn Tryd.prog [53, 54, 50] 47 [0, 1, 4, 5, 7, 9, 21, 22, 23, 24, 28] [0, 1, 5, 7, 9, 21, 22, 23, 24, 28] Tryd.f19.results.toList [.one .slc] (bodyOf Tryd.f19) [Kind.val (.one .ptr) p0, Kind.val (.one (.int .i64)) p1] = outflow_Flow_Begin p0 p1 := by kernel_rfl
theorem outflow_Flow_Begin_calls (p0 : Option Addr) (p1 : Int) (h : Heap) (Q : Value → Heap → Prop) (hh : outflow_Flow_Begin p0 p1 h fun x h' => Q (.slice x.1.a x.1.len x.1.cap) h') :
    HCalls Tryd.prog 19 #[.pointer p0, .int .i64 p1] h Q := by
  rw [← outflow_Flow_Begin_den] at hh
  exact calls_of_den Tryd.func19 (by kernel_rfl) Tryd.ntmps19 (by kernel_rfl) (fun f hf => by
      rcases List.mem_cons.1 hf with rfl | hf
      · exact Tryd.call53
      rcases List.mem_cons.1 hf with rfl | hf
      · exact Tryd.call54
      rcases List.mem_cons.1 hf with rfl | hf
      · exact Tryd.call50
      cases hf) orders hh

/-- (*aqueduct/session.Table).List -/
def session_Table_List (p0 : Option Addr) : HM (Slc × Unit) :=
  HM.ite (Option.isNone p0) (
  HM.pure (⟨none, 0, 0⟩, ())) (
  HM.bind (α := Addr) (HM.nonnil p0) fun (x1 : Addr) =>
  HM.bind (α := Option Nat) (HM.load1 .map (Addr.add x1 1)) fun (x2 : Option Nat) =>
  HM.bind (α := Value) (HM.call1 Tryd.prog (.one .any) 56 #[.map x2]) fun (x3 : Value) =>
  HM.bind (α := Slc) (HM.call1 Tryd.prog (.one .slc) 55 #[x3]) fun (x4 : Slc) =>
  HM.bind (α := Slc × Int × Unit) (HM.loop (σ := Slc × Int × Unit) (τ := Slc × Int × Unit) (fun (x6 : Slc × Int × Unit) =>
  HM.ite (decide (x6.2.1 < (((x4.len : Nat) : Int) : Int))) (
  HM.bind (α := Addr) (HM.idx x4.a x4.len x6.2.1 1) fun (x7 : Addr) =>
  HM.bind (α := Int) (HM.load1 (.int .i64) x7) fun (x8 : Int) =>
  HM.bind (α := Addr) (HM.nonnil p0) fun (x9 : Addr) =>
  HM.bind (α := Option Nat) (HM.load1 .map (Addr.add x9 1)) fun (x10 : Option Nat) =>
  HM.bind (α := Option Addr × Bool) (HM.lookup (Instr.sameNow (.int .i64)) (.pointer none) (.one .ptr) x10 (.int .i64 x8)) fun (x11 : Option Addr × Bool) =>
  HM.bind (α := Addr) (HM.nonnil x11.1) fun (x12 : Addr) =>
  HM.bind (α := Int × ByteArray × Bool × Bool × Unit) (HM.loadN [.int .i64, .str, .bool, .bool] (Addr.add x12 0)) fun (x13 : Int × ByteArray × Bool × Bool × Unit) =>
  HM.bind (α := Nat) (HM.new (.cells #[.int .i64 x13.1, .string x13.2.1, .bool x13.2.2.1, .bool x13.2.2.2.1] 60)) fun (x14 : Nat) =>
  HM.bind (α := Slc) (HM.append 60 4 32 #[.int .i64 0, .string (ByteArray.mk #[]), .bool false, .bool false] x6.1 1 (srcSlc 4 (⟨some ⟨x14, 0, none⟩, 1, 1⟩))) fun (x15 : Slc) =>
  HM.pure (.inl (x15, IntKind.wrap .i64 (x6.2.1 + 1), ()))) (
  HM.pure (.inr (x6.1, x6.2.1, ())))) (⟨none, 0, 0⟩, 0, ())) fun (x5 : Slc × Int × Unit) =>
  HM.pure (x5.1, ()))

theorem session_Table_List_den (p0 : Option Addr) : denFn Tryd.prog [56, 55] 33 [0, 2, 3, 5, 7, 13, 14, 15, 16] [0, 3, 5, 7, 13, 14, 15, 16] Tryd.f20.results.toList [.one .slc] (bodyOf Tryd.f20) [Kind.val (.one .ptr) p0] = session_Table_List p0 := by kernel_rfl
theorem session_Table_List_calls (p0 : Option Addr) (h : Heap) (Q : Value → Heap → Prop) (hh : session_Table_List p0 h fun x h' => Q (.slice x.1.a x.1.len x.1.cap) h') :
    HCalls Tryd.prog 20 #[.pointer p0] h Q := by
  rw [← session_Table_List_den] at hh
  exact calls_of_den Tryd.func20 (by kernel_rfl) Tryd.ntmps20 (by kernel_rfl) (fun f hf => by
      rcases List.mem_cons.1 hf with rfl | hf
      · exact Tryd.call56
      rcases List.mem_cons.1 hf with rfl | hf
      · exact Tryd.call55
      cases hf) orders hh

/-- (*aqueduct/session.Table).Find -/
def session_Table_Find (p0 : Option Addr) (p1 : ByteArray) : HM ((Int × ByteArray × Bool × Bool × Unit) × Bool × Unit) :=
  HM.bind (α := Nat) (HM.new (.cells #[.int .i64 0, .string (ByteArray.mk #[]), .bool false, .bool false] 60)) fun (x1 : Nat) =>
  HM.bind (α := Option Addr) (HM.call1 Tryd.prog (.one .ptr) 46 #[.pointer p0, .string p1]) fun (x2 : Option Addr) =>
  HM.bind (α := (Int × ByteArray × Bool × Bool × Unit) × Bool × Unit) (HM.callN Tryd.prog [.agg [.int .i64, .str, .bool, .bool], .one .bool] 57 #[.pointer x2]) fun (x3 : (Int × ByteArray × Bool × Bool × Unit) × Bool × Unit) =>
  HM.bind (α := Unit) (HM.storeN ⟨x1, 0, none⟩ [.int .i64 x3.1.1, .string x3.1.2.1, .bool x3.1.2.2.1, .bool x3.1.2.2.2.1]) fun (_ : Unit) =>
  HM.bind (α := Int × ByteArray × Bool × Bool × Unit) (HM.loadN [.int .i64, .str, .bool, .bool] ⟨x1, 0, none⟩) fun (x4 : Int × ByteArray × Bool × Bool × Unit) =>
  HM.pure ((x4.1, x4.2.1, x4.2.2.1, x4.2.2.2.1, ()), x3.2.1, ())

theorem session_Table_Find_den (p0 : Option Addr) (p1 : ByteArray) : denFn Tryd.prog [46, 57] 12 [0, 1, 4, 5] [0, 1, 4] Tryd.f21.results.toList [.agg [.int .i64, .str, .bool, .bool], .one .bool] (bodyOf Tryd.f21) [Kind.val (.one .ptr) p0, Kind.val (.one .str) p1] = session_Table_Find p0 p1 := by kernel_rfl
theorem session_Table_Find_calls (p0 : Option Addr) (p1 : ByteArray) (h : Heap) (Q : Value → Heap → Prop) (hh : session_Table_Find p0 p1 h fun x h' => Q (.tuple #[.agg #[.int .i64 x.1.1, .string x.1.2.1, .bool x.1.2.2.1, .bool x.1.2.2.2.1], .bool x.2.1]) h') :
    HCalls Tryd.prog 21 #[.pointer p0, .string p1] h Q := by
  rw [← session_Table_Find_den] at hh
  exact calls_of_den Tryd.func21 (by kernel_rfl) Tryd.ntmps21 (by kernel_rfl) (fun f hf => by
      rcases List.mem_cons.1 hf with rfl | hf
      · exact Tryd.call46
      rcases List.mem_cons.1 hf with rfl | hf
      · exact Tryd.call57
      cases hf) orders hh

/-- (*aqueduct/session.Table).Get -/
def session_Table_Get (p0 : Option Addr) (p1 : Int) : HM ((Int × ByteArray × Bool × Bool × Unit) × Bool × Unit) :=
  HM.bind (α := Nat) (HM.new (.cells #[.int .i64 0, .string (ByteArray.mk #[]), .bool false, .bool false] 60)) fun (x1 : Nat) =>
  HM.bind (α := Option Addr) (HM.call1 Tryd.prog (.one .ptr) 49 #[.pointer p0, .int .i64 p1]) fun (x2 : Option Addr) =>
  HM.bind (α := (Int × ByteArray × Bool × Bool × Unit) × Bool × Unit) (HM.callN Tryd.prog [.agg [.int .i64, .str, .bool, .bool], .one .bool] 57 #[.pointer x2]) fun (x3 : (Int × ByteArray × Bool × Bool × Unit) × Bool × Unit) =>
  HM.bind (α := Unit) (HM.storeN ⟨x1, 0, none⟩ [.int .i64 x3.1.1, .string x3.1.2.1, .bool x3.1.2.2.1, .bool x3.1.2.2.2.1]) fun (_ : Unit) =>
  HM.bind (α := Int × ByteArray × Bool × Bool × Unit) (HM.loadN [.int .i64, .str, .bool, .bool] ⟨x1, 0, none⟩) fun (x4 : Int × ByteArray × Bool × Bool × Unit) =>
  HM.pure ((x4.1, x4.2.1, x4.2.2.1, x4.2.2.2.1, ()), x3.2.1, ())

theorem session_Table_Get_den (p0 : Option Addr) (p1 : Int) : denFn Tryd.prog [49, 57] 12 [0, 1, 4, 5] [0, 1, 4] Tryd.f22.results.toList [.agg [.int .i64, .str, .bool, .bool], .one .bool] (bodyOf Tryd.f22) [Kind.val (.one .ptr) p0, Kind.val (.one (.int .i64)) p1] = session_Table_Get p0 p1 := by kernel_rfl
theorem session_Table_Get_calls (p0 : Option Addr) (p1 : Int) (h : Heap) (Q : Value → Heap → Prop) (hh : session_Table_Get p0 p1 h fun x h' => Q (.tuple #[.agg #[.int .i64 x.1.1, .string x.1.2.1, .bool x.1.2.2.1, .bool x.1.2.2.2.1], .bool x.2.1]) h') :
    HCalls Tryd.prog 22 #[.pointer p0, .int .i64 p1] h Q := by
  rw [← session_Table_Get_den] at hh
  exact calls_of_den Tryd.func22 (by kernel_rfl) Tryd.ntmps22 (by kernel_rfl) (fun f hf => by
      rcases List.mem_cons.1 hf with rfl | hf
      · exact Tryd.call49
      rcases List.mem_cons.1 hf with rfl | hf
      · exact Tryd.call57
      cases hf) orders hh

/-- (*aqueduct/session.Table).In -/
def session_Table_In (p0 : Option Addr) (p1 : Int) : HM (Option Addr × Unit) :=
  HM.bind (α := Option Addr) (HM.call1 Tryd.prog (.one .ptr) 49 #[.pointer p0, .int .i64 p1]) fun (x1 : Option Addr) =>
  HM.ite (!(Option.isNone x1)) (
  HM.bind (α := Addr) (HM.nonnil x1) fun (x2 : Addr) =>
  HM.bind (α := Option Addr) (HM.load1 .ptr (Addr.add x2 5)) fun (x3 : Option Addr) =>
  HM.pure (x3, ())) (
  HM.pure (none, ()))

theorem session_Table_In_den (p0 : Option Addr) (p1 : Int) : denFn Tryd.prog [49] 15 [0, 1, 4, 5, 10] [0, 1, 5, 10] Tryd.f23.results.toList [.one .ptr] (bodyOf Tryd.f23) [Kind.val (.one .ptr) p0, Kind.val (.one (.int .i64)) p1] = session_Table_In p0 p1 := by kernel_rfl
theorem session_Table_In_calls (p0 : Option Addr) (p1 : Int) (h : Heap) (Q : Value → Heap → Prop) (hh : session_Table_In p0 p1 h fun x h' => Q (.pointer x.1) h') :
    HCalls Tryd.prog 23 #[.pointer p0, .int .i64 p1] h Q := by
  rw [← session_Table_In_den] at hh
  exact calls_of_den Tryd.func23 (by kernel_rfl) Tryd.ntmps23 (by kernel_rfl) (fun f hf => by
      rcases List.mem_cons.1 hf with rfl | hf
      · exact Tryd.call49
      cases hf) orders hh

/-- aqueduct/aqueductref18.End -/
def ref18_End (p0 : Option Addr) (p1 : Int) : HM (Bool × Unit) :=
  HM.bind (α := Option Addr) (HM.call1 Tryd.prog (.one .ptr) 25 #[.pointer p0, .int .i64 p1]) fun (x1 : Option Addr) =>
  HM.ite (Option.isNone x1) (
  HM.pure (false, ())) (
  HM.bind (α := Addr) (HM.nonnil x1) fun (x2 : Addr) =>
  HM.bind (α := Bool) (HM.load1 .bool (Addr.add x2 3)) fun (x3 : Bool) =>
  HM.ite (!x3) (
  HM.pure (false, ())) (
  HM.bind (α := Addr) (HM.nonnil x1) fun (x4 : Addr) =>
  HM.bind (α := Unit) (HM.store1 (Addr.add x4 3) (.bool false)) fun (_ : Unit) =>
  HM.bind (α := Addr) (HM.nonnil x1) fun (x5 : Addr) =>
  HM.bind (α := Option Addr) (HM.load1 .ptr (Addr.add x5 4)) fun (x6 : Option Addr) =>
  HM.bind (α := Addr) (HM.nonnil x6) fun (x7 : Addr) =>
  HM.bind (α := Unit) (HM.store1 (Addr.add x7 2) (.bool false)) fun (_ : Unit) =>
  HM.bind (α := Addr) (HM.nonnil x1) fun (x8 : Addr) =>
  HM.bind (α := Bool) (HM.load1 .bool (Addr.add x8 2)) fun (x9 : Bool) =>
  HM.ite (!x9) (
  HM.bind (α := Unit) (HM.callN Tryd.prog [] 58 #[.pointer p0, .int .i64 p1]) fun (x10 : Unit) =>
  HM.pure (true, ())) (
  HM.pure (false, ()))))

theorem ref18_End_den (p0 : Option Addr) (p1 : Int) : denFn Tryd.prog [25, 58] 33 [0, 1, 4, 5, 10, 15, 29] [0, 1, 5, 10, 15, 29] Tryd.f24.results.toList [.one .bool] (bodyOf Tryd.f24) [Kind.val (.one .ptr) p0, Kind.val (.one (.int .i64)) p1] = ref18_End p0 p1 := by kernel_rfl
theorem ref18_End_calls (p0 : Option Addr) (p1 : Int) (h : Heap) (Q : Value → Heap → Prop) (hh : ref18_End p0 p1 h fun x h' => Q (.bool x.1) h') :
    HCalls Tryd.prog 24 #[.pointer p0, .int .i64 p1] h Q := by
  rw [← ref18_End_den] at hh
  exact calls_of_den Tryd.func24 (by kernel_rfl) Tryd.ntmps24 (by kernel_rfl) (fun f hf => by
      rcases List.mem_cons.1 hf with rfl | hf
      · exact Tryd.call25
      rcases List.mem_cons.1 hf with rfl | hf
      · exact Tryd.call58
      cases hf) orders hh

/-- aqueduct/aqueductref18.Get -/
def ref18_Get (p0 : Option Addr) (p1 : Int) : HM (Option Addr × Unit) :=
  HM.bind (α := (Int × Unit) ⊕ (Option Addr × Unit)) (HM.loop (σ := Int × Unit) (τ := (Int × Unit) ⊕ (Option Addr × Unit)) (fun (x2 : Int × Unit) =>
  HM.bind (α := Addr) (HM.nonnil p0) fun (x3 : Addr) =>
  HM.bind (α := Slc) (HM.load1 .slc (Addr.add x3 1)) fun (x4 : Slc) =>
  HM.ite (decide (x2.1 < (((x4.len : Nat) : Int) : Int))) (
  HM.bind (α := Addr) (HM.nonnil p0) fun (x5 : Addr) =>
  HM.bind (α := Slc) (HM.load1 .slc (Addr.add x5 1)) fun (x6 : Slc) =>
  HM.bind (α := Addr) (HM.idx x6.a x6.len x2.1 1) fun (x7 : Addr) =>
  HM.bind (α := Option Addr) (HM.load1 .ptr x7) fun (x8 : Option Addr) =>
  HM.bind (α := Addr) (HM.nonnil x8) fun (x9 : Addr) =>
  HM.bind (α := Int) (HM.load1 (.int .i64) (Addr.add x9 0)) fun (x10 : Int) =>
  HM.ite (x10 == p1) (
  HM.bind (α := Addr) (HM.nonnil p0) fun (x11 : Addr) =>
  HM.bind (α := Slc) (HM.load1 .slc (Addr.add x11 1)) fun (x12 : Slc) =>
  HM.bind (α := Addr) (HM.idx x12.a x12.len x2.1 1) fun (x13 : Addr) =>
  HM.bind (α := Option Addr) (HM.load1 .ptr x13) fun (x14 : Option Addr) =>
  HM.pure (.inr (.inr (x14, ())))) (
  HM.pure (.inl (IntKind.wrap .i64 (x2.1 + 1), ())))) (
  HM.pure (.inr (.inl (x2.1, ()))))) (0, ())) (Sum.elim (fun (x1 : Int × Unit) =>
  HM.pure (none, ())) HM.pure)

theorem ref18_Get_den (p0 : Option Addr) (p1 : Int) : denFn Tryd.prog [] 34 [0, 1, 4, 5, 12, 26] [0, 1, 5, 12, 26] Tryd.f25.results.toList [.one .ptr] (bodyOf Tryd.f25) [Kind.val (.one .ptr) p0, Kind.val (.one (.int .i64)) p1] = ref18_Get p0 p1 := by kernel_rfl
theorem ref18_Get_calls (p0 : Option Addr) (p1 : Int) (h : Heap) (Q : Value → Heap → Prop) (hh : ref18_Get p0 p1 h fun x h' => Q (.pointer x.1) h') :
    HCalls Tryd.prog 25 #[.pointer p0, .int .i64 p1] h Q := by
  rw [← ref18_Get_den] at hh
  exact calls_of_den Tryd.func25 (by kernel_rfl) Tryd.ntmps25 (by kernel_rfl) (fun f hf => by cases hf) orders hh

/-- aqueduct/aqueductref14.Send -/
def ref14_Send (p0 : Option Addr) (p1 : ByteArray × ByteArray × Int × Bool × ByteArray × Unit) : HM (Slc × Int × Unit) :=
  HM.bind (α := Nat) (HM.new (.cells #[.string p1.1, .string p1.2.1, .int .i64 p1.2.2.1, .bool p1.2.2.2.1, .string p1.2.2.2.2.1] 82)) fun (x1 : Nat) =>
  HM.bind (α := Bool × Unit) (HM.bind (α := Int) (HM.load1 (.int .i64) (Addr.add ⟨x1, 0, none⟩ 2)) fun (x2 : Int) =>
  HM.ite (decide (x2 < (0 : Int))) (
  HM.pure (true, ())) (
  HM.bind (α := Int) (HM.load1 (.int .i64) (Addr.add ⟨x1, 0, none⟩ 2)) fun (x3 : Int) =>
  HM.pure (decide (2 < (x3 : Int)), ()))) fun (x4 : Bool × Unit) =>
  HM.ite x4.1 (
  HM.pure (⟨none, 0, 0⟩, 155, ())) (
  HM.bind (α := Bool × Unit) (HM.bind (α := Int) (HM.load1 (.int .i64) (Addr.add ⟨x1, 0, none⟩ 2)) fun (x5 : Int) =>
  HM.ite (x5 == 0) (
  HM.bind (α := Addr) (HM.nonnil p0) fun (x6 : Addr) =>
  HM.bind (α := Bool) (HM.load1 .bool (Addr.add x6 2)) fun (x7 : Bool) =>
  HM.pure (!x7, ())) (
  HM.pure (false, ()))) fun (x8 : Bool × Unit) =>
  HM.ite x8.1 (
  HM.pure (⟨none, 0, 0⟩, 0, ())) (
  HM.bind (α := Addr) (HM.nonnil p0) fun (x9 : Addr) =>
  HM.bind (α := Slc) (HM.load1 .slc (Addr.add x9 4)) fun (x10 : Slc) =>
  HM.ite (decide (256 ≤ (((x10.len : Nat) : Int) : Int))) (
  HM.pure (⟨none, 0, 0⟩, 151, ())) (
  HM.bind (α := Addr) (HM.nonnil p0) fun (x11 : Addr) =>
  HM.bind (α := Slc) (HM.load1 .slc (Addr.add x11 4)) fun (x12 : Slc) =>
  HM.bind (α := ByteArray × ByteArray × Int × Bool × ByteArray × Unit) (HM.loadN [.str, .str, .int .i64, .bool, .str] ⟨x1, 0, none⟩) fun (x13 : ByteArray × ByteArray × Int × Bool × ByteArray × Unit) =>
  HM.bind (α := Nat) (HM.new (.cells #[.string x13.1, .string x13.2.1, .int .i64 x13.2.2.1, .bool x13.2.2.2.1, .string x13.2.2.2.2.1] 82)) fun (x14 : Nat) =>
  HM.bind (α := Slc) (HM.load1 .slc (Addr.add x11 4)) fun (x15 : Slc) =>
  HM.req ((.slice x15.a x15.len x15.cap : Value) = .slice x12.a x12.len x12.cap) <|
  HM.bind (α := Slc) (HM.append 82 5 64 #[.string (ByteArray.mk #[]), .string (ByteArray.mk #[]), .int .i64 0, .bool false, .string (ByteArray.mk #[])] x12 1 (srcSlc 5 (⟨some ⟨x14, 0, none⟩, 1, 1⟩))) fun (x16 : Slc) =>
  HM.bind (α := Addr) (HM.nonnil p0) fun (x17 : Addr) =>
  HM.bind (α := Unit) (HM.store1 (Addr.add x17 4) (.slice x16.a x16.len x16.cap)) fun (_ : Unit) =>
  HM.bind (α := Slc) (HM.call1 Tryd.prog (.one .slc) 59 #[.pointer p0, .slice none 0 0]) fun (x18 : Slc) =>
  HM.pure (x18, 0, ()))))

theorem ref14_Send_den (p0 : Option Addr) (p1 : ByteArray × ByteArray × Int × Bool × ByteArray × Unit) : denFn Tryd.prog [59] 44 [0, 1, 3, 4, 5, 6, 14, 24, 30] [0, 1, 3, 6, 14, 24, 30] Tryd.f26.results.toList [.one .slc, .one (.int .i64)] (bodyOf Tryd.f26) [Kind.val (.one .ptr) p0, Kind.val (.agg [.str, .str, .int .i64, .bool, .str]) p1] = ref14_Send p0 p1 := by kernel_rfl
theorem ref14_Send_calls (p0 : Option Addr) (p1 : ByteArray × ByteArray × Int × Bool × ByteArray × Unit) (h : Heap) (Q : Value → Heap → Prop) (hh : ref14_Send p0 p1 h fun x h' => Q (.tuple #[.slice x.1.a x.1.len x.1.cap, .int .i64 x.2.1]) h') :
    HCalls Tryd.prog 26 #[.pointer p0, .agg #[.string p1.1, .string p1.2.1, .int .i64 p1.2.2.1, .bool p1.2.2.2.1, .string p1.2.2.2.2.1]] h Q := by
  rw [← ref14_Send_den] at hh
  exact calls_of_den Tryd.func26 (by kernel_rfl) Tryd.ntmps26 (by kernel_rfl) (fun f hf => by
      rcases List.mem_cons.1 hf with rfl | hf
      · exact Tryd.call59
      cases hf) orders hh

/-- (*aqueduct/inflow.Flow).Open -/
def inflow_Flow_Open (p0 : Option Addr) : HM (Slc × Unit) :=
  HM.ite (Option.isNone p0) (
  HM.pure (⟨none, 0, 0⟩, ())) (
  HM.bind (α := Addr) (HM.nonnil p0) fun (x1 : Addr) =>
  HM.bind (α := Option Addr) (HM.load1 .ptr (Addr.add x1 0)) fun (x2 : Option Addr) =>
  HM.bind (α := Slc) (HM.call1 Tryd.prog (.one .slc) 60 #[.pointer x2]) fun (x3 : Slc) =>
  HM.pure (x3, ()))

theorem inflow_Flow_Open_den (p0 : Option Addr) : denFn Tryd.prog [60] 10 [0, 2, 4] [0, 4] Tryd.f27.results.toList [.one .slc] (bodyOf Tryd.f27) [Kind.val (.one .ptr) p0] = inflow_Flow_Open p0 := by kernel_rfl
theorem inflow_Flow_Open_calls (p0 : Option Addr) (h : Heap) (Q : Value → Heap → Prop) (hh : inflow_Flow_Open p0 h fun x h' => Q (.slice x.1.a x.1.len x.1.cap) h') :
    HCalls Tryd.prog 27 #[.pointer p0] h Q := by
  rw [← inflow_Flow_Open_den] at hh
  exact calls_of_den Tryd.func27 (by kernel_rfl) Tryd.ntmps27 (by kernel_rfl) (fun f hf => by
      rcases List.mem_cons.1 hf with rfl | hf
      · exact Tryd.call60
      cases hf) orders hh

/-- aqueduct/aqueductref18.Begin -/
def ref18_Begin (p0 : Option Addr) (p1 : ByteArray) (p2 : Bool) (p3 : Bool) : HM (Int × Bool × Int × Unit) :=
  HM.bind (α := Int × Bool × Unit) (HM.callN Tryd.prog [.one (.int .i64), .one .bool] 61 #[.string p1]) fun (x1 : Int × Bool × Unit) =>
  HM.bind (α := Bool × Unit) (HM.ite x1.2.1 (
  HM.pure (true, ())) (
  HM.ite (((ByteArray.size p1 : Nat) : Int) == 0) (
  HM.pure (true, ())) (
  HM.pure (decide (64 < (((ByteArray.size p1 : Nat) : Int) : Int)), ())))) fun (x2 : Bool × Unit) =>
  HM.ite x2.1 (
  HM.pure (0, false, 133, ())) (
  HM.bind (α := Option Addr) (HM.call1 Tryd.prog (.one .ptr) 30 #[.pointer p0, .string p1]) fun (x3 : Option Addr) =>
  HM.bind (α := Bool × Unit) (HM.ite (!(Option.isNone x3)) (
  HM.pure (!p2, ())) (
  HM.pure (false, ()))) fun (x4 : Bool × Unit) =>
  HM.ite x4.1 (
  HM.bind (α := Addr) (HM.nonnil x3) fun (x5 : Addr) =>
  HM.bind (α := Unit) (HM.store1 (Addr.add x5 3) (.bool true)) fun (_ : Unit) =>
  HM.bind (α := Addr) (HM.nonnil x3) fun (x6 : Addr) =>
  HM.bind (α := Unit) (HM.store1 (Addr.add x6 2) (.bool p3)) fun (_ : Unit) =>
  HM.bind (α := Addr) (HM.nonnil x3) fun (x7 : Addr) =>
  HM.bind (α := Int) (HM.load1 (.int .i64) (Addr.add x7 0)) fun (x8 : Int) =>
  HM.pure (x8, true, 0, ())) (
  HM.bind (α := (Unit) ⊕ (Int × Bool × Int × Unit)) (HM.ite (!(Option.isNone x3)) (
  HM.bind (α := Addr) (HM.nonnil x3) fun (x10 : Addr) =>
  HM.bind (α := Int) (HM.load1 (.int .i64) (Addr.add x10 0)) fun (x11 : Int) =>
  HM.bind (α := Unit) (HM.callN Tryd.prog [] 58 #[.pointer p0, .int .i64 x11]) fun (x12 : Unit) =>
  HM.pure (.inl ())) (
  HM.bind (α := Addr) (HM.nonnil p0) fun (x13 : Addr) =>
  HM.bind (α := Slc) (HM.load1 .slc (Addr.add x13 1)) fun (x14 : Slc) =>
  HM.ite (decide (32 ≤ (((x14.len : Nat) : Int) : Int))) (
  HM.pure (.inr (0, false, 151, ()))) (
  HM.pure (.inl ())))) (Sum.elim (fun (x9 : Unit) =>
  HM.bind (α := Addr) (HM.nonnil p0) fun (x15 : Addr) =>
  HM.bind (α := Int) (HM.load1 (.int .i64) (Addr.add x15 0)) fun (x16 : Int) =>
  HM.bind (α := Addr) (HM.nonnil p0) fun (x17 : Addr) =>
  HM.bind (α := Unit) (HM.store1 (Addr.add x17 0) (.int .i64 (IntKind.wrap .i64 (x16 + 1)))) fun (_ : Unit) =>
  HM.bind (α := Option Addr) (HM.call1 Tryd.prog (.one .ptr) 62 #[.int .i64 64]) fun (x18 : Option Addr) =>
  HM.bind (α := Option Addr) (HM.call1 Tryd.prog (.one .ptr) 63 #[.int .i64 64]) fun (x19 : Option Addr) =>
  HM.bind (α := Addr) (HM.nonnil p0) fun (x20 : Addr) =>
  HM.bind (α := Slc) (HM.load1 .slc (Addr.add x20 1)) fun (x21 : Slc) =>
  HM.bind (α := Addr) (HM.nonnil p0) fun (x22 : Addr) =>
  HM.bind (α := Int) (HM.load1 (.int .i64) (Addr.add x22 0)) fun (x23 : Int) =>
  HM.bind (α := Nat) (HM.new (.cells #[.int .i64 x23, .string p1, .bool p3, .bool true, .pointer x18, .pointer x19] 81)) fun (x24 : Nat) =>
  HM.bind (α := Slc) (HM.load1 .slc (Addr.add x20 1)) fun (x25 : Slc) =>
  HM.req ((.slice x25.a x25.len x25.cap : Value) = .slice x21.a x21.len x21.cap) <|
  HM.bind (α := Nat) (HM.new (.cells #[.pointer (some ⟨x24, 0, none⟩)] 73)) fun (x26 : Nat) =>
  HM.bind (α := Slc) (HM.load1 .slc (Addr.add x20 1)) fun (x27 : Slc) =>
  HM.req ((.slice x27.a x27.len x27.cap : Value) = .slice x21.a x21.len x21.cap) <|
  HM.bind (α := Slc) (HM.append 73 1 8 #[.pointer none] x21 1 (srcSlc 1 (⟨some ⟨x26, 0, none⟩, 1, 1⟩))) fun (x28 : Slc) =>
  HM.bind (α := Addr) (HM.nonnil p0) fun (x29 : Addr) =>
  HM.bind (α := Unit) (HM.store1 (Addr.add x29 1) (.slice x28.a x28.len x28.cap)) fun (_ : Unit) =>
  HM.bind (α := Addr) (HM.nonnil p0) fun (x30 : Addr) =>
  HM.bind (α := Int) (HM.load1 (.int .i64) (Addr.add x30 0)) fun (x31 : Int) =>
  HM.pure (x31, false, 0, ())) HM.pure)))

theorem ref18_Begin_den (p0 : Option Addr) (p1 : ByteArray) (p2 : Bool) (p3 : Bool) : denFn Tryd.prog [61, 30, 58, 62, 63] 99 [0, 1, 2, 3, 8, 9, 10, 12, 13, 14, 15, 31, 40, 53, 65] [0, 1, 2, 3, 12, 13, 14, 15, 31, 40, 53, 65] Tryd.f28.results.toList [.one (.int .i64), .one .bool, .one (.int .i64)] (bodyOf Tryd.f28) [Kind.val (.one .ptr) p0, Kind.val (.one .str) p1, Kind.val (.one .bool) p2, Kind.val (.one .bool) p3] = ref18_Begin p0 p1 p2 p3 := by kernel_rfl
theorem ref18_Begin_calls (p0 : Option Addr) (p1 : ByteArray) (p2 : Bool) (p3 : Bool) (h : Heap) (Q : Value → Heap → Prop) (hh : ref18_Begin p0 p1 p2 p3 h fun x h' => Q (.tuple #[.int .i64 x.1, .bool x.2.1, .int .i64 x.2.2.1]) h') :
    HCalls Tryd.prog 28 #[.pointer p0, .string p1, .bool p2, .bool p3] h Q := by
  rw [← ref18_Begin_den] at hh
  exact calls_of_den Tryd.func28 (by kernel_rfl) Tryd.ntmps28 (by kernel_rfl) (fun f hf => by
      rcases List.mem_cons.1 hf with rfl | hf
      · exact Tryd.call61
      rcases List.mem_cons.1 hf with rfl | hf
      · exact Tryd.call30
      rcases List.mem_cons.1 hf with rfl | hf
      · exact Tryd.call58
      rcases List.mem_cons.1 hf with rfl | hf
      · exact Tryd.call62
      rcases List.mem_cons.1 hf with rfl | hf
      · exact Tryd.call63
      cases hf) orders hh

/-- aqueduct/aqueductlaw18.same -/
def law18_same (p0 : Int × ByteArray × Bool × Bool × Unit) (p1 : Bool) (p2 : Option Addr) : HM (Bool × Unit) :=
  HM.bind (α := Nat) (HM.new (.cells #[.int .i64 p0.1, .string p0.2.1, .bool p0.2.2.1, .bool p0.2.2.2.1] 60)) fun (x1 : Nat) =>
  HM.bind (α := Bool × Unit) (HM.ite (!p1) (
  HM.pure (true, ())) (
  HM.pure (Option.isNone p2, ()))) fun (x2 : Bool × Unit) =>
  HM.ite x2.1 (
  HM.bind (α := Bool × Unit) (HM.ite (!p1) (
  HM.pure (Option.isNone p2, ())) (
  HM.pure (false, ()))) fun (x3 : Bool × Unit) =>
  HM.pure (x3.1, ())) (
  HM.bind (α := Int × ByteArray × Bool × Bool × Unit) (HM.loadN [.int .i64, .str, .bool, .bool] ⟨x1, 0, none⟩) fun (x4 : Int × ByteArray × Bool × Bool × Unit) =>
  HM.bind (α := Addr) (HM.nonnil p2) fun (x5 : Addr) =>
  HM.bind (α := Int) (HM.load1 (.int .i64) (Addr.add x5 0)) fun (x6 : Int) =>
  HM.bind (α := Addr) (HM.nonnil p2) fun (x7 : Addr) =>
  HM.bind (α := ByteArray) (HM.load1 .str (Addr.add x7 1)) fun (x8 : ByteArray) =>
  HM.bind (α := Addr) (HM.nonnil p2) fun (x9 : Addr) =>
  HM.bind (α := Bool) (HM.load1 .bool (Addr.add x9 2)) fun (x10 : Bool) =>
  HM.bind (α := Addr) (HM.nonnil p2) fun (x11 : Addr) =>
  HM.bind (α := Bool) (HM.load1 .bool (Addr.add x11 3)) fun (x12 : Bool) =>
  HM.pure ((x4.1 == x6) && ((decide (x4.2.1 = x8)) && ((x4.2.2.1 == x10) && ((x4.2.2.2.1 == x12) && true))), ()))

theorem law18_same_den (p0 : Int × ByteArray × Bool × Bool × Unit) (p1 : Bool) (p2 : Option Addr) : denFn Tryd.prog [] 38 [0, 1, 2, 3, 6, 12] [0, 1, 2, 3, 12] Tryd.f29.results.toList [.one .bool] (bodyOf Tryd.f29) [Kind.val (.agg [.int .i64, .str, .bool, .bool]) p0, Kind.val (.one .bool) p1, Kind.val (.one .ptr) p2] = law18_same p0 p1 p2 := by kernel_rfl
theorem law18_same_calls (p0 : Int × ByteArray × Bool × Bool × Unit) (p1 : Bool) (p2 : Option Addr) (h : Heap) (Q : Value → Heap → Prop) (hh : law18_same p0 p1 p2 h fun x h' => Q (.bool x.1) h') :
    HCalls Tryd.prog 29 #[.agg #[.int .i64 p0.1, .string p0.2.1, .bool p0.2.2.1, .bool p0.2.2.2.1], .bool p1, .pointer p2] h Q := by
  rw [← law18_same_den] at hh
  exact calls_of_den Tryd.func29 (by kernel_rfl) Tryd.ntmps29 (by kernel_rfl) (fun f hf => by cases hf) orders hh

/-- aqueduct/aqueductref18.Find -/
def ref18_Find (p0 : Option Addr) (p1 : ByteArray) : HM (Option Addr × Unit) :=
  HM.bind (α := (Int × Unit) ⊕ (Option Addr × Unit)) (HM.loop (σ := Int × Unit) (τ := (Int × Unit) ⊕ (Option Addr × Unit)) (fun (x2 : Int × Unit) =>
  HM.bind (α := Addr) (HM.nonnil p0) fun (x3 : Addr) =>
  HM.bind (α := Slc) (HM.load1 .slc (Addr.add x3 1)) fun (x4 : Slc) =>
  HM.ite (decide (x2.1 < (((x4.len : Nat) : Int) : Int))) (
  HM.bind (α := Addr) (HM.nonnil p0) fun (x5 : Addr) =>
  HM.bind (α := Slc) (HM.load1 .slc (Addr.add x5 1)) fun (x6 : Slc) =>
  HM.bind (α := Addr) (HM.idx x6.a x6.len x2.1 1) fun (x7 : Addr) =>
  HM.bind (α := Option Addr) (HM.load1 .ptr x7) fun (x8 : Option Addr) =>
  HM.bind (α := Addr) (HM.nonnil x8) fun (x9 : Addr) =>
  HM.bind (α := ByteArray) (HM.load1 .str (Addr.add x9 1)) fun (x10 : ByteArray) =>
  HM.ite (decide (x10 = p1)) (
  HM.bind (α := Addr) (HM.nonnil p0) fun (x11 : Addr) =>
  HM.bind (α := Slc) (HM.load1 .slc (Addr.add x11 1)) fun (x12 : Slc) =>
  HM.bind (α := Addr) (HM.idx x12.a x12.len x2.1 1) fun (x13 : Addr) =>
  HM.bind (α := Option Addr) (HM.load1 .ptr x13) fun (x14 : Option Addr) =>
  HM.pure (.inr (.inr (x14, ())))) (
  HM.pure (.inl (IntKind.wrap .i64 (x2.1 + 1), ())))) (
  HM.pure (.inr (.inl (x2.1, ()))))) (0, ())) (Sum.elim (fun (x1 : Int × Unit) =>
  HM.pure (none, ())) HM.pure)

theorem ref18_Find_den (p0 : Option Addr) (p1 : ByteArray) : denFn Tryd.prog [] 34 [0, 1, 4, 5, 12, 26] [0, 1, 5, 12, 26] Tryd.f30.results.toList [.one .ptr] (bodyOf Tryd.f30) [Kind.val (.one .ptr) p0, Kind.val (.one .str) p1] = ref18_Find p0 p1 := by kernel_rfl
theorem ref18_Find_calls (p0 : Option Addr) (p1 : ByteArray) (h : Heap) (Q : Value → Heap → Prop) (hh : ref18_Find p0 p1 h fun x h' => Q (.pointer x.1) h') :
    HCalls Tryd.prog 30 #[.pointer p0, .string p1] h Q := by
  rw [← ref18_Find_den] at hh
  exact calls_of_den Tryd.func30 (by kernel_rfl) Tryd.ntmps30 (by kernel_rfl) (fun f hf => by cases hf) orders hh

/-- aqueduct/tags.New -/
def tags_New (p0 : Int) : HM (Option Addr × Unit) :=
  HM.bind (α := Nat) (HM.new (.map #[] 0)) fun (x1 : Nat) =>
  HM.bind (α := Nat) (HM.new (.cells #[.int .i64 (if 0 < (p0 : Int) then p0 else 0), .map (some x1)] 172)) fun (x2 : Nat) =>
  HM.pure (some ⟨x2, 0, none⟩, ())

theorem tags_New_den (p0 : Int) : denFn Tryd.prog [] 8 [0, 2] [0] Tryd.f31.results.toList [.one .ptr] (bodyOf Tryd.f31) [Kind.val (.one (.int .i64)) p0] = tags_New p0 := by kernel_rfl
theorem tags_New_calls (p0 : Int) (h : Heap) (Q : Value → Heap → Prop) (hh : tags_New p0 h fun x h' => Q (.pointer x.1) h') :
    HCalls Tryd.prog 31 #[.int .i64 p0] h Q := by
  rw [← tags_New_den] at hh
  exact calls_of_den Tryd.func31 (by kernel_rfl) Tryd.ntmps31 (by kernel_rfl) (fun f hf => by cases hf) orders hh

/-- (*aqueduct/tags.Set).Add -/
def tags_Set_Add (p0 : Option Addr) (p1 : Int × Int × Unit) : HM (Bool × Int × Unit) :=
  HM.bind (α := Nat) (HM.new (.cells #[.int .i64 p1.1, .int .i64 p1.2.1] 107)) fun (x1 : Nat) =>
  HM.ite (Option.isNone p0) (
  HM.pure (false, 128, ())) (
  HM.bind (α := Int × Int × Unit) (HM.loadN [.int .i64, .int .i64] ⟨x1, 0, none⟩) fun (x2 : Int × Int × Unit) =>
  HM.bind (α := Bool) (HM.call1 Tryd.prog (.one .bool) 64 #[.agg #[.int .i64 x2.1, .int .i64 x2.2.1]]) fun (x3 : Bool) =>
  HM.ite (!x3) (
  HM.pure (false, 129, ())) (
  HM.bind (α := Addr) (HM.nonnil p0) fun (x4 : Addr) =>
  HM.bind (α := Option Nat) (HM.load1 .map (Addr.add x4 1)) fun (x5 : Option Nat) =>
  HM.bind (α := Int × Int × Unit) (HM.loadN [.int .i64, .int .i64] ⟨x1, 0, none⟩) fun (x6 : Int × Int × Unit) =>
  HM.req (eqTy Tryd.prog 8 107 (.agg #[.int .i64 x6.1, .int .i64 x6.2.1]) (.agg #[.int .i64 x6.1, .int .i64 x6.2.1]) = some true) <|
  HM.bind (α := Bool × Bool) (HM.lookup (eqTy Tryd.prog 8 107) (.bool false) (.one .bool) x5 (.agg #[.int .i64 x6.1, .int .i64 x6.2.1])) fun (x7 : Bool × Bool) =>
  HM.ite x7.1 (
  HM.pure (false, 0, ())) (
  HM.bind (α := Addr) (HM.nonnil p0) fun (x8 : Addr) =>
  HM.bind (α := Option Nat) (HM.load1 .map (Addr.add x8 1)) fun (x9 : Option Nat) =>
  HM.bind (α := Int) (HM.mapLen x9) fun (x10 : Int) =>
  HM.bind (α := Addr) (HM.nonnil p0) fun (x11 : Addr) =>
  HM.bind (α := Int) (HM.load1 (.int .i64) (Addr.add x11 0)) fun (x12 : Int) =>
  HM.ite (decide (x12 ≤ (x10 : Int))) (
  HM.pure (false, 151, ())) (
  HM.bind (α := Addr) (HM.nonnil p0) fun (x13 : Addr) =>
  HM.bind (α := Option Nat) (HM.load1 .map (Addr.add x13 1)) fun (x14 : Option Nat) =>
  HM.bind (α := Int × Int × Unit) (HM.loadN [.int .i64, .int .i64] ⟨x1, 0, none⟩) fun (x15 : Int × Int × Unit) =>
  HM.req (eqTy Tryd.prog 8 107 (.agg #[.int .i64 x15.1, .int .i64 x15.2.1]) (.agg #[.int .i64 x15.1, .int .i64 x15.2.1]) = some true) <|
  HM.bind (α := Unit) (HM.mapSet (eqTy Tryd.prog 8 107) x14 (.agg #[.int .i64 x15.1, .int .i64 x15.2.1]) (.bool true)) fun (_ : Unit) =>
  HM.pure (true, 0, ())))))

theorem tags_Set_Add_den (p0 : Option Addr) (p1 : Int × Int × Unit) : denFn Tryd.prog [64] 36 [0, 1, 3, 4, 5, 6, 9, 13, 20] [0, 1, 3, 6, 9, 13, 20] Tryd.f32.results.toList [.one .bool, .one (.int .u8)] (bodyOf Tryd.f32) [Kind.val (.one .ptr) p0, Kind.val (.agg [.int .i64, .int .i64]) p1] = tags_Set_Add p0 p1 := by kernel_rfl
theorem tags_Set_Add_calls (p0 : Option Addr) (p1 : Int × Int × Unit) (h : Heap) (Q : Value → Heap → Prop) (hh : tags_Set_Add p0 p1 h fun x h' => Q (.tuple #[.bool x.1, .int .u8 x.2.1]) h') :
    HCalls Tryd.prog 32 #[.pointer p0, .agg #[.int .i64 p1.1, .int .i64 p1.2.1]] h Q := by
  rw [← tags_Set_Add_den] at hh
  exact calls_of_den Tryd.func32 (by kernel_rfl) Tryd.ntmps32 (by kernel_rfl) (fun f hf => by
      rcases List.mem_cons.1 hf with rfl | hf
      · exact Tryd.call64
      cases hf) orders hh

/-- (*aqueduct/tags.Set).Len -/
def tags_Set_Len (p0 : Option Addr) : HM (Int × Unit) :=
  HM.ite (Option.isNone p0) (
  HM.pure (0, ())) (
  HM.bind (α := Addr) (HM.nonnil p0) fun (x1 : Addr) =>
  HM.bind (α := Option Nat) (HM.load1 .map (Addr.add x1 1)) fun (x2 : Option Nat) =>
  HM.bind (α := Int) (HM.mapLen x2) fun (x3 : Int) =>
  HM.pure (x3, ()))

theorem tags_Set_Len_den (p0 : Option Addr) : denFn Tryd.prog [] 10 [0, 2, 4] [0, 4] Tryd.f33.results.toList [.one (.int .i64)] (bodyOf Tryd.f33) [Kind.val (.one .ptr) p0] = tags_Set_Len p0 := by kernel_rfl
theorem tags_Set_Len_calls (p0 : Option Addr) (h : Heap) (Q : Value → Heap → Prop) (hh : tags_Set_Len p0 h fun x h' => Q (.int .i64 x.1) h') :
    HCalls Tryd.prog 33 #[.pointer p0] h Q := by
  rw [← tags_Set_Len_den] at hh
  exact calls_of_den Tryd.func33 (by kernel_rfl) Tryd.ntmps33 (by kernel_rfl) (fun f hf => by cases hf) orders hh

/-- (*aqueduct/tags.Set).Has -/
def tags_Set_Has (p0 : Option Addr) (p1 : Int × Int × Unit) : HM (Bool × Unit) :=
  HM.bind (α := Nat) (HM.new (.cells #[.int .i64 p1.1, .int .i64 p1.2.1] 107)) fun (x1 : Nat) =>
  HM.bind (α := Bool × Unit) (HM.ite (!(Option.isNone p0)) (
  HM.bind (α := Addr) (HM.nonnil p0) fun (x2 : Addr) =>
  HM.bind (α := Option Nat) (HM.load1 .map (Addr.add x2 1)) fun (x3 : Option Nat) =>
  HM.bind (α := Int × Int × Unit) (HM.loadN [.int .i64, .int .i64] ⟨x1, 0, none⟩) fun (x4 : Int × Int × Unit) =>
  HM.req (eqTy Tryd.prog 8 107 (.agg #[.int .i64 x4.1, .int .i64 x4.2.1]) (.agg #[.int .i64 x4.1, .int .i64 x4.2.1]) = some true) <|
  HM.bind (α := Bool × Bool) (HM.lookup (eqTy Tryd.prog 8 107) (.bool false) (.one .bool) x3 (.agg #[.int .i64 x4.1, .int .i64 x4.2.1])) fun (x5 : Bool × Bool) =>
  HM.pure (x5.1, ())) (
  HM.pure (false, ()))) fun (x6 : Bool × Unit) =>
  HM.pure (x6.1, ())

theorem tags_Set_Has_den (p0 : Option Addr) (p1 : Int × Int × Unit) : denFn Tryd.prog [] 15 [0, 1, 3, 4] [0, 1, 3] Tryd.f34.results.toList [.one .bool] (bodyOf Tryd.f34) [Kind.val (.one .ptr) p0, Kind.val (.agg [.int .i64, .int .i64]) p1] = tags_Set_Has p0 p1 := by kernel_rfl
theorem tags_Set_Has_calls (p0 : Option Addr) (p1 : Int × Int × Unit) (h : Heap) (Q : Value → Heap → Prop) (hh : tags_Set_Has p0 p1 h fun x h' => Q (.bool x.1) h') :
    HCalls Tryd.prog 34 #[.pointer p0, .agg #[.int .i64 p1.1, .int .i64 p1.2.1]] h Q := by
  rw [← tags_Set_Has_den] at hh
  exact calls_of_den Tryd.func34 (by kernel_rfl) Tryd.ntmps34 (by kernel_rfl) (fun f hf => by cases hf) orders hh

/-- aqueduct/aqueductlaw16.wakes -/
def law16_wakes : HM (Bool × Unit) :=
  HM.bind (α := Nat) (HM.new (.cells #[.int .i64 0, .int .i64 0, .int .i64 0, .int .i64 0] 127)) fun (x1 : Nat) =>
  HM.bind (α := Unit) (HM.storeN ⟨x1, 0, none⟩ [.int .i64 2, .int .i64 15, .int .i64 1, .int .i64 2]) fun (_ : Unit) =>
  HM.bind (α := Option Addr) (HM.call1 Tryd.prog (.one .ptr) 31 #[.int .i64 1]) fun (x2 : Option Addr) =>
  HM.bind (α := Int × Int × Unit) (HM.loadN [.int .i64, .int .i64] (Addr.add ⟨x1, 0, none⟩ 0)) fun (x3 : Int × Int × Unit) =>
  HM.bind (α := Bool × Int × Unit) (HM.callN Tryd.prog [.one .bool, .one (.int .u8)] 32 #[.pointer x2, .agg #[.int .i64 x3.1, .int .i64 x3.2.1]]) fun (x4 : Bool × Int × Unit) =>
  HM.bind (α := Int × Int × Unit) (HM.loadN [.int .i64, .int .i64] (Addr.add ⟨x1, 0, none⟩ 0)) fun (x5 : Int × Int × Unit) =>
  HM.bind (α := Bool × Int × Unit) (HM.callN Tryd.prog [.one .bool, .one (.int .u8)] 32 #[.pointer x2, .agg #[.int .i64 x5.1, .int .i64 x5.2.1]]) fun (x6 : Bool × Int × Unit) =>
  HM.bind (α := Bool × Unit) (HM.bind (α := Int × Int × Int × Int × Unit) (HM.loadN [.int .i64, .int .i64, .int .i64, .int .i64] ⟨x1, 0, none⟩) fun (x7 : Int × Int × Int × Int × Unit) =>
  HM.bind (α := ByteArray) (HM.call1 Tryd.prog (.one .str) 43 #[.agg #[.int .i64 x7.1, .int .i64 x7.2.1, .int .i64 x7.2.2.1, .int .i64 x7.2.2.2.1]]) fun (x8 : ByteArray) =>
  HM.ite (decide (x8 = (ByteArray.mk #[50, 46, 49, 53, 46, 49, 46, 50]))) (
  HM.ite x4.1 (
  HM.ite (!x6.1) (
  HM.ite (x4.2.1 == 0) (
  HM.ite (x6.2.1 == 0) (
  HM.bind (α := Int) (HM.call1 Tryd.prog (.one (.int .i64)) 33 #[.pointer x2]) fun (x9 : Int) =>
  HM.pure (x9 == 1, ())) (
  HM.pure (false, ()))) (
  HM.pure (false, ()))) (
  HM.pure (false, ()))) (
  HM.pure (false, ()))) (
  HM.pure (false, ()))) fun (x10 : Bool × Unit) =>
  HM.pure (x10.1, ())

theorem law16_wakes_den : denFn Tryd.prog [31, 32, 43, 33] 47 [0, 1, 2, 3, 4, 5, 6] [1, 2, 3, 4, 5, 6] Tryd.f35.results.toList [.one .bool] (bodyOf Tryd.f35) [] = law16_wakes := by kernel_rfl
theorem law16_wakes_calls (h : Heap) (Q : Value → Heap → Prop) (hh : law16_wakes h fun x h' => Q (.bool x.1) h') :
    HCalls Tryd.prog 35 #[] h Q := by
  rw [← law16_wakes_den] at hh
  exact calls_of_den Tryd.func35 (by kernel_rfl) Tryd.ntmps35 (by kernel_rfl) (fun f hf => by
      rcases List.mem_cons.1 hf with rfl | hf
      · exact Tryd.call31
      rcases List.mem_cons.1 hf with rfl | hf
      · exact Tryd.call32
      rcases List.mem_cons.1 hf with rfl | hf
      · exact Tryd.call43
      rcases List.mem_cons.1 hf with rfl | hf
      · exact Tryd.call33
      cases hf) orders hh

/-- aqueduct/aqueductref16.New -/
def ref16_New (p0 : Int) : HM (Option Addr × Unit) :=
  HM.bind (α := Int × Unit) (HM.ite (decide (p0 < (0 : Int))) (
  HM.pure (0, ())) (
  HM.pure (p0, ()))) fun (x1 : Int × Unit) =>
  HM.bind (α := Nat) (HM.new (.cells #[.int .i64 x1.1, .slice none 0 0] 118)) fun (x2 : Nat) =>
  HM.pure (some ⟨x2, 0, none⟩, ())

theorem ref16_New_den (p0 : Int) : denFn Tryd.prog [] 8 [0, 2, 4] [0, 4] Tryd.f36.results.toList [.one .ptr] (bodyOf Tryd.f36) [Kind.val (.one (.int .i64)) p0] = ref16_New p0 := by kernel_rfl
theorem ref16_New_calls (p0 : Int) (h : Heap) (Q : Value → Heap → Prop) (hh : ref16_New p0 h fun x h' => Q (.pointer x.1) h') :
    HCalls Tryd.prog 36 #[.int .i64 p0] h Q := by
  rw [← ref16_New_den] at hh
  exact calls_of_den Tryd.func36 (by kernel_rfl) Tryd.ntmps36 (by kernel_rfl) (fun f hf => by cases hf) orders hh

/-- aqueduct/aqueductref16.Add -/
def ref16_Add (p0 : Option Addr) (p1 : Int × Int × Unit) : HM (Bool × Int × Unit) :=
  HM.bind (α := Nat) (HM.new (.cells #[.int .i64 p1.1, .int .i64 p1.2.1] 115)) fun (x1 : Nat) =>
  HM.bind (α := Int × Int × Unit) (HM.loadN [.int .i64, .int .i64] ⟨x1, 0, none⟩) fun (x2 : Int × Int × Unit) =>
  HM.bind (α := Bool) (HM.call1 Tryd.prog (.one .bool) 65 #[.agg #[.int .i64 x2.1, .int .i64 x2.2.1]]) fun (x3 : Bool) =>
  HM.ite (!x3) (
  HM.pure (false, 129, ())) (
  HM.bind (α := Int × Int × Unit) (HM.loadN [.int .i64, .int .i64] ⟨x1, 0, none⟩) fun (x4 : Int × Int × Unit) =>
  HM.bind (α := Bool) (HM.call1 Tryd.prog (.one .bool) 38 #[.pointer p0, .agg #[.int .i64 x4.1, .int .i64 x4.2.1]]) fun (x5 : Bool) =>
  HM.ite x5 (
  HM.pure (false, 0, ())) (
  HM.bind (α := Addr) (HM.nonnil p0) fun (x6 : Addr) =>
  HM.bind (α := Slc) (HM.load1 .slc (Addr.add x6 1)) fun (x7 : Slc) =>
  HM.bind (α := Addr) (HM.nonnil p0) fun (x8 : Addr) =>
  HM.bind (α := Int) (HM.load1 (.int .i64) (Addr.add x8 0)) fun (x9 : Int) =>
  HM.ite (decide (x9 ≤ (((x7.len : Nat) : Int) : Int))) (
  HM.pure (false, 151, ())) (
  HM.bind (α := Bool × Slc × Int × Unit) (HM.loop (σ := Bool × Slc × Int × Unit) (τ := Bool × Slc × Int × Unit) (fun (x11 : Bool × Slc × Int × Unit) =>
  HM.bind (α := Addr) (HM.nonnil p0) fun (x12 : Addr) =>
  HM.bind (α := Slc) (HM.load1 .slc (Addr.add x12 1)) fun (x13 : Slc) =>
  HM.ite (decide (x11.2.2.1 < (((x13.len : Nat) : Int) : Int))) (
  HM.bind (α := Addr) (HM.nonnil p0) fun (x14 : Addr) =>
  HM.bind (α := Slc) (HM.load1 .slc (Addr.add x14 1)) fun (x15 : Slc) =>
  HM.bind (α := Addr) (HM.idx x15.a x15.len x11.2.2.1 2) fun (x16 : Addr) =>
  HM.bind (α := Int × Int × Unit) (HM.loadN [.int .i64, .int .i64] x16) fun (x17 : Int × Int × Unit) =>
  HM.bind (α := Nat) (HM.new (.cells #[.int .i64 0, .int .i64 0] 115)) fun (x18 : Nat) =>
  HM.bind (α := Unit) (HM.storeN ⟨x18, 0, none⟩ [.int .i64 x17.1, .int .i64 x17.2.1]) fun (_ : Unit) =>
  HM.bind (α := Bool × Unit) (HM.ite (!x11.1) (
  HM.bind (α := Int) (HM.load1 (.int .i64) (Addr.add ⟨x1, 0, none⟩ 0)) fun (x19 : Int) =>
  HM.bind (α := Int) (HM.load1 (.int .i64) (Addr.add ⟨x18, 0, none⟩ 0)) fun (x20 : Int) =>
  HM.ite (decide (x19 < (x20 : Int))) (
  HM.pure (true, ())) (
  HM.bind (α := Int) (HM.load1 (.int .i64) (Addr.add ⟨x1, 0, none⟩ 0)) fun (x21 : Int) =>
  HM.bind (α := Int) (HM.load1 (.int .i64) (Addr.add ⟨x18, 0, none⟩ 0)) fun (x22 : Int) =>
  HM.ite (x21 == x22) (
  HM.bind (α := Int) (HM.load1 (.int .i64) (Addr.add ⟨x1, 0, none⟩ 1)) fun (x23 : Int) =>
  HM.bind (α := Int) (HM.load1 (.int .i64) (Addr.add ⟨x18, 0, none⟩ 1)) fun (x24 : Int) =>
  HM.pure (decide (x23 < (x24 : Int)), ())) (
  HM.pure (false, ())))) (
  HM.pure (false, ()))) fun (x25 : Bool × Unit) =>
  HM.bind (α := Slc × Bool × Unit) (HM.ite x25.1 (
  HM.bind (α := Int × Int × Unit) (HM.loadN [.int .i64, .int .i64] ⟨x1, 0, none⟩) fun (x27 : Int × Int × Unit) =>
  HM.bind (α := Nat) (HM.new (.cells #[.int .i64 x27.1, .int .i64 x27.2.1] 115)) fun (x28 : Nat) =>
  HM.bind (α := Slc) (HM.append 115 2 16 #[.int .i64 0, .int .i64 0] x11.2.1 1 (srcSlc 2 (⟨some ⟨x28, 0, none⟩, 1, 1⟩))) fun (x29 : Slc) =>
  HM.pure (x29, true, ())) (
  HM.pure (x11.2.1, x11.1, ()))) fun (x26 : Slc × Bool × Unit) =>
  HM.bind (α := Int × Int × Unit) (HM.loadN [.int .i64, .int .i64] ⟨x18, 0, none⟩) fun (x30 : Int × Int × Unit) =>
  HM.bind (α := Nat) (HM.new (.cells #[.int .i64 x30.1, .int .i64 x30.2.1] 115)) fun (x31 : Nat) =>
  HM.bind (α := Slc) (HM.append 115 2 16 #[.int .i64 0, .int .i64 0] x26.1 1 (srcSlc 2 (⟨some ⟨x31, 0, none⟩, 1, 1⟩))) fun (x32 : Slc) =>
  HM.pure (.inl (x26.2.1, x32, IntKind.wrap .i64 (x11.2.2.1 + 1), ()))) (
  HM.pure (.inr (x11.1, x11.2.1, x11.2.2.1, ())))) (false, ⟨none, 0, 0⟩, 0, ())) fun (x10 : Bool × Slc × Int × Unit) =>
  HM.bind (α := Slc × Unit) (HM.ite (!x10.1) (
  HM.bind (α := Int × Int × Unit) (HM.loadN [.int .i64, .int .i64] ⟨x1, 0, none⟩) fun (x34 : Int × Int × Unit) =>
  HM.bind (α := Nat) (HM.new (.cells #[.int .i64 x34.1, .int .i64 x34.2.1] 115)) fun (x35 : Nat) =>
  HM.bind (α := Slc) (HM.append 115 2 16 #[.int .i64 0, .int .i64 0] x10.2.1 1 (srcSlc 2 (⟨some ⟨x35, 0, none⟩, 1, 1⟩))) fun (x36 : Slc) =>
  HM.pure (x36, ())) (
  HM.pure (x10.2.1, ()))) fun (x33 : Slc × Unit) =>
  HM.bind (α := Addr) (HM.nonnil p0) fun (x37 : Addr) =>
  HM.bind (α := Unit) (HM.store1 (Addr.add x37 1) (.slice x33.1.a x33.1.len x33.1.cap)) fun (_ : Unit) =>
  HM.pure (true, 0, ()))))

theorem ref16_Add_den (p0 : Option Addr) (p1 : Int × Int × Unit) : denFn Tryd.prog [65, 38] 87 [0, 1, 3, 4, 5, 6, 7, 8, 9, 10, 11, 15, 19, 29, 36, 68, 78] [0, 1, 3, 6, 7, 8, 9, 10, 11, 15, 19, 29, 36, 68, 78] Tryd.f37.results.toList [.one .bool, .one (.int .i64)] (bodyOf Tryd.f37) [Kind.val (.one .ptr) p0, Kind.val (.agg [.int .i64, .int .i64]) p1] = ref16_Add p0 p1 := by kernel_rfl
theorem ref16_Add_calls (p0 : Option Addr) (p1 : Int × Int × Unit) (h : Heap) (Q : Value → Heap → Prop) (hh : ref16_Add p0 p1 h fun x h' => Q (.tuple #[.bool x.1, .int .i64 x.2.1]) h') :
    HCalls Tryd.prog 37 #[.pointer p0, .agg #[.int .i64 p1.1, .int .i64 p1.2.1]] h Q := by
  rw [← ref16_Add_den] at hh
  exact calls_of_den Tryd.func37 (by kernel_rfl) Tryd.ntmps37 (by kernel_rfl) (fun f hf => by
      rcases List.mem_cons.1 hf with rfl | hf
      · exact Tryd.call65
      rcases List.mem_cons.1 hf with rfl | hf
      · exact Tryd.call38
      cases hf) orders hh

/-- aqueduct/aqueductref16.Has -/
def ref16_Has (p0 : Option Addr) (p1 : Int × Int × Unit) : HM (Bool × Unit) :=
  HM.bind (α := Nat) (HM.new (.cells #[.int .i64 p1.1, .int .i64 p1.2.1] 115)) fun (x1 : Nat) =>
  HM.bind (α := (Int × Unit) ⊕ (Bool × Unit)) (HM.loop (σ := Int × Unit) (τ := (Int × Unit) ⊕ (Bool × Unit)) (fun (x3 : Int × Unit) =>
  HM.bind (α := Addr) (HM.nonnil p0) fun (x4 : Addr) =>
  HM.bind (α := Slc) (HM.load1 .slc (Addr.add x4 1)) fun (x5 : Slc) =>
  HM.ite (decide (x3.1 < (((x5.len : Nat) : Int) : Int))) (
  HM.bind (α := Addr) (HM.nonnil p0) fun (x6 : Addr) =>
  HM.bind (α := Slc) (HM.load1 .slc (Addr.add x6 1)) fun (x7 : Slc) =>
  HM.bind (α := Addr) (HM.idx x7.a x7.len x3.1 2) fun (x8 : Addr) =>
  HM.bind (α := Int × Int × Unit) (HM.loadN [.int .i64, .int .i64] x8) fun (x9 : Int × Int × Unit) =>
  HM.bind (α := Int × Int × Unit) (HM.loadN [.int .i64, .int .i64] ⟨x1, 0, none⟩) fun (x10 : Int × Int × Unit) =>
  HM.ite ((x9.1 == x10.1) && ((x9.2.1 == x10.2.1) && true)) (
  HM.pure (.inr (.inr (true, ())))) (
  HM.pure (.inl (IntKind.wrap .i64 (x3.1 + 1), ())))) (
  HM.pure (.inr (.inl (x3.1, ()))))) (0, ())) (Sum.elim (fun (x2 : Int × Unit) =>
  HM.pure (false, ())) HM.pure)

theorem ref16_Has_den (p0 : Option Addr) (p1 : Int × Int × Unit) : denFn Tryd.prog [] 24 [0, 1, 3, 4, 5, 12, 23] [0, 1, 3, 5, 12, 23] Tryd.f38.results.toList [.one .bool] (bodyOf Tryd.f38) [Kind.val (.one .ptr) p0, Kind.val (.agg [.int .i64, .int .i64]) p1] = ref16_Has p0 p1 := by kernel_rfl
theorem ref16_Has_calls (p0 : Option Addr) (p1 : Int × Int × Unit) (h : Heap) (Q : Value → Heap → Prop) (hh : ref16_Has p0 p1 h fun x h' => Q (.bool x.1) h') :
    HCalls Tryd.prog 38 #[.pointer p0, .agg #[.int .i64 p1.1, .int .i64 p1.2.1]] h Q := by
  rw [← ref16_Has_den] at hh
  exact calls_of_den Tryd.func38 (by kernel_rfl) Tryd.ntmps38 (by kernel_rfl) (fun f hf => by cases hf) orders hh

/-- (*aqueduct/tags.Set).List -/
def tags_Set_List (p0 : Option Addr) : HM (Slc × Unit) :=
  HM.ite (Option.isNone p0) (
  HM.pure (⟨none, 0, 0⟩, ())) (
  HM.bind (α := Addr) (HM.nonnil p0) fun (x1 : Addr) =>
  HM.bind (α := Option Nat) (HM.load1 .map (Addr.add x1 1)) fun (x2 : Option Nat) =>
  HM.bind (α := Value) (HM.call1 Tryd.prog (.one .any) 67 #[.map x2]) fun (x3 : Value) =>
  HM.bind (α := Slc) (HM.call1 Tryd.prog (.one .slc) 66 #[x3, .func (.func 68) #[] #[]]) fun (x4 : Slc) =>
  HM.pure (x4, ()))

theorem tags_Set_List_den (p0 : Option Addr) : denFn Tryd.prog [67, 66] 11 [0, 2, 4] [0, 4] Tryd.f39.results.toList [.one .slc] (bodyOf Tryd.f39) [Kind.val (.one .ptr) p0] = tags_Set_List p0 := by kernel_rfl
theorem tags_Set_List_calls (p0 : Option Addr) (h : Heap) (Q : Value → Heap → Prop) (hh : tags_Set_List p0 h fun x h' => Q (.slice x.1.a x.1.len x.1.cap) h') :
    HCalls Tryd.prog 39 #[.pointer p0] h Q := by
  rw [← tags_Set_List_den] at hh
  exact calls_of_den Tryd.func39 (by kernel_rfl) Tryd.ntmps39 (by kernel_rfl) (fun f hf => by
      rcases List.mem_cons.1 hf with rfl | hf
      · exact Tryd.call67
      rcases List.mem_cons.1 hf with rfl | hf
      · exact Tryd.call66
      cases hf) orders hh

/-- aqueduct/aqueductlaw16.made -/
def law16_made (p0 : Int × Int × Int × Int × Unit) : HM ((Int × Int × Int × Int × Unit) × (Int × Int × Int × Int × Unit) × Unit) :=
  HM.bind (α := Nat) (HM.new (.cells #[.int .i64 p0.1, .int .i64 p0.2.1, .int .i64 p0.2.2.1, .int .i64 p0.2.2.2.1] 125)) fun (x1 : Nat) =>
  HM.bind (α := Nat) (HM.new (.cells #[.int .i64 0, .int .i64 0, .int .i64 0, .int .i64 0] 127)) fun (x2 : Nat) =>
  HM.bind (α := Nat) (HM.new (.cells #[.int .i64 0, .int .i64 0, .int .i64 0, .int .i64 0] 129)) fun (x3 : Nat) =>
  HM.bind (α := Int × Int × Unit) (HM.loadN [.int .i64, .int .i64] (Addr.add ⟨x1, 0, none⟩ 0)) fun (x4 : Int × Int × Unit) =>
  HM.bind (α := Int) (HM.load1 (.int .i64) (Addr.add ⟨x1, 0, none⟩ 2)) fun (x5 : Int) =>
  HM.bind (α := Int) (HM.load1 (.int .i64) (Addr.add ⟨x1, 0, none⟩ 3)) fun (x6 : Int) =>
  HM.bind (α := Int × Int × Unit) (HM.loadN [.int .i64, .int .i64] (Addr.add ⟨x1, 0, none⟩ 0)) fun (x7 : Int × Int × Unit) =>
  HM.bind (α := Int) (HM.load1 (.int .i64) (Addr.add ⟨x1, 0, none⟩ 2)) fun (x8 : Int) =>
  HM.bind (α := Int) (HM.load1 (.int .i64) (Addr.add ⟨x1, 0, none⟩ 3)) fun (x9 : Int) =>
  HM.bind (α := Unit) (HM.storeN ⟨x2, 0, none⟩ [.int .i64 x4.1, .int .i64 x4.2.1, .int .i64 x5, .int .i64 x6]) fun (_ : Unit) =>
  HM.bind (α := Int) (HM.load1 (.int .i64) (Addr.add ⟨x1, 0, none⟩ 3)) fun (x10 : Int) =>
  HM.req ((.int .i64 x10 : Value) = .int .i64 x9) <|
  HM.bind (α := Int) (HM.load1 (.int .i64) (Addr.add ⟨x1, 0, none⟩ 2)) fun (x11 : Int) =>
  HM.req ((.int .i64 x11 : Value) = .int .i64 x8) <|
  HM.bind (α := Int × Int × Unit) (HM.loadN [.int .i64, .int .i64] (Addr.add ⟨x1, 0, none⟩ 0)) fun (x12 : Int × Int × Unit) =>
  HM.req ((.agg #[.int .i64 x12.1, .int .i64 x12.2.1] : Value) = .agg #[.int .i64 x7.1, .int .i64 x7.2.1]) <|
  HM.bind (α := Unit) (HM.storeN ⟨x3, 0, none⟩ [.int .i64 x7.1, .int .i64 x7.2.1, .int .i64 x8, .int .i64 x9]) fun (_ : Unit) =>
  HM.bind (α := Int × Int × Int × Int × Unit) (HM.loadN [.int .i64, .int .i64, .int .i64, .int .i64] ⟨x2, 0, none⟩) fun (x13 : Int × Int × Int × Int × Unit) =>
  HM.bind (α := Int × Int × Int × Int × Unit) (HM.loadN [.int .i64, .int .i64, .int .i64, .int .i64] ⟨x3, 0, none⟩) fun (x14 : Int × Int × Int × Int × Unit) =>
  HM.pure ((x13.1, x13.2.1, x13.2.2.1, x13.2.2.2.1, ()), (x14.1, x14.2.1, x14.2.2.1, x14.2.2.2.1, ()), ())

theorem law16_made_den (p0 : Int × Int × Int × Int × Unit) : denFn Tryd.prog [] 18 [0, 1, 2, 3] [0, 1, 2, 3] Tryd.f40.results.toList [.agg [.int .i64, .int .i64, .int .i64, .int .i64], .agg [.int .i64, .int .i64, .int .i64, .int .i64]] (bodyOf Tryd.f40) [Kind.val (.agg [.int .i64, .int .i64, .int .i64, .int .i64]) p0] = law16_made p0 := by kernel_rfl
theorem law16_made_calls (p0 : Int × Int × Int × Int × Unit) (h : Heap) (Q : Value → Heap → Prop) (hh : law16_made p0 h fun x h' => Q (.tuple #[.agg #[.int .i64 x.1.1, .int .i64 x.1.2.1, .int .i64 x.1.2.2.1, .int .i64 x.1.2.2.2.1], .agg #[.int .i64 x.2.1.1, .int .i64 x.2.1.2.1, .int .i64 x.2.1.2.2.1, .int .i64 x.2.1.2.2.2.1]]) h') :
    HCalls Tryd.prog 40 #[.agg #[.int .i64 p0.1, .int .i64 p0.2.1, .int .i64 p0.2.2.1, .int .i64 p0.2.2.2.1]] h Q := by
  rw [← law16_made_den] at hh
  exact calls_of_den Tryd.func40 (by kernel_rfl) Tryd.ntmps40 (by kernel_rfl) (fun f hf => by cases hf) orders hh

/-- aqueduct/tags.Parse -/
def tags_Parse (p0 : ByteArray) : HM ((Int × Int × Int × Int × Unit) × Bool × Unit) :=
  HM.bind (α := Nat) (HM.new (.cells #[.int .i64 0, .int .i64 0, .int .i64 0, .int .i64 0] 127)) fun (x1 : Nat) =>
  HM.bind (α := Slc) (HM.call1 Tryd.prog (.one .slc) 72 #[.string p0, .string (ByteArray.mk #[46])]) fun (x2 : Slc) =>
  HM.ite (!(((x2.len : Nat) : Int) == 4)) (
  HM.bind (α := Unit) (HM.storeN ⟨x1, 0, none⟩ [.int .i64 0, .int .i64 0, .int .i64 0, .int .i64 0]) fun (_ : Unit) =>
  HM.bind (α := Int × Int × Int × Int × Unit) (HM.loadN [.int .i64, .int .i64, .int .i64, .int .i64] ⟨x1, 0, none⟩) fun (x3 : Int × Int × Int × Int × Unit) =>
  HM.pure ((x3.1, x3.2.1, x3.2.2.1, x3.2.2.2.1, ()), false, ())) (
  HM.bind (α := Nat) (HM.new (.cells #[.int .i64 0, .int .i64 0, .int .i64 0, .int .i64 0] 183)) fun (x4 : Nat) =>
  HM.bind (α := Int × Unit) (HM.loop (σ := Int × Unit) (τ := Int × Unit) (fun (x6 : Int × Unit) =>
  HM.ite (decide (x6.1 < (4 : Int))) (
  HM.bind (α := Addr) (HM.idx x2.a x2.len x6.1 1) fun (x7 : Addr) =>
  HM.bind (α := ByteArray) (HM.load1 .str x7) fun (x8 : ByteArray) =>
  HM.bind (α := Int × Value × Unit) (HM.callN Tryd.prog [.one (.int .i64), .one .any] 73 #[.string x8, .int .i64 10, .int .i64 64]) fun (x9 : Int × Value × Unit) =>
  HM.bind (α := Addr) (HM.idx (some ⟨x4, 0, none⟩) 4 x6.1 1) fun (x10 : Addr) =>
  HM.bind (α := Unit) (HM.store1 x10 (.int .i64 x9.1)) fun (_ : Unit) =>
  HM.pure (.inl (IntKind.wrap .i64 (x6.1 + 1), ()))) (
  HM.pure (.inr (x6.1, ())))) (0, ())) fun (x5 : Int × Unit) =>
  HM.bind (α := Addr) (HM.idx (some ⟨x4, 0, none⟩) 4 0 1) fun (x11 : Addr) =>
  HM.bind (α := Int) (HM.load1 (.int .i64) x11) fun (x12 : Int) =>
  HM.bind (α := Addr) (HM.idx (some ⟨x4, 0, none⟩) 4 1 1) fun (x13 : Addr) =>
  HM.bind (α := Int) (HM.load1 (.int .i64) x13) fun (x14 : Int) =>
  HM.bind (α := Addr) (HM.idx (some ⟨x4, 0, none⟩) 4 2 1) fun (x15 : Addr) =>
  HM.bind (α := Int) (HM.load1 (.int .i64) x15) fun (x16 : Int) =>
  HM.bind (α := Addr) (HM.idx (some ⟨x4, 0, none⟩) 4 3 1) fun (x17 : Addr) =>
  HM.bind (α := Int) (HM.load1 (.int .i64) x17) fun (x18 : Int) =>
  HM.bind (α := Nat) (HM.new (.cells #[.int .i64 0, .int .i64 0, .int .i64 0, .int .i64 0] 127)) fun (x19 : Nat) =>
  HM.bind (α := Unit) (HM.storeN ⟨x19, 0, none⟩ [.int .i64 x12, .int .i64 x14, .int .i64 x16, .int .i64 x18]) fun (_ : Unit) =>
  HM.bind (α := Bool × Unit) (HM.bind (α := Int × Int × Int × Int × Unit) (HM.loadN [.int .i64, .int .i64, .int .i64, .int .i64] ⟨x19, 0, none⟩) fun (x20 : Int × Int × Int × Int × Unit) =>
  HM.bind (α := Bool) (HM.call1 Tryd.prog (.one .bool) 74 #[.agg #[.int .i64 x20.1, .int .i64 x20.2.1, .int .i64 x20.2.2.1, .int .i64 x20.2.2.2.1]]) fun (x21 : Bool) =>
  HM.ite (!x21) (
  HM.pure (true, ())) (
  HM.bind (α := Int × Int × Int × Int × Unit) (HM.loadN [.int .i64, .int .i64, .int .i64, .int .i64] ⟨x19, 0, none⟩) fun (x22 : Int × Int × Int × Int × Unit) =>
  HM.bind (α := ByteArray) (HM.call1 Tryd.prog (.one .str) 43 #[.agg #[.int .i64 x22.1, .int .i64 x22.2.1, .int .i64 x22.2.2.1, .int .i64 x22.2.2.2.1]]) fun (x23 : ByteArray) =>
  HM.pure (!(decide (x23 = p0)), ()))) fun (x24 : Bool × Unit) =>
  HM.ite x24.1 (
  HM.bind (α := Unit) (HM.storeN ⟨x1, 0, none⟩ [.int .i64 0, .int .i64 0, .int .i64 0, .int .i64 0]) fun (_ : Unit) =>
  HM.bind (α := Int × Int × Int × Int × Unit) (HM.loadN [.int .i64, .int .i64, .int .i64, .int .i64] ⟨x1, 0, none⟩) fun (x25 : Int × Int × Int × Int × Unit) =>
  HM.pure ((x25.1, x25.2.1, x25.2.2.1, x25.2.2.2.1, ()), false, ())) (
  HM.bind (α := Int × Int × Int × Int × Unit) (HM.loadN [.int .i64, .int .i64, .int .i64, .int .i64] ⟨x19, 0, none⟩) fun (x26 : Int × Int × Int × Int × Unit) =>
  HM.bind (α := Unit) (HM.storeN ⟨x1, 0, none⟩ [.int .i64 x26.1, .int .i64 x26.2.1, .int .i64 x26.2.2.1, .int .i64 x26.2.2.2.1]) fun (_ : Unit) =>
  HM.bind (α := Int × Int × Int × Int × Unit) (HM.loadN [.int .i64, .int .i64, .int .i64, .int .i64] ⟨x1, 0, none⟩) fun (x27 : Int × Int × Int × Int × Unit) =>
  HM.pure ((x27.1, x27.2.1, x27.2.2.1, x27.2.2.2.1, ()), true, ())))

theorem tags_Parse_den (p0 : ByteArray) : denFn Tryd.prog [72, 73, 74, 43] 49 [0, 2, 3, 4, 5, 6, 7, 12, 14, 15, 46] [0, 2, 4, 5, 6, 7, 12, 14, 15, 46] Tryd.f41.results.toList [.agg [.int .i64, .int .i64, .int .i64, .int .i64], .one .bool] (bodyOf Tryd.f41) [Kind.val (.one .str) p0] = tags_Parse p0 := by kernel_rfl
theorem tags_Parse_calls (p0 : ByteArray) (h : Heap) (Q : Value → Heap → Prop) (hh : tags_Parse p0 h fun x h' => Q (.tuple #[.agg #[.int .i64 x.1.1, .int .i64 x.1.2.1, .int .i64 x.1.2.2.1, .int .i64 x.1.2.2.2.1], .bool x.2.1]) h') :
    HCalls Tryd.prog 41 #[.string p0] h Q := by
  rw [← tags_Parse_den] at hh
  exact calls_of_den Tryd.func41 (by kernel_rfl) Tryd.ntmps41 (by kernel_rfl) (fun f hf => by
      rcases List.mem_cons.1 hf with rfl | hf
      · exact Tryd.call72
      rcases List.mem_cons.1 hf with rfl | hf
      · exact Tryd.call73
      rcases List.mem_cons.1 hf with rfl | hf
      · exact Tryd.call74
      rcases List.mem_cons.1 hf with rfl | hf
      · exact Tryd.call43
      cases hf) orders hh

/-- aqueduct/aqueductref16.Parse -/
def ref16_Parse (p0 : ByteArray) : HM ((Int × Int × Int × Int × Unit) × Bool × Unit) :=
  HM.bind (α := Nat) (HM.new (.cells #[.int .i64 0, .int .i64 0, .int .i64 0, .int .i64 0] 129)) fun (x1 : Nat) =>
  HM.bind (α := Nat) (HM.new (.cells #[.int .i64 0, .int .i64 0, .int .i64 0, .int .i64 0] 183)) fun (x2 : Nat) =>
  HM.bind (α := (Int × Int × Unit) ⊕ ((Int × Int × Int × Int × Unit) × Bool × Unit)) (HM.loop (σ := Int × Int × Unit) (τ := (Int × Int × Unit) ⊕ ((Int × Int × Int × Int × Unit) × Bool × Unit)) (fun (x4 : Int × Int × Unit) =>
  HM.ite (decide (x4.2.1 < (4 : Int))) (
  HM.bind (α := (Int × Unit) ⊕ ((Int × Int × Unit) ⊕ ((Int × Int × Unit) ⊕ ((Int × Int × Int × Int × Unit) × Bool × Unit)))) (HM.ite (decide (0 < (x4.2.1 : Int))) (
  HM.bind (α := Bool × Unit) (HM.ite (decide (((ByteArray.size p0 : Nat) : Int) ≤ (x4.1 : Int))) (
  HM.pure (true, ())) (
  HM.bind (α := Int) (HM.strIdx p0 x4.1) fun (x6 : Int) =>
  HM.pure (!(x6 == 46), ()))) fun (x7 : Bool × Unit) =>
  HM.ite x7.1 (
  HM.bind (α := Unit) (HM.storeN ⟨x1, 0, none⟩ [.int .i64 0, .int .i64 0, .int .i64 0, .int .i64 0]) fun (_ : Unit) =>
  HM.bind (α := Int × Int × Int × Int × Unit) (HM.loadN [.int .i64, .int .i64, .int .i64, .int .i64] ⟨x1, 0, none⟩) fun (x8 : Int × Int × Int × Int × Unit) =>
  HM.pure (.inr (.inr (.inr ((x8.1, x8.2.1, x8.2.2.1, x8.2.2.2.1, ()), false, ()))))) (
  HM.pure (.inl (IntKind.wrap .i64 (x4.1 + 1), ())))) (
  HM.pure (.inl (x4.1, ())))) (Sum.elim (fun (x5 : Int × Unit) =>
  HM.bind (α := Int × Int × Unit) (HM.callN Tryd.prog [.one (.int .i64), .one (.int .i64)] 75 #[.string p0, .int .i64 x5.1]) fun (x9 : Int × Int × Unit) =>
  HM.ite (decide (x9.1 < (0 : Int))) (
  HM.bind (α := Unit) (HM.storeN ⟨x1, 0, none⟩ [.int .i64 0, .int .i64 0, .int .i64 0, .int .i64 0]) fun (_ : Unit) =>
  HM.bind (α := Int × Int × Int × Int × Unit) (HM.loadN [.int .i64, .int .i64, .int .i64, .int .i64] ⟨x1, 0, none⟩) fun (x10 : Int × Int × Int × Int × Unit) =>
  HM.pure (.inr (.inr ((x10.1, x10.2.1, x10.2.2.1, x10.2.2.2.1, ()), false, ())))) (
  HM.bind (α := Addr) (HM.idx (some ⟨x2, 0, none⟩) 4 x4.2.1 1) fun (x11 : Addr) =>
  HM.bind (α := Unit) (HM.store1 x11 (.int .i64 x9.1)) fun (_ : Unit) =>
  HM.pure (.inl (x9.2.1, IntKind.wrap .i64 (x4.2.1 + 1), ())))) HM.pure)) (
  HM.pure (.inr (.inl (x4.1, x4.2.1, ()))))) (0, 0, ())) (Sum.elim (fun (x3 : Int × Int × Unit) =>
  HM.bind (α := Addr) (HM.idx (some ⟨x2, 0, none⟩) 4 0 1) fun (x12 : Addr) =>
  HM.bind (α := Int) (HM.load1 (.int .i64) x12) fun (x13 : Int) =>
  HM.bind (α := Addr) (HM.idx (some ⟨x2, 0, none⟩) 4 1 1) fun (x14 : Addr) =>
  HM.bind (α := Int) (HM.load1 (.int .i64) x14) fun (x15 : Int) =>
  HM.bind (α := Addr) (HM.idx (some ⟨x2, 0, none⟩) 4 2 1) fun (x16 : Addr) =>
  HM.bind (α := Int) (HM.load1 (.int .i64) x16) fun (x17 : Int) =>
  HM.bind (α := Addr) (HM.idx (some ⟨x2, 0, none⟩) 4 3 1) fun (x18 : Addr) =>
  HM.bind (α := Int) (HM.load1 (.int .i64) x18) fun (x19 : Int) =>
  HM.bind (α := Nat) (HM.new (.cells #[.int .i64 0, .int .i64 0, .int .i64 0, .int .i64 0] 129)) fun (x20 : Nat) =>
  HM.bind (α := Unit) (HM.storeN ⟨x20, 0, none⟩ [.int .i64 x13, .int .i64 x15, .int .i64 x17, .int .i64 x19]) fun (_ : Unit) =>
  HM.bind (α := Int × Int × Int × Int × Unit) (HM.loadN [.int .i64, .int .i64, .int .i64, .int .i64] ⟨x20, 0, none⟩) fun (x21 : Int × Int × Int × Int × Unit) =>
  HM.bind (α := Bool) (HM.call1 Tryd.prog (.one .bool) 76 #[.agg #[.int .i64 x21.1, .int .i64 x21.2.1, .int .i64 x21.2.2.1, .int .i64 x21.2.2.2.1]]) fun (x22 : Bool) =>
  HM.bind (α := Bool × Unit) (HM.ite (!x22) (
  HM.pure (true, ())) (
  HM.pure (decide (x3.1 < (((ByteArray.size p0 : Nat) : Int) : Int)), ()))) fun (x23 : Bool × Unit) =>
  HM.ite x23.1 (
  HM.bind (α := Unit) (HM.storeN ⟨x1, 0, none⟩ [.int .i64 0, .int .i64 0, .int .i64 0, .int .i64 0]) fun (_ : Unit) =>
  HM.bind (α := Int × Int × Int × Int × Unit) (HM.loadN [.int .i64, .int .i64, .int .i64, .int .i64] ⟨x1, 0, none⟩) fun (x24 : Int × Int × Int × Int × Unit) =>
  HM.pure ((x24.1, x24.2.1, x24.2.2.1, x24.2.2.2.1, ()), false, ())) (
  HM.bind (α := Int × Int × Int × Int × Unit) (HM.loadN [.int .i64, .int .i64, .int .i64, .int .i64] ⟨x20, 0, none⟩) fun (x25 : Int × Int × Int × Int × Unit) =>
  HM.bind (α := Unit) (HM.storeN ⟨x1, 0, none⟩ [.int .i64 x25.1, .int .i64 x25.2.1, .int .i64 x25.2.2.1, .int .i64 x25.2.2.2.1]) fun (_ : Unit) =>
  HM.bind (α := Int × Int × Int × Int × Unit) (HM.loadN [.int .i64, .int .i64, .int .i64, .int .i64] ⟨x1, 0, none⟩) fun (x26 : Int × Int × Int × Int × Unit) =>
  HM.pure ((x26.1, x26.2.1, x26.2.2.1, x26.2.2.2.1, ()), true, ()))) HM.pure)

theorem ref16_Parse_den (p0 : ByteArray) : denFn Tryd.prog [75, 76] 65 [0, 2, 3, 4, 5, 6, 7, 8, 9, 10, 12, 16, 26, 37, 62] [0, 2, 4, 5, 6, 7, 8, 9, 10, 12, 16, 26, 37, 62] Tryd.f42.results.toList [.agg [.int .i64, .int .i64, .int .i64, .int .i64], .one .bool] (bodyOf Tryd.f42) [Kind.val (.one .str) p0] = ref16_Parse p0 := by kernel_rfl
theorem ref16_Parse_calls (p0 : ByteArray) (h : Heap) (Q : Value → Heap → Prop) (hh : ref16_Parse p0 h fun x h' => Q (.tuple #[.agg #[.int .i64 x.1.1, .int .i64 x.1.2.1, .int .i64 x.1.2.2.1, .int .i64 x.1.2.2.2.1], .bool x.2.1]) h') :
    HCalls Tryd.prog 42 #[.string p0] h Q := by
  rw [← ref16_Parse_den] at hh
  exact calls_of_den Tryd.func42 (by kernel_rfl) Tryd.ntmps42 (by kernel_rfl) (fun f hf => by
      rcases List.mem_cons.1 hf with rfl | hf
      · exact Tryd.call75
      rcases List.mem_cons.1 hf with rfl | hf
      · exact Tryd.call76
      cases hf) orders hh

/-- (aqueduct/tags.Label).Text -/
def tags_Label_Text (p0 : Int × Int × Int × Int × Unit) : HM (ByteArray × Unit) :=
  HM.bind (α := Nat) (HM.new (.cells #[.int .i64 p0.1, .int .i64 p0.2.1, .int .i64 p0.2.2.1, .int .i64 p0.2.2.2.1] 127)) fun (x1 : Nat) =>
  HM.bind (α := Int × Int × Int × Int × Unit) (HM.loadN [.int .i64, .int .i64, .int .i64, .int .i64] ⟨x1, 0, none⟩) fun (x2 : Int × Int × Int × Int × Unit) =>
  HM.bind (α := Bool) (HM.call1 Tryd.prog (.one .bool) 74 #[.agg #[.int .i64 x2.1, .int .i64 x2.2.1, .int .i64 x2.2.2.1, .int .i64 x2.2.2.2.1]]) fun (x3 : Bool) =>
  HM.ite (!x3) (
  HM.pure (ByteArray.mk #[], ())) (
  HM.bind (α := Int) (HM.load1 (.int .i64) (Addr.add (Addr.add ⟨x1, 0, none⟩ 0) 0)) fun (x4 : Int) =>
  HM.bind (α := Int) (HM.load1 (.int .i64) (Addr.add (Addr.add ⟨x1, 0, none⟩ 0) 1)) fun (x5 : Int) =>
  HM.bind (α := Int) (HM.load1 (.int .i64) (Addr.add ⟨x1, 0, none⟩ 2)) fun (x6 : Int) =>
  HM.bind (α := Int) (HM.load1 (.int .i64) (Addr.add ⟨x1, 0, none⟩ 3)) fun (x7 : Int) =>
  HM.bind (α := ByteArray) (HM.call1 Tryd.prog (.one .str) 78 #[.int .i64 x4]) fun (x8 : ByteArray) =>
  HM.bind (α := Int) (HM.load1 (.int .i64) (Addr.add ⟨x1, 0, none⟩ 3)) fun (x9 : Int) =>
  HM.req ((.int .i64 x9 : Value) = .int .i64 x7) <|
  HM.bind (α := Int) (HM.load1 (.int .i64) (Addr.add ⟨x1, 0, none⟩ 2)) fun (x10 : Int) =>
  HM.req ((.int .i64 x10 : Value) = .int .i64 x6) <|
  HM.bind (α := Int) (HM.load1 (.int .i64) (Addr.add (Addr.add ⟨x1, 0, none⟩ 0) 1)) fun (x11 : Int) =>
  HM.req ((.int .i64 x11 : Value) = .int .i64 x5) <|
  HM.bind (α := ByteArray) (HM.call1 Tryd.prog (.one .str) 79 #[.int .i64 x5, .int .i64 10]) fun (x12 : ByteArray) =>
  HM.bind (α := Int) (HM.load1 (.int .i64) (Addr.add ⟨x1, 0, none⟩ 3)) fun (x13 : Int) =>
  HM.req ((.int .i64 x13 : Value) = .int .i64 x7) <|
  HM.bind (α := Int) (HM.load1 (.int .i64) (Addr.add ⟨x1, 0, none⟩ 2)) fun (x14 : Int) =>
  HM.req ((.int .i64 x14 : Value) = .int .i64 x6) <|
  HM.bind (α := ByteArray) (HM.call1 Tryd.prog (.one .str) 78 #[.int .i64 x6]) fun (x15 : ByteArray) =>
  HM.bind (α := Int) (HM.load1 (.int .i64) (Addr.add ⟨x1, 0, none⟩ 3)) fun (x16 : Int) =>
  HM.req ((.int .i64 x16 : Value) = .int .i64 x7) <|
  HM.bind (α := ByteArray) (HM.call1 Tryd.prog (.one .str) 78 #[.int .i64 x7]) fun (x17 : ByteArray) =>
  HM.bind (α := Nat) (HM.new (.cells #[.string x8, .string x12, .string x15, .string x17] 9)) fun (x18 : Nat) =>
  HM.bind (α := ByteArray) (HM.call1 Tryd.prog (.one .str) 77 #[.slice (some ⟨x18, 0, none⟩) 4 4, .string (ByteArray.mk #[46])]) fun (x19 : ByteArray) =>
  HM.pure (x19, ()))

theorem tags_Label_Text_den (p0 : Int × Int × Int × Int × Unit) : denFn Tryd.prog [74, 78, 79, 77] 22 [0, 1, 2, 5] [0, 1, 5] Tryd.f43.results.toList [.one .str] (bodyOf Tryd.f43) [Kind.val (.agg [.int .i64, .int .i64, .int .i64, .int .i64]) p0] = tags_Label_Text p0 := by kernel_rfl
theorem tags_Label_Text_calls (p0 : Int × Int × Int × Int × Unit) (h : Heap) (Q : Value → Heap → Prop) (hh : tags_Label_Text p0 h fun x h' => Q (.string x.1) h') :
    HCalls Tryd.prog 43 #[.agg #[.int .i64 p0.1, .int .i64 p0.2.1, .int .i64 p0.2.2.1, .int .i64 p0.2.2.2.1]] h Q := by
  rw [← tags_Label_Text_den] at hh
  exact calls_of_den Tryd.func43 (by kernel_rfl) Tryd.ntmps43 (by kernel_rfl) (fun f hf => by
      rcases List.mem_cons.1 hf with rfl | hf
      · exact Tryd.call74
      rcases List.mem_cons.1 hf with rfl | hf
      · exact Tryd.call78
      rcases List.mem_cons.1 hf with rfl | hf
      · exact Tryd.call79
      rcases List.mem_cons.1 hf with rfl | hf
      · exact Tryd.call77
      cases hf) orders hh

/-- aqueduct/aqueductref16.Text -/
def ref16_Text (p0 : Int × Int × Int × Int × Unit) : HM (ByteArray × Unit) :=
  HM.bind (α := Nat) (HM.new (.cells #[.int .i64 p0.1, .int .i64 p0.2.1, .int .i64 p0.2.2.1, .int .i64 p0.2.2.2.1] 129)) fun (x1 : Nat) =>
  HM.bind (α := Int × Int × Int × Int × Unit) (HM.loadN [.int .i64, .int .i64, .int .i64, .int .i64] ⟨x1, 0, none⟩) fun (x2 : Int × Int × Int × Int × Unit) =>
  HM.bind (α := Bool) (HM.call1 Tryd.prog (.one .bool) 76 #[.agg #[.int .i64 x2.1, .int .i64 x2.2.1, .int .i64 x2.2.2.1, .int .i64 x2.2.2.2.1]]) fun (x3 : Bool) =>
  HM.ite (!x3) (
  HM.pure (ByteArray.mk #[], ())) (
  HM.bind (α := Int) (HM.load1 (.int .i64) (Addr.add (Addr.add ⟨x1, 0, none⟩ 0) 0)) fun (x4 : Int) =>
  HM.bind (α := ByteArray) (HM.call1 Tryd.prog (.one .str) 80 #[.int .i64 x4]) fun (x5 : ByteArray) =>
  HM.bind (α := Int) (HM.load1 (.int .i64) (Addr.add (Addr.add ⟨x1, 0, none⟩ 0) 1)) fun (x6 : Int) =>
  HM.bind (α := ByteArray) (HM.call1 Tryd.prog (.one .str) 80 #[.int .i64 x6]) fun (x7 : ByteArray) =>
  HM.bind (α := Int) (HM.load1 (.int .i64) (Addr.add ⟨x1, 0, none⟩ 2)) fun (x8 : Int) =>
  HM.bind (α := ByteArray) (HM.call1 Tryd.prog (.one .str) 80 #[.int .i64 x8]) fun (x9 : ByteArray) =>
  HM.bind (α := Int) (HM.load1 (.int .i64) (Addr.add ⟨x1, 0, none⟩ 3)) fun (x10 : Int) =>
  HM.bind (α := ByteArray) (HM.call1 Tryd.prog (.one .str) 80 #[.int .i64 x10]) fun (x11 : ByteArray) =>
  HM.req (ByteArray.size x5 + ByteArray.size (ByteArray.mk #[46]) ≤ 9223372036854775807) <|
  HM.req (ByteArray.size (x5 ++ (ByteArray.mk #[46])) + ByteArray.size x7 ≤ 9223372036854775807) <|
  HM.req (ByteArray.size ((x5 ++ (ByteArray.mk #[46])) ++ x7) + ByteArray.size (ByteArray.mk #[46]) ≤ 9223372036854775807) <|
  HM.req (ByteArray.size (((x5 ++ (ByteArray.mk #[46])) ++ x7) ++ (ByteArray.mk #[46])) + ByteArray.size x9 ≤ 9223372036854775807) <|
  HM.req (ByteArray.size ((((x5 ++ (ByteArray.mk #[46])) ++ x7) ++ (ByteArray.mk #[46])) ++ x9) + ByteArray.size (ByteArray.mk #[46]) ≤ 9223372036854775807) <|
  HM.req (ByteArray.size (((((x5 ++ (ByteArray.mk #[46])) ++ x7) ++ (ByteArray.mk #[46])) ++ x9) ++ (ByteArray.mk #[46])) + ByteArray.size x11 ≤ 9223372036854775807) <|
  HM.pure ((((((x5 ++ (ByteArray.mk #[46])) ++ x7) ++ (ByteArray.mk #[46])) ++ x9) ++ (ByteArray.mk #[46])) ++ x11, ()))

theorem ref16_Text_den (p0 : Int × Int × Int × Int × Unit) : denFn Tryd.prog [76, 80] 36 [0, 1, 2, 3, 4, 5, 6, 7, 11] [0, 1, 3, 4, 5, 6, 7, 11] Tryd.f44.results.toList [.one .str] (bodyOf Tryd.f44) [Kind.val (.agg [.int .i64, .int .i64, .int .i64, .int .i64]) p0] = ref16_Text p0 := by kernel_rfl
theorem ref16_Text_calls (p0 : Int × Int × Int × Int × Unit) (h : Heap) (Q : Value → Heap → Prop) (hh : ref16_Text p0 h fun x h' => Q (.string x.1) h') :
    HCalls Tryd.prog 44 #[.agg #[.int .i64 p0.1, .int .i64 p0.2.1, .int .i64 p0.2.2.1, .int .i64 p0.2.2.2.1]] h Q := by
  rw [← ref16_Text_den] at hh
  exact calls_of_den Tryd.func44 (by kernel_rfl) Tryd.ntmps44 (by kernel_rfl) (fun f hf => by
      rcases List.mem_cons.1 hf with rfl | hf
      · exact Tryd.call76
      rcases List.mem_cons.1 hf with rfl | hf
      · exact Tryd.call80
      cases hf) orders hh

/-- aqueduct/text.Fault -/
def text_Fault (p0 : ByteArray) : HM (Int × Bool × Unit) :=
  HM.bind (α := (Int × Unit) ⊕ (Int × Bool × Unit)) (HM.loop (σ := Int × Unit) (τ := (Int × Unit) ⊕ (Int × Bool × Unit)) (fun (x2 : Int × Unit) =>
  HM.ite (decide (x2.1 < (((ByteArray.size p0 : Nat) : Int) : Int))) (
  HM.bind (α := ByteArray) (HM.substr p0 (some x2.1) none) fun (x3 : ByteArray) =>
  HM.bind (α := Int) (HM.call1 Tryd.prog (.one (.int .i64)) 81 #[.string x3]) fun (x4 : Int) =>
  HM.ite (x4 == 0) (
  HM.pure (.inr (.inr (x2.1, true, ())))) (
  HM.pure (.inl (IntKind.wrap .i64 (x2.1 + x4), ())))) (
  HM.pure (.inr (.inl (x2.1, ()))))) (0, ())) (Sum.elim (fun (x1 : Int × Unit) =>
  HM.pure (0, false, ())) HM.pure)

theorem text_Fault_den (p0 : ByteArray) : denFn Tryd.prog [81] 20 [0, 2, 3, 4, 5, 9, 15] [0, 4, 5, 9, 15] Tryd.f45.results.toList [.one (.int .i64), .one .bool] (bodyOf Tryd.f45) [Kind.val (.one .str) p0] = text_Fault p0 := by kernel_rfl
theorem text_Fault_calls (p0 : ByteArray) (h : Heap) (Q : Value → Heap → Prop) (hh : text_Fault p0 h fun x h' => Q (.tuple #[.int .i64 x.1, .bool x.2.1]) h') :
    HCalls Tryd.prog 45 #[.string p0] h Q := by
  rw [← text_Fault_den] at hh
  exact calls_of_den Tryd.func45 (by kernel_rfl) Tryd.ntmps45 (by kernel_rfl) (fun f hf => by
      rcases List.mem_cons.1 hf with rfl | hf
      · exact Tryd.call81
      cases hf) orders hh

/-- (*aqueduct/session.Table).of -/
def session_Table_of (p0 : Option Addr) (p1 : ByteArray) : HM (Option Addr × Unit) :=
  HM.bind (α := (Unit) ⊕ (Option Addr × Unit)) (HM.ite (!(Option.isNone p0)) (
  HM.bind (α := Addr) (HM.nonnil p0) fun (x2 : Addr) =>
  HM.bind (α := Option Nat) (HM.load1 .map (Addr.add x2 1)) fun (x3 : Option Nat) =>
  HM.bind (α := Nat) (HM.rangeM x3) fun (x4 : Nat) =>
  HM.bind (α := (Unit) ⊕ ((Unit) ⊕ (Option Addr × Unit))) (HM.loop (σ := Unit) (τ := (Unit) ⊕ ((Unit) ⊕ (Option Addr × Unit))) (fun (x6 : Unit) =>
  HM.bind (α := Option (Value × Value)) (HM.nextM x4) fun (x7 : Option (Value × Value)) =>
  HM.opt x7 (
  HM.ite false (
  HM.bind (α := Value × Option Addr) (HM.entryM (.one .any) (.one .ptr) x4) fun (x9 : Value × Option Addr) =>
  HM.bind (α := Addr) (HM.nonnil x9.2) fun (x10 : Addr) =>
  HM.bind (α := ByteArray) (HM.load1 .str (Addr.add (Addr.add x10 0) 1)) fun (x11 : ByteArray) =>
  HM.ite (decide (x11 = p1)) (
  HM.pure (.inr (.inr (.inr (x9.2, ()))))) (
  HM.pure (.inl ()))) (
  HM.pure (.inr (.inl ())))) fun (x8 : Value × Value) =>
  HM.ite true (
  HM.bind (α := Value × Option Addr) (HM.entryM (.one .any) (.one .ptr) x4) fun (x12 : Value × Option Addr) =>
  HM.bind (α := Addr) (HM.nonnil x12.2) fun (x13 : Addr) =>
  HM.bind (α := ByteArray) (HM.load1 .str (Addr.add (Addr.add x13 0) 1)) fun (x14 : ByteArray) =>
  HM.ite (decide (x14 = p1)) (
  HM.pure (.inr (.inr (.inr (x12.2, ()))))) (
  HM.pure (.inl ()))) (
  HM.pure (.inr (.inl ())))) ()) (Sum.elim (fun (x5 : Unit) =>
  HM.pure (.inl ())) HM.pure)) (
  HM.pure (.inl ()))) (Sum.elim (fun (x1 : Unit) =>
  HM.pure (none, ())) HM.pure)

theorem session_Table_of_den (p0 : Option Addr) (p1 : ByteArray) : denFn Tryd.prog [] 26 [0, 1, 4, 6, 8, 13, 15, 24] [0, 1, 6, 8, 13, 15, 24] Tryd.f46.results.toList [.one .ptr] (bodyOf Tryd.f46) [Kind.val (.one .ptr) p0, Kind.val (.one .str) p1] = session_Table_of p0 p1 := by kernel_rfl
theorem session_Table_of_calls (p0 : Option Addr) (p1 : ByteArray) (h : Heap) (Q : Value → Heap → Prop) (hh : session_Table_of p0 p1 h fun x h' => Q (.pointer x.1) h') :
    HCalls Tryd.prog 46 #[.pointer p0, .string p1] h Q := by
  rw [← session_Table_of_den] at hh
  exact calls_of_den Tryd.func46 (by kernel_rfl) Tryd.ntmps46 (by kernel_rfl) (fun f hf => by cases hf) orders hh

/-- aqueduct/outflow.New -/
def outflow_New (p0 : Int) : HM (Option Addr × Unit) :=
  HM.bind (α := Option Addr) (HM.call1 Tryd.prog (.one .ptr) 82 #[.int .i64 64]) fun (x1 : Option Addr) =>
  HM.bind (α := Int) (HM.call1 Tryd.prog (.one (.int .i64)) 53 #[.int .i64 p0]) fun (x2 : Int) =>
  HM.bind (α := Nat) (HM.new (.cells #[.pointer x1, .int .i64 x2, .bool false, .slice none 0 0, .slice none 0 0] 152)) fun (x3 : Nat) =>
  HM.pure (some ⟨x3, 0, none⟩, ())

theorem outflow_New_den (p0 : Int) : denFn Tryd.prog [82, 53] 8 [0, 2] [0] Tryd.f47.results.toList [.one .ptr] (bodyOf Tryd.f47) [Kind.val (.one (.int .i64)) p0] = outflow_New p0 := by kernel_rfl
theorem outflow_New_calls (p0 : Int) (h : Heap) (Q : Value → Heap → Prop) (hh : outflow_New p0 h fun x h' => Q (.pointer x.1) h') :
    HCalls Tryd.prog 47 #[.int .i64 p0] h Q := by
  rw [← outflow_New_den] at hh
  exact calls_of_den Tryd.func47 (by kernel_rfl) Tryd.ntmps47 (by kernel_rfl) (fun f hf => by
      rcases List.mem_cons.1 hf with rfl | hf
      · exact Tryd.call82
      rcases List.mem_cons.1 hf with rfl | hf
      · exact Tryd.call53
      cases hf) orders hh

/-- aqueduct/inflow.New -/
def inflow_New (p0 : Int) : HM (Option Addr × Unit) :=
  HM.bind (α := Option Addr) (HM.call1 Tryd.prog (.one .ptr) 82 #[.int .i64 p0]) fun (x1 : Option Addr) =>
  HM.bind (α := Nat) (HM.new (.cells #[.pointer x1] 167)) fun (x2 : Nat) =>
  HM.pure (some ⟨x2, 0, none⟩, ())

theorem inflow_New_den (p0 : Int) : denFn Tryd.prog [82] 7 [0, 2] [0] Tryd.f48.results.toList [.one .ptr] (bodyOf Tryd.f48) [Kind.val (.one (.int .i64)) p0] = inflow_New p0 := by kernel_rfl
theorem inflow_New_calls (p0 : Int) (h : Heap) (Q : Value → Heap → Prop) (hh : inflow_New p0 h fun x h' => Q (.pointer x.1) h') :
    HCalls Tryd.prog 48 #[.int .i64 p0] h Q := by
  rw [← inflow_New_den] at hh
  exact calls_of_den Tryd.func48 (by kernel_rfl) Tryd.ntmps48 (by kernel_rfl) (fun f hf => by
      rcases List.mem_cons.1 hf with rfl | hf
      · exact Tryd.call82
      cases hf) orders hh

/-- (*aqueduct/session.Table).at -/
def session_Table_at (p0 : Option Addr) (p1 : Int) : HM (Option Addr × Unit) :=
  HM.ite (Option.isNone p0) (
  HM.pure (none, ())) (
  HM.bind (α := Addr) (HM.nonnil p0) fun (x1 : Addr) =>
  HM.bind (α := Option Nat) (HM.load1 .map (Addr.add x1 1)) fun (x2 : Option Nat) =>
  HM.bind (α := Option Addr × Bool) (HM.lookup (Instr.sameNow (.int .i64)) (.pointer none) (.one .ptr) x2 (.int .i64 p1)) fun (x3 : Option Addr × Bool) =>
  HM.pure (x3.1, ()))

theorem session_Table_at_den (p0 : Option Addr) (p1 : Int) : denFn Tryd.prog [] 13 [0, 1, 4, 6] [0, 1, 6] Tryd.f49.results.toList [.one .ptr] (bodyOf Tryd.f49) [Kind.val (.one .ptr) p0, Kind.val (.one (.int .i64)) p1] = session_Table_at p0 p1 := by kernel_rfl
theorem session_Table_at_calls (p0 : Option Addr) (p1 : Int) (h : Heap) (Q : Value → Heap → Prop) (hh : session_Table_at p0 p1 h fun x h' => Q (.pointer x.1) h') :
    HCalls Tryd.prog 49 #[.pointer p0, .int .i64 p1] h Q := by
  rw [← session_Table_at_den] at hh
  exact calls_of_den Tryd.func49 (by kernel_rfl) Tryd.ntmps49 (by kernel_rfl) (fun f hf => by cases hf) orders hh

/-- (*aqueduct/outflow.Flow).goOn -/
def outflow_Flow_goOn (p0 : Option Addr) (p1 : Slc) : HM (Slc × Unit) :=
  HM.bind (α := Slc × Unit) (HM.loop (σ := Slc × Unit) (τ := Slc × Unit) (fun (x2 : Slc × Unit) =>
  HM.bind (α := Bool × Unit) (HM.bind (α := Addr) (HM.nonnil p0) fun (x3 : Addr) =>
  HM.bind (α := Bool) (HM.load1 .bool (Addr.add x3 2)) fun (x4 : Bool) =>
  HM.ite x4 (
  HM.bind (α := Addr) (HM.nonnil p0) fun (x5 : Addr) =>
  HM.bind (α := Slc) (HM.load1 .slc (Addr.add x5 4)) fun (x6 : Slc) =>
  HM.pure (decide (0 < (((x6.len : Nat) : Int) : Int)), ())) (
  HM.pure (false, ()))) fun (x7 : Bool × Unit) =>
  HM.ite x7.1 (
  HM.bind (α := Addr) (HM.nonnil p0) fun (x8 : Addr) =>
  HM.bind (α := Slc) (HM.load1 .slc (Addr.add x8 4)) fun (x9 : Slc) =>
  HM.bind (α := Addr) (HM.idx x9.a x9.len 0 5) fun (x10 : Addr) =>
  HM.bind (α := ByteArray × ByteArray × Int × Bool × ByteArray × Unit) (HM.loadN [.str, .str, .int .i64, .bool, .str] x10) fun (x11 : ByteArray × ByteArray × Int × Bool × ByteArray × Unit) =>
  HM.bind (α := Nat) (HM.new (.cells #[.string (ByteArray.mk #[]), .string (ByteArray.mk #[]), .int .i64 0, .bool false, .string (ByteArray.mk #[])] 36)) fun (x12 : Nat) =>
  HM.bind (α := Unit) (HM.storeN ⟨x12, 0, none⟩ [.string x11.1, .string x11.2.1, .int .i64 x11.2.2.1, .bool x11.2.2.2.1, .string x11.2.2.2.2.1]) fun (_ : Unit) =>
  HM.bind (α := Bool × Unit) (HM.bind (α := Int) (HM.load1 (.int .i64) (Addr.add ⟨x12, 0, none⟩ 2)) fun (x13 : Int) =>
  HM.ite (decide (0 < (x13 : Int))) (
  HM.bind (α := Addr) (HM.nonnil p0) fun (x14 : Addr) =>
  HM.bind (α := Slc) (HM.load1 .slc (Addr.add x14 3)) fun (x15 : Slc) =>
  HM.bind (α := Addr) (HM.nonnil p0) fun (x16 : Addr) =>
  HM.bind (α := Int) (HM.load1 (.int .i64) (Addr.add x16 1)) fun (x17 : Int) =>
  HM.pure (decide (x17 ≤ (((x15.len : Nat) : Int) : Int)), ())) (
  HM.pure (false, ()))) fun (x18 : Bool × Unit) =>
  HM.ite x18.1 (
  HM.pure (.inr (x2.1, ()))) (
  HM.bind (α := Addr) (HM.nonnil p0) fun (x19 : Addr) =>
  HM.bind (α := Slc) (HM.load1 .slc (Addr.add x19 4)) fun (x20 : Slc) =>
  HM.bind (α := Slc) (HM.slice x20 (some 1) none none 5) fun (x21 : Slc) =>
  HM.bind (α := Addr) (HM.nonnil p0) fun (x22 : Addr) =>
  HM.bind (α := Unit) (HM.store1 (Addr.add x22 4) (.slice x21.a x21.len x21.cap)) fun (_ : Unit) =>
  HM.bind (α := Int) (HM.load1 (.int .i64) (Addr.add ⟨x12, 0, none⟩ 2)) fun (x23 : Int) =>
  HM.bind (α := Int × Unit) (HM.ite (decide (0 < (x23 : Int))) (
  HM.bind (α := Addr) (HM.nonnil p0) fun (x25 : Addr) =>
  HM.bind (α := Option Addr) (HM.load1 .ptr (Addr.add x25 0)) fun (x26 : Option Addr) =>
  HM.bind (α := Int × Int × Unit) (HM.callN Tryd.prog [.one (.int .i64), .one (.int .u8)] 83 #[.pointer x26]) fun (x27 : Int × Int × Unit) =>
  HM.bind (α := Addr) (HM.nonnil p0) fun (x28 : Addr) =>
  HM.bind (α := Slc) (HM.load1 .slc (Addr.add x28 3)) fun (x29 : Slc) =>
  HM.bind (α := ByteArray × ByteArray × Int × Bool × ByteArray × Unit) (HM.loadN [.str, .str, .int .i64, .bool, .str] ⟨x12, 0, none⟩) fun (x30 : ByteArray × ByteArray × Int × Bool × ByteArray × Unit) =>
  HM.bind (α := Nat) (HM.new (.cells #[.int .i64 x27.1, .string x30.1, .string x30.2.1, .int .i64 x30.2.2.1, .bool x30.2.2.2.1, .string x30.2.2.2.2.1, .bool false] 157)) fun (x31 : Nat) =>
  HM.bind (α := Slc) (HM.load1 .slc (Addr.add x28 3)) fun (x32 : Slc) =>
  HM.req ((.slice x32.a x32.len x32.cap : Value) = .slice x29.a x29.len x29.cap) <|
  HM.bind (α := Slc) (HM.append 157 7 80 #[.int .i64 0, .string (ByteArray.mk #[]), .string (ByteArray.mk #[]), .int .i64 0, .bool false, .string (ByteArray.mk #[]), .bool false] x29 1 (srcSlc 7 (⟨some ⟨x31, 0, none⟩, 1, 1⟩))) fun (x33 : Slc) =>
  HM.bind (α := Addr) (HM.nonnil p0) fun (x34 : Addr) =>
  HM.bind (α := Unit) (HM.store1 (Addr.add x34 3) (.slice x33.a x33.len x33.cap)) fun (_ : Unit) =>
  HM.pure (x27.1, ())) (
  HM.pure (0, ()))) fun (x24 : Int × Unit) =>
  HM.bind (α := ByteArray × ByteArray × Int × Bool × ByteArray × Unit) (HM.loadN [.str, .str, .int .i64, .bool, .str] ⟨x12, 0, none⟩) fun (x35 : ByteArray × ByteArray × Int × Bool × ByteArray × Unit) =>
  HM.bind (α := Int × Bool × Bool × Int × Int × ByteArray × ByteArray × Int × Slc × Slc × ByteArray × Bool × Int × Bool × ByteArray × ByteArray × Int × Bool × Slc × Bool × Bool × ByteArray × ByteArray × Bool × Slc × Slc × Unit) (HM.call1 Tryd.prog (.agg [.int .i64, .bool, .bool, .int .i64, .int .i64, .str, .str, .int .u8, .slc, .slc, .str, .bool, .int .i64, .bool, .str, .str, .int .i64, .bool, .slc, .bool, .bool, .str, .str, .bool, .slc, .slc]) 54 #[.agg #[.string x35.1, .string x35.2.1, .int .i64 x35.2.2.1, .bool x35.2.2.2.1, .string x35.2.2.2.2.1], .int .i64 x24.1, .bool false]) fun (x36 : Int × Bool × Bool × Int × Int × ByteArray × ByteArray × Int × Slc × Slc × ByteArray × Bool × Int × Bool × ByteArray × ByteArray × Int × Bool × Slc × Bool × Bool × ByteArray × ByteArray × Bool × Slc × Slc × Unit) =>
  HM.bind (α := Nat) (HM.new (.cells #[.int .i64 x36.1, .bool x36.2.1, .bool x36.2.2.1, .int .i64 x36.2.2.2.1, .int .i64 x36.2.2.2.2.1, .string x36.2.2.2.2.2.1, .string x36.2.2.2.2.2.2.1, .int .u8 x36.2.2.2.2.2.2.2.1, .slice x36.2.2.2.2.2.2.2.2.1.a x36.2.2.2.2.2.2.2.2.1.len x36.2.2.2.2.2.2.2.2.1.cap, .slice x36.2.2.2.2.2.2.2.2.2.1.a x36.2.2.2.2.2.2.2.2.2.1.len x36.2.2.2.2.2.2.2.2.2.1.cap, .string x36.2.2.2.2.2.2.2.2.2.2.1, .bool x36.2.2.2.2.2.2.2.2.2.2.2.1, .int .i64 x36.2.2.2.2.2.2.2.2.2.2.2.2.1, .bool x36.2.2.2.2.2.2.2.2.2.2.2.2.2.1, .string x36.2.2.2.2.2.2.2.2.2.2.2.2.2.2.1, .string x36.2.2.2.2.2.2.2.2.2.2.2.2.2.2.2.1, .int .i64 x36.2.2.2.2.2.2.2.2.2.2.2.2.2.2.2.2.1, .bool x36.2.2.2.2.2.2.2.2.2.2.2.2.2.2.2.2.2.1, .slice x36.2.2.2.2.2.2.2.2.2.2.2.2.2.2.2.2.2.2.1.a x36.2.2.2.2.2.2.2.2.2.2.2.2.2.2.2.2.2.2.1.len x36.2.2.2.2.2.2.2.2.2.2.2.2.2.2.2.2.2.2.1.cap, .bool x36.2.2.2.2.2.2.2.2.2.2.2.2.2.2.2.2.2.2.2.1, .bool x36.2.2.2.2.2.2.2.2.2.2.2.2.2.2.2.2.2.2.2.2.1, .string x36.2.2.2.2.2.2.2.2.2.2.2.2.2.2.2.2.2.2.2.2.2.1, .string x36.2.2.2.2.2.2.2.2.2.2.2.2.2.2.2.2.2.2.2.2.2.2.1, .bool x36.2.2.2.2.2.2.2.2.2.2.2.2.2.2.2.2.2.2.2.2.2.2.2.1, .slice x36.2.2.2.2.2.2.2.2.2.2.2.2.2.2.2.2.2.2.2.2.2.2.2.2.1.a x36.2.2.2.2.2.2.2.2.2.2.2.2.2.2.2.2.2.2.2.2.2.2.2.2.1.len x36.2.2.2.2.2.2.2.2.2.2.2.2.2.2.2.2.2.2.2.2.2.2.2.2.1.cap, .slice x36.2.2.2.2.2.2.2.2.2.2.2.2.2.2.2.2.2.2.2.2.2.2.2.2.2.1.a x36.2.2.2.2.2.2.2.2.2.2.2.2.2.2.2.2.2.2.2.2.2.2.2.2.2.1.len x36.2.2.2.2.2.2.2.2.2.2.2.2.2.2.2.2.2.2.2.2.2.2.2.2.2.1.cap] 49)) fun (x37 : Nat) =>
  HM.bind (α := Slc) (HM.append 49 26 328 #[.int .i64 0, .bool false, .bool false, .int .i64 0, .int .i64 0, .string (ByteArray.mk #[]), .string (ByteArray.mk #[]), .int .u8 0, .slice none 0 0, .slice none 0 0, .string (ByteArray.mk #[]), .bool false, .int .i64 0, .bool false, .string (ByteArray.mk #[]), .string (ByteArray.mk #[]), .int .i64 0, .bool false, .slice none 0 0, .bool false, .bool false, .string (ByteArray.mk #[]), .string (ByteArray.mk #[]), .bool false, .slice none 0 0, .slice none 0 0] x2.1 1 (srcSlc 26 (⟨some ⟨x37, 0, none⟩, 1, 1⟩))) fun (x38 : Slc) =>
  HM.pure (.inl (x38, ())))) (
  HM.pure (.inr (x2.1, ())))) (p1, ())) fun (x1 : Slc × Unit) =>
  HM.pure (x1.1, ())

theorem outflow_Flow_goOn_den (p0 : Option Addr) (p1 : Slc) : denFn Tryd.prog [83, 54] 78 [0, 1, 4, 5, 6, 18, 39, 50] [0, 1, 5, 6, 18, 39, 50] Tryd.f50.results.toList [.one .slc] (bodyOf Tryd.f50) [Kind.val (.one .ptr) p0, Kind.val (.one .slc) p1] = outflow_Flow_goOn p0 p1 := by kernel_rfl
theorem outflow_Flow_goOn_calls (p0 : Option Addr) (p1 : Slc) (h : Heap) (Q : Value → Heap → Prop) (hh : outflow_Flow_goOn p0 p1 h fun x h' => Q (.slice x.1.a x.1.len x.1.cap) h') :
    HCalls Tryd.prog 50 #[.pointer p0, .slice p1.a p1.len p1.cap] h Q := by
  rw [← outflow_Flow_goOn_den] at hh
  exact calls_of_den Tryd.func50 (by kernel_rfl) Tryd.ntmps50 (by kernel_rfl) (fun f hf => by
      rcases List.mem_cons.1 hf with rfl | hf
      · exact Tryd.call83
      rcases List.mem_cons.1 hf with rfl | hf
      · exact Tryd.call54
      cases hf) orders hh

/-- (*aqueduct/outflow.Flow).End -/
def outflow_Flow_End (p0 : Option Addr) : HM (Unit) :=
  HM.bind (α := Unit) (HM.ite (!(Option.isNone p0)) (
  HM.bind (α := Addr) (HM.nonnil p0) fun (x2 : Addr) =>
  HM.bind (α := Unit) (HM.store1 (Addr.add x2 2) (.bool false)) fun (_ : Unit) =>
  HM.pure ()) (
  HM.pure ())) fun (x1 : Unit) =>
  HM.pure ()

theorem outflow_Flow_End_den (p0 : Option Addr) : denFn Tryd.prog [] 7 [0, 3] [0, 3] Tryd.f51.results.toList [] (bodyOf Tryd.f51) [Kind.val (.one .ptr) p0] = outflow_Flow_End p0 := by kernel_rfl
theorem outflow_Flow_End_calls (p0 : Option Addr) (h : Heap) (Q : Value → Heap → Prop) (hh : outflow_Flow_End p0 h fun x h' => Q (.tuple #[]) h') :
    HCalls Tryd.prog 51 #[.pointer p0] h Q := by
  rw [← outflow_Flow_End_den] at hh
  exact calls_of_den Tryd.func51 (by kernel_rfl) Tryd.ntmps51 (by kernel_rfl) (fun f hf => by cases hf) orders hh

/-- slices.Clone[[]aqueduct/outflow.Message,aqueduct/outflow.Message] -/
def slices_Clone (p0 : Slc) : HM (Slc × Unit) :=
  HM.ite (Option.isNone p0.a) (
  HM.pure (⟨none, 0, 0⟩, ())) (
  HM.bind (α := Nat) (HM.new (.cells #[] 36)) fun (x1 : Nat) =>
  HM.bind (α := Slc) (HM.append 36 5 64 #[.string (ByteArray.mk #[]), .string (ByteArray.mk #[]), .int .i64 0, .bool false, .string (ByteArray.mk #[])] (⟨some ⟨x1, 0, none⟩, 0, 0⟩) p0.len (srcSlc 5 p0)) fun (x2 : Slc) =>
  HM.pure (x2, ()))

theorem slices_Clone_den (p0 : Slc) : denFn Tryd.prog [] 8 [0, 2, 4] [0, 4] Tryd.f52.results.toList [.one .slc] (bodyOf Tryd.f52) [Kind.val (.one .slc) p0] = slices_Clone p0 := by kernel_rfl
theorem slices_Clone_calls (p0 : Slc) (h : Heap) (Q : Value → Heap → Prop) (hh : slices_Clone p0 h fun x h' => Q (.slice x.1.a x.1.len x.1.cap) h') :
    HCalls Tryd.prog 52 #[.slice p0.a p0.len p0.cap] h Q := by
  rw [← slices_Clone_den] at hh
  exact calls_of_den Tryd.func52 (by kernel_rfl) Tryd.ntmps52 (by kernel_rfl) (fun f hf => by cases hf) orders hh

/-- aqueduct/outflow.bounded -/
def outflow_bounded (p0 : Int) : HM (Int × Unit) :=
  HM.pure (if 1 < ((if 64 < (p0 : Int) then 64 else p0) : Int) then (if 64 < (p0 : Int) then 64 else p0) else 1, ())

theorem outflow_bounded_den (p0 : Int) : denFn Tryd.prog [] 6 [0, 2] [0] Tryd.f53.results.toList [.one (.int .i64)] (bodyOf Tryd.f53) [Kind.val (.one (.int .i64)) p0] = outflow_bounded p0 := by kernel_rfl
theorem outflow_bounded_calls (p0 : Int) (h : Heap) (Q : Value → Heap → Prop) (hh : outflow_bounded p0 h fun x h' => Q (.int .i64 x.1) h') :
    HCalls Tryd.prog 53 #[.int .i64 p0] h Q := by
  rw [← outflow_bounded_den] at hh
  exact calls_of_den Tryd.func53 (by kernel_rfl) Tryd.ntmps53 (by kernel_rfl) (fun f hf => by cases hf) orders hh

/-- (aqueduct/outflow.Message).packet -/
def outflow_Message_packet (p0 : ByteArray × ByteArray × Int × Bool × ByteArray × Unit) (p1 : Int) (p2 : Bool) : HM ((Int × Bool × Bool × Int × Int × ByteArray × ByteArray × Int × Slc × Slc × ByteArray × Bool × Int × Bool × ByteArray × ByteArray × Int × Bool × Slc × Bool × Bool × ByteArray × ByteArray × Bool × Slc × Slc × Unit) × Unit) :=
  HM.bind (α := Nat) (HM.new (.cells #[.string p0.1, .string p0.2.1, .int .i64 p0.2.2.1, .bool p0.2.2.2.1, .string p0.2.2.2.2.1] 36)) fun (x1 : Nat) =>
  HM.bind (α := Nat) (HM.new (.cells #[.int .i64 0, .bool false, .bool false, .int .i64 0, .int .i64 0, .string (ByteArray.mk #[]), .string (ByteArray.mk #[]), .int .u8 0, .slice none 0 0, .slice none 0 0, .string (ByteArray.mk #[]), .bool false, .int .i64 0, .bool false, .string (ByteArray.mk #[]), .string (ByteArray.mk #[]), .int .i64 0, .bool false, .slice none 0 0, .bool false, .bool false, .string (ByteArray.mk #[]), .string (ByteArray.mk #[]), .bool false, .slice none 0 0, .slice none 0 0] 49)) fun (x2 : Nat) =>
  HM.bind (α := Int) (HM.load1 (.int .i64) (Addr.add ⟨x1, 0, none⟩ 2)) fun (x3 : Int) =>
  HM.bind (α := Bool) (HM.load1 .bool (Addr.add ⟨x1, 0, none⟩ 3)) fun (x4 : Bool) =>
  HM.bind (α := ByteArray) (HM.load1 .str (Addr.add ⟨x1, 0, none⟩ 0)) fun (x5 : ByteArray) =>
  HM.bind (α := ByteArray) (HM.load1 .str (Addr.add ⟨x1, 0, none⟩ 1)) fun (x6 : ByteArray) =>
  HM.bind (α := Nat) (HM.new (.cells #[.int .i64 0, .bool false, .bool false, .int .i64 0, .int .i64 0, .string (ByteArray.mk #[]), .string (ByteArray.mk #[]), .int .u8 0, .slice none 0 0, .slice none 0 0, .string (ByteArray.mk #[]), .bool false, .int .i64 0, .bool false, .string (ByteArray.mk #[]), .string (ByteArray.mk #[]), .int .i64 0, .bool false, .slice none 0 0, .bool false, .bool false, .string (ByteArray.mk #[]), .string (ByteArray.mk #[]), .bool false, .slice none 0 0, .slice none 0 0] 49)) fun (x7 : Nat) =>
  HM.bind (α := Unit) (HM.storeN ⟨x7, 0, none⟩ [.int .i64 3, .bool p2, .bool x4, .int .i64 x3, .int .i64 p1, .string x5, .string x6, .int .u8 0, .slice none 0 0, .slice none 0 0, .string (ByteArray.mk #[]), .bool false, .int .i64 0, .bool false, .string (ByteArray.mk #[]), .string (ByteArray.mk #[]), .int .i64 0, .bool false, .slice none 0 0, .bool false, .bool false, .string (ByteArray.mk #[]), .string (ByteArray.mk #[]), .bool false, .slice none 0 0, .slice none 0 0]) fun (_ : Unit) =>
  HM.bind (α := ByteArray) (HM.load1 .str (Addr.add ⟨x1, 0, none⟩ 4)) fun (x8 : ByteArray) =>
  HM.bind (α := Unit) (HM.ite (!(decide (x8 = (ByteArray.mk #[])))) (
  HM.bind (α := ByteArray) (HM.load1 .str (Addr.add ⟨x1, 0, none⟩ 4)) fun (x10 : ByteArray) =>
  HM.bind (α := Nat) (HM.new (.cells #[.int .i64 38, .int .i64 0, .string (ByteArray.mk #[116, 97, 103]), .string x10] 200)) fun (x11 : Nat) =>
  HM.bind (α := Unit) (HM.store1 (Addr.add ⟨x7, 0, none⟩ 9) (.slice (some ⟨x11, 0, none⟩) 1 1)) fun (_ : Unit) =>
  HM.pure ()) (
  HM.pure ())) fun (x9 : Unit) =>
  HM.bind (α := Int × Bool × Bool × Int × Int × ByteArray × ByteArray × Int × Slc × Slc × ByteArray × Bool × Int × Bool × ByteArray × ByteArray × Int × Bool × Slc × Bool × Bool × ByteArray × ByteArray × Bool × Slc × Slc × Unit) (HM.loadN [.int .i64, .bool, .bool, .int .i64, .int .i64, .str, .str, .int .u8, .slc, .slc, .str, .bool, .int .i64, .bool, .str, .str, .int .i64, .bool, .slc, .bool, .bool, .str, .str, .bool, .slc, .slc] ⟨x7, 0, none⟩) fun (x12 : Int × Bool × Bool × Int × Int × ByteArray × ByteArray × Int × Slc × Slc × ByteArray × Bool × Int × Bool × ByteArray × ByteArray × Int × Bool × Slc × Bool × Bool × ByteArray × ByteArray × Bool × Slc × Slc × Unit) =>
  HM.bind (α := Unit) (HM.storeN ⟨x2, 0, none⟩ [.int .i64 x12.1, .bool x12.2.1, .bool x12.2.2.1, .int .i64 x12.2.2.2.1, .int .i64 x12.2.2.2.2.1, .string x12.2.2.2.2.2.1, .string x12.2.2.2.2.2.2.1, .int .u8 x12.2.2.2.2.2.2.2.1, .slice x12.2.2.2.2.2.2.2.2.1.a x12.2.2.2.2.2.2.2.2.1.len x12.2.2.2.2.2.2.2.2.1.cap, .slice x12.2.2.2.2.2.2.2.2.2.1.a x12.2.2.2.2.2.2.2.2.2.1.len x12.2.2.2.2.2.2.2.2.2.1.cap, .string x12.2.2.2.2.2.2.2.2.2.2.1, .bool x12.2.2.2.2.2.2.2.2.2.2.2.1, .int .i64 x12.2.2.2.2.2.2.2.2.2.2.2.2.1, .bool x12.2.2.2.2.2.2.2.2.2.2.2.2.2.1, .string x12.2.2.2.2.2.2.2.2.2.2.2.2.2.2.1, .string x12.2.2.2.2.2.2.2.2.2.2.2.2.2.2.2.1, .int .i64 x12.2.2.2.2.2.2.2.2.2.2.2.2.2.2.2.2.1, .bool x12.2.2.2.2.2.2.2.2.2.2.2.2.2.2.2.2.2.1, .slice x12.2.2.2.2.2.2.2.2.2.2.2.2.2.2.2.2.2.2.1.a x12.2.2.2.2.2.2.2.2.2.2.2.2.2.2.2.2.2.2.1.len x12.2.2.2.2.2.2.2.2.2.2.2.2.2.2.2.2.2.2.1.cap, .bool x12.2.2.2.2.2.2.2.2.2.2.2.2.2.2.2.2.2.2.2.1, .bool x12.2.2.2.2.2.2.2.2.2.2.2.2.2.2.2.2.2.2.2.2.1, .string x12.2.2.2.2.2.2.2.2.2.2.2.2.2.2.2.2.2.2.2.2.2.1, .string x12.2.2.2.2.2.2.2.2.2.2.2.2.2.2.2.2.2.2.2.2.2.2.1, .bool x12.2.2.2.2.2.2.2.2.2.2.2.2.2.2.2.2.2.2.2.2.2.2.2.1, .slice x12.2.2.2.2.2.2.2.2.2.2.2.2.2.2.2.2.2.2.2.2.2.2.2.2.1.a x12.2.2.2.2.2.2.2.2.2.2.2.2.2.2.2.2.2.2.2.2.2.2.2.2.1.len x12.2.2.2.2.2.2.2.2.2.2.2.2.2.2.2.2.2.2.2.2.2.2.2.2.1.cap, .slice x12.2.2.2.2.2.2.2.2.2.2.2.2.2.2.2.2.2.2.2.2.2.2.2.2.2.1.a x12.2.2.2.2.2.2.2.2.2.2.2.2.2.2.2.2.2.2.2.2.2.2.2.2.2.1.len x12.2.2.2.2.2.2.2.2.2.2.2.2.2.2.2.2.2.2.2.2.2.2.2.2.2.1.cap]) fun (_ : Unit) =>
  HM.bind (α := Int × Bool × Bool × Int × Int × ByteArray × ByteArray × Int × Slc × Slc × ByteArray × Bool × Int × Bool × ByteArray × ByteArray × Int × Bool × Slc × Bool × Bool × ByteArray × ByteArray × Bool × Slc × Slc × Unit) (HM.loadN [.int .i64, .bool, .bool, .int .i64, .int .i64, .str, .str, .int .u8, .slc, .slc, .str, .bool, .int .i64, .bool, .str, .str, .int .i64, .bool, .slc, .bool, .bool, .str, .str, .bool, .slc, .slc] ⟨x2, 0, none⟩) fun (x13 : Int × Bool × Bool × Int × Int × ByteArray × ByteArray × Int × Slc × Slc × ByteArray × Bool × Int × Bool × ByteArray × ByteArray × Int × Bool × Slc × Bool × Bool × ByteArray × ByteArray × Bool × Slc × Slc × Unit) =>
  HM.pure ((x13.1, x13.2.1, x13.2.2.1, x13.2.2.2.1, x13.2.2.2.2.1, x13.2.2.2.2.2.1, x13.2.2.2.2.2.2.1, x13.2.2.2.2.2.2.2.1, x13.2.2.2.2.2.2.2.2.1, x13.2.2.2.2.2.2.2.2.2.1, x13.2.2.2.2.2.2.2.2.2.2.1, x13.2.2.2.2.2.2.2.2.2.2.2.1, x13.2.2.2.2.2.2.2.2.2.2.2.2.1, x13.2.2.2.2.2.2.2.2.2.2.2.2.2.1, x13.2.2.2.2.2.2.2.2.2.2.2.2.2.2.1, x13.2.2.2.2.2.2.2.2.2.2.2.2.2.2.2.1, x13.2.2.2.2.2.2.2.2.2.2.2.2.2.2.2.2.1, x13.2.2.2.2.2.2.2.2.2.2.2.2.2.2.2.2.2.1, x13.2.2.2.2.2.2.2.2.2.2.2.2.2.2.2.2.2.2.1, x13.2.2.2.2.2.2.2.2.2.2.2.2.2.2.2.2.2.2.2.1, x13.2.2.2.2.2.2.2.2.2.2.2.2.2.2.2.2.2.2.2.2.1, x13.2.2.2.2.2.2.2.2.2.2.2.2.2.2.2.2.2.2.2.2.2.1, x13.2.2.2.2.2.2.2.2.2.2.2.2.2.2.2.2.2.2.2.2.2.2.1, x13.2.2.2.2.2.2.2.2.2.2.2.2.2.2.2.2.2.2.2.2.2.2.2.1, x13.2.2.2.2.2.2.2.2.2.2.2.2.2.2.2.2.2.2.2.2.2.2.2.2.1, x13.2.2.2.2.2.2.2.2.2.2.2.2.2.2.2.2.2.2.2.2.2.2.2.2.2.1, ()), ())

theorem outflow_Message_packet_den (p0 : ByteArray × ByteArray × Int × Bool × ByteArray × Unit) (p1 : Int) (p2 : Bool) : denFn Tryd.prog [] 28 [0, 1, 2, 3, 6, 7, 21] [0, 1, 2, 3, 6, 7, 21] Tryd.f54.results.toList [.agg [.int .i64, .bool, .bool, .int .i64, .int .i64, .str, .str, .int .u8, .slc, .slc, .str, .bool, .int .i64, .bool, .str, .str, .int .i64, .bool, .slc, .bool, .bool, .str, .str, .bool, .slc, .slc]] (bodyOf Tryd.f54) [Kind.val (.agg [.str, .str, .int .i64, .bool, .str]) p0, Kind.val (.one (.int .i64)) p1, Kind.val (.one .bool) p2] = outflow_Message_packet p0 p1 p2 := by kernel_rfl
theorem outflow_Message_packet_calls (p0 : ByteArray × ByteArray × Int × Bool × ByteArray × Unit) (p1 : Int) (p2 : Bool) (h : Heap) (Q : Value → Heap → Prop) (hh : outflow_Message_packet p0 p1 p2 h fun x h' => Q (.agg #[.int .i64 x.1.1, .bool x.1.2.1, .bool x.1.2.2.1, .int .i64 x.1.2.2.2.1, .int .i64 x.1.2.2.2.2.1, .string x.1.2.2.2.2.2.1, .string x.1.2.2.2.2.2.2.1, .int .u8 x.1.2.2.2.2.2.2.2.1, .slice x.1.2.2.2.2.2.2.2.2.1.a x.1.2.2.2.2.2.2.2.2.1.len x.1.2.2.2.2.2.2.2.2.1.cap, .slice x.1.2.2.2.2.2.2.2.2.2.1.a x.1.2.2.2.2.2.2.2.2.2.1.len x.1.2.2.2.2.2.2.2.2.2.1.cap, .string x.1.2.2.2.2.2.2.2.2.2.2.1, .bool x.1.2.2.2.2.2.2.2.2.2.2.2.1, .int .i64 x.1.2.2.2.2.2.2.2.2.2.2.2.2.1, .bool x.1.2.2.2.2.2.2.2.2.2.2.2.2.2.1, .string x.1.2.2.2.2.2.2.2.2.2.2.2.2.2.2.1, .string x.1.2.2.2.2.2.2.2.2.2.2.2.2.2.2.2.1, .int .i64 x.1.2.2.2.2.2.2.2.2.2.2.2.2.2.2.2.2.1, .bool x.1.2.2.2.2.2.2.2.2.2.2.2.2.2.2.2.2.2.1, .slice x.1.2.2.2.2.2.2.2.2.2.2.2.2.2.2.2.2.2.2.1.a x.1.2.2.2.2.2.2.2.2.2.2.2.2.2.2.2.2.2.2.1.len x.1.2.2.2.2.2.2.2.2.2.2.2.2.2.2.2.2.2.2.1.cap, .bool x.1.2.2.2.2.2.2.2.2.2.2.2.2.2.2.2.2.2.2.2.1, .bool x.1.2.2.2.2.2.2.2.2.2.2.2.2.2.2.2.2.2.2.2.2.1, .string x.1.2.2.2.2.2.2.2.2.2.2.2.2.2.2.2.2.2.2.2.2.2.1, .string x.1.2.2.2.2.2.2.2.2.2.2.2.2.2.2.2.2.2.2.2.2.2.2.1, .bool x.1.2.2.2.2.2.2.2.2.2.2.2.2.2.2.2.2.2.2.2.2.2.2.2.1, .slice x.1.2.2.2.2.2.2.2.2.2.2.2.2.2.2.2.2.2.2.2.2.2.2.2.2.1.a x.1.2.2.2.2.2.2.2.2.2.2.2.2.2.2.2.2.2.2.2.2.2.2.2.2.1.len x.1.2.2.2.2.2.2.2.2.2.2.2.2.2.2.2.2.2.2.2.2.2.2.2.2.1.cap, .slice x.1.2.2.2.2.2.2.2.2.2.2.2.2.2.2.2.2.2.2.2.2.2.2.2.2.2.1.a x.1.2.2.2.2.2.2.2.2.2.2.2.2.2.2.2.2.2.2.2.2.2.2.2.2.2.1.len x.1.2.2.2.2.2.2.2.2.2.2.2.2.2.2.2.2.2.2.2.2.2.2.2.2.2.1.cap]) h') :
    HCalls Tryd.prog 54 #[.agg #[.string p0.1, .string p0.2.1, .int .i64 p0.2.2.1, .bool p0.2.2.2.1, .string p0.2.2.2.2.1], .int .i64 p1, .bool p2] h Q := by
  rw [← outflow_Message_packet_den] at hh
  exact calls_of_den Tryd.func54 (by kernel_rfl) Tryd.ntmps54 (by kernel_rfl) (fun f hf => by cases hf) orders hh

/-- aqueduct/session.info -/
def session_info (p0 : Option Addr) : HM ((Int × ByteArray × Bool × Bool × Unit) × Bool × Unit) :=
  HM.bind (α := Nat) (HM.new (.cells #[.int .i64 0, .string (ByteArray.mk #[]), .bool false, .bool false] 60)) fun (x1 : Nat) =>
  HM.ite (Option.isNone p0) (
  HM.bind (α := Unit) (HM.storeN ⟨x1, 0, none⟩ [.int .i64 0, .string (ByteArray.mk #[]), .bool false, .bool false]) fun (_ : Unit) =>
  HM.bind (α := Int × ByteArray × Bool × Bool × Unit) (HM.loadN [.int .i64, .str, .bool, .bool] ⟨x1, 0, none⟩) fun (x2 : Int × ByteArray × Bool × Bool × Unit) =>
  HM.pure ((x2.1, x2.2.1, x2.2.2.1, x2.2.2.2.1, ()), false, ())) (
  HM.bind (α := Addr) (HM.nonnil p0) fun (x3 : Addr) =>
  HM.bind (α := Int × ByteArray × Bool × Bool × Unit) (HM.loadN [.int .i64, .str, .bool, .bool] (Addr.add x3 0)) fun (x4 : Int × ByteArray × Bool × Bool × Unit) =>
  HM.bind (α := Unit) (HM.storeN ⟨x1, 0, none⟩ [.int .i64 x4.1, .string x4.2.1, .bool x4.2.2.1, .bool x4.2.2.2.1]) fun (_ : Unit) =>
  HM.bind (α := Int × ByteArray × Bool × Bool × Unit) (HM.loadN [.int .i64, .str, .bool, .bool] ⟨x1, 0, none⟩) fun (x5 : Int × ByteArray × Bool × Bool × Unit) =>
  HM.pure ((x5.1, x5.2.1, x5.2.2.1, x5.2.2.2.1, ()), true, ()))

theorem session_info_den (p0 : Option Addr) : denFn Tryd.prog [] 11 [0, 2, 3, 5] [0, 2, 5] Tryd.f57.results.toList [.agg [.int .i64, .str, .bool, .bool], .one .bool] (bodyOf Tryd.f57) [Kind.val (.one .ptr) p0] = session_info p0 := by kernel_rfl
theorem session_info_calls (p0 : Option Addr) (h : Heap) (Q : Value → Heap → Prop) (hh : session_info p0 h fun x h' => Q (.tuple #[.agg #[.int .i64 x.1.1, .string x.1.2.1, .bool x.1.2.2.1, .bool x.1.2.2.2.1], .bool x.2.1]) h') :
    HCalls Tryd.prog 57 #[.pointer p0] h Q := by
  rw [← session_info_den] at hh
  exact calls_of_den Tryd.func57 (by kernel_rfl) Tryd.ntmps57 (by kernel_rfl) (fun f hf => by cases hf) orders hh

/-- aqueduct/aqueductref18.drop -/
def ref18_drop (p0 : Option Addr) (p1 : Int) : HM (Unit) :=
  HM.bind (α := Slc × Int × Unit) (HM.loop (σ := Slc × Int × Unit) (τ := Slc × Int × Unit) (fun (x2 : Slc × Int × Unit) =>
  HM.bind (α := Addr) (HM.nonnil p0) fun (x3 : Addr) =>
  HM.bind (α := Slc) (HM.load1 .slc (Addr.add x3 1)) fun (x4 : Slc) =>
  HM.ite (decide (x2.2.1 < (((x4.len : Nat) : Int) : Int))) (
  HM.bind (α := Addr) (HM.nonnil p0) fun (x5 : Addr) =>
  HM.bind (α := Slc) (HM.load1 .slc (Addr.add x5 1)) fun (x6 : Slc) =>
  HM.bind (α := Addr) (HM.idx x6.a x6.len x2.2.1 1) fun (x7 : Addr) =>
  HM.bind (α := Option Addr) (HM.load1 .ptr x7) fun (x8 : Option Addr) =>
  HM.bind (α := Addr) (HM.nonnil x8) fun (x9 : Addr) =>
  HM.bind (α := Int) (HM.load1 (.int .i64) (Addr.add x9 0)) fun (x10 : Int) =>
  HM.bind (α := Slc × Unit) (HM.ite (!(x10 == p1)) (
  HM.bind (α := Addr) (HM.nonnil p0) fun (x12 : Addr) =>
  HM.bind (α := Slc) (HM.load1 .slc (Addr.add x12 1)) fun (x13 : Slc) =>
  HM.bind (α := Addr) (HM.idx x13.a x13.len x2.2.1 1) fun (x14 : Addr) =>
  HM.bind (α := Option Addr) (HM.load1 .ptr x14) fun (x15 : Option Addr) =>
  HM.bind (α := Nat) (HM.new (.cells #[.pointer x15] 73)) fun (x16 : Nat) =>
  HM.bind (α := Slc) (HM.append 73 1 8 #[.pointer none] x2.1 1 (srcSlc 1 (⟨some ⟨x16, 0, none⟩, 1, 1⟩))) fun (x17 : Slc) =>
  HM.pure (x17, ())) (
  HM.pure (x2.1, ()))) fun (x11 : Slc × Unit) =>
  HM.pure (.inl (x11.1, IntKind.wrap .i64 (x2.2.1 + 1), ()))) (
  HM.pure (.inr (x2.1, x2.2.1, ())))) (⟨none, 0, 0⟩, 0, ())) fun (x1 : Slc × Int × Unit) =>
  HM.bind (α := Addr) (HM.nonnil p0) fun (x18 : Addr) =>
  HM.bind (α := Unit) (HM.store1 (Addr.add x18 1) (.slice x1.1.a x1.1.len x1.1.cap)) fun (_ : Unit) =>
  HM.pure ()

theorem ref18_drop_den (p0 : Option Addr) (p1 : Int) : denFn Tryd.prog [] 41 [0, 1, 4, 5, 12, 26] [0, 1, 4, 5, 12, 26] Tryd.f58.results.toList [] (bodyOf Tryd.f58) [Kind.val (.one .ptr) p0, Kind.val (.one (.int .i64)) p1] = ref18_drop p0 p1 := by kernel_rfl
theorem ref18_drop_calls (p0 : Option Addr) (p1 : Int) (h : Heap) (Q : Value → Heap → Prop) (hh : ref18_drop p0 p1 h fun x h' => Q (.tuple #[]) h') :
    HCalls Tryd.prog 58 #[.pointer p0, .int .i64 p1] h Q := by
  rw [← ref18_drop_den] at hh
  exact calls_of_den Tryd.func58 (by kernel_rfl) Tryd.ntmps58 (by kernel_rfl) (fun f hf => by cases hf) orders hh

/-- aqueduct/aqueductref14.goOn -/
def ref14_goOn (p0 : Option Addr) (p1 : Slc) : HM (Slc × Unit) :=
  HM.bind (α := Addr) (HM.nonnil p0) fun (x1 : Addr) =>
  HM.bind (α := Bool) (HM.load1 .bool (Addr.add x1 2)) fun (x2 : Bool) =>
  HM.ite (!x2) (
  HM.pure (p1, ())) (
  HM.bind (α := (Slc × Unit) ⊕ (Slc × Unit)) (HM.loop (σ := Slc × Unit) (τ := (Slc × Unit) ⊕ (Slc × Unit)) (fun (x4 : Slc × Unit) =>
  HM.bind (α := Addr) (HM.nonnil p0) fun (x5 : Addr) =>
  HM.bind (α := Slc) (HM.load1 .slc (Addr.add x5 4)) fun (x6 : Slc) =>
  HM.ite (decide (0 < (((x6.len : Nat) : Int) : Int))) (
  HM.bind (α := (Slc × Unit) ⊕ ((Slc × Unit) ⊕ ((Slc × Unit) ⊕ (Slc × Unit)))) (HM.bind (α := Addr) (HM.nonnil p0) fun (x8 : Addr) =>
  HM.bind (α := Slc) (HM.load1 .slc (Addr.add x8 4)) fun (x9 : Slc) =>
  HM.bind (α := Addr) (HM.idx x9.a x9.len 0 5) fun (x10 : Addr) =>
  HM.bind (α := ByteArray × ByteArray × Int × Bool × ByteArray × Unit) (HM.loadN [.str, .str, .int .i64, .bool, .str] x10) fun (x11 : ByteArray × ByteArray × Int × Bool × ByteArray × Unit) =>
  HM.bind (α := Nat) (HM.new (.cells #[.string (ByteArray.mk #[]), .string (ByteArray.mk #[]), .int .i64 0, .bool false, .string (ByteArray.mk #[])] 82)) fun (x12 : Nat) =>
  HM.bind (α := Unit) (HM.storeN ⟨x12, 0, none⟩ [.string x11.1, .string x11.2.1, .int .i64 x11.2.2.1, .bool x11.2.2.2.1, .string x11.2.2.2.2.1]) fun (_ : Unit) =>
  HM.bind (α := Bool × Unit) (HM.bind (α := Int) (HM.load1 (.int .i64) (Addr.add ⟨x12, 0, none⟩ 2)) fun (x13 : Int) =>
  HM.ite (decide (0 < (x13 : Int))) (
  HM.bind (α := Addr) (HM.nonnil p0) fun (x14 : Addr) =>
  HM.bind (α := Slc) (HM.load1 .slc (Addr.add x14 3)) fun (x15 : Slc) =>
  HM.bind (α := Addr) (HM.nonnil p0) fun (x16 : Addr) =>
  HM.bind (α := Int) (HM.load1 (.int .i64) (Addr.add x16 1)) fun (x17 : Int) =>
  HM.pure (decide (x17 ≤ (((x15.len : Nat) : Int) : Int)), ())) (
  HM.pure (false, ()))) fun (x18 : Bool × Unit) =>
  HM.ite x18.1 (
  HM.pure (.inr (.inr (.inr (x4.1, ()))))) (
  HM.bind (α := Addr) (HM.nonnil p0) fun (x19 : Addr) =>
  HM.bind (α := Slc) (HM.load1 .slc (Addr.add x19 4)) fun (x20 : Slc) =>
  HM.bind (α := Slc) (HM.slice x20 (some 1) none none 5) fun (x21 : Slc) =>
  HM.bind (α := Addr) (HM.nonnil p0) fun (x22 : Addr) =>
  HM.bind (α := Unit) (HM.store1 (Addr.add x22 4) (.slice x21.a x21.len x21.cap)) fun (_ : Unit) =>
  HM.bind (α := Int) (HM.load1 (.int .i64) (Addr.add ⟨x12, 0, none⟩ 2)) fun (x23 : Int) =>
  HM.ite (x23 == 0) (
  HM.bind (α := ByteArray × ByteArray × Int × Bool × ByteArray × Unit) (HM.loadN [.str, .str, .int .i64, .bool, .str] ⟨x12, 0, none⟩) fun (x24 : ByteArray × ByteArray × Int × Bool × ByteArray × Unit) =>
  HM.bind (α := Int × Bool × Bool × Int × Int × ByteArray × ByteArray × Int × Slc × Slc × ByteArray × Bool × Int × Bool × ByteArray × ByteArray × Int × Bool × Slc × Bool × Bool × ByteArray × ByteArray × Bool × Slc × Slc × Unit) (HM.call1 Tryd.prog (.agg [.int .i64, .bool, .bool, .int .i64, .int .i64, .str, .str, .int .i64, .slc, .slc, .str, .bool, .int .i64, .bool, .str, .str, .int .i64, .bool, .slc, .bool, .bool, .str, .str, .bool, .slc, .slc]) 87 #[.agg #[.string x24.1, .string x24.2.1, .int .i64 x24.2.2.1, .bool x24.2.2.2.1, .string x24.2.2.2.2.1], .int .i64 0, .bool false]) fun (x25 : Int × Bool × Bool × Int × Int × ByteArray × ByteArray × Int × Slc × Slc × ByteArray × Bool × Int × Bool × ByteArray × ByteArray × Int × Bool × Slc × Bool × Bool × ByteArray × ByteArray × Bool × Slc × Slc × Unit) =>
  HM.bind (α := Nat) (HM.new (.cells #[.int .i64 0, .bool false, .bool false, .int .i64 0, .int .i64 0, .string (ByteArray.mk #[]), .string (ByteArray.mk #[]), .int .i64 0, .slice none 0 0, .slice none 0 0, .string (ByteArray.mk #[]), .bool false, .int .i64 0, .bool false, .string (ByteArray.mk #[]), .string (ByteArray.mk #[]), .int .i64 0, .bool false, .slice none 0 0, .bool false, .bool false, .string (ByteArray.mk #[]), .string (ByteArray.mk #[]), .bool false, .slice none 0 0, .slice none 0 0] 207)) fun (x26 : Nat) =>
  HM.bind (α := Unit) (HM.storeN ⟨x26, 0, none⟩ [.int .i64 x25.1, .bool x25.2.1, .bool x25.2.2.1, .int .i64 x25.2.2.2.1, .int .i64 x25.2.2.2.2.1, .string x25.2.2.2.2.2.1, .string x25.2.2.2.2.2.2.1, .int .i64 x25.2.2.2.2.2.2.2.1, .slice x25.2.2.2.2.2.2.2.2.1.a x25.2.2.2.2.2.2.2.2.1.len x25.2.2.2.2.2.2.2.2.1.cap, .slice x25.2.2.2.2.2.2.2.2.2.1.a x25.2.2.2.2.2.2.2.2.2.1.len x25.2.2.2.2.2.2.2.2.2.1.cap, .string x25.2.2.2.2.2.2.2.2.2.2.1, .bool x25.2.2.2.2.2.2.2.2.2.2.2.1, .int .i64 x25.2.2.2.2.2.2.2.2.2.2.2.2.1, .bool x25.2.2.2.2.2.2.2.2.2.2.2.2.2.1, .string x25.2.2.2.2.2.2.2.2.2.2.2.2.2.2.1, .string x25.2.2.2.2.2.2.2.2.2.2.2.2.2.2.2.1, .int .i64 x25.2.2.2.2.2.2.2.2.2.2.2.2.2.2.2.2.1, .bool x25.2.2.2.2.2.2.2.2.2.2.2.2.2.2.2.2.2.1, .slice x25.2.2.2.2.2.2.2.2.2.2.2.2.2.2.2.2.2.2.1.a x25.2.2.2.2.2.2.2.2.2.2.2.2.2.2.2.2.2.2.1.len x25.2.2.2.2.2.2.2.2.2.2.2.2.2.2.2.2.2.2.1.cap, .bool x25.2.2.2.2.2.2.2.2.2.2.2.2.2.2.2.2.2.2.2.1, .bool x25.2.2.2.2.2.2.2.2.2.2.2.2.2.2.2.2.2.2.2.2.1, .string x25.2.2.2.2.2.2.2.2.2.2.2.2.2.2.2.2.2.2.2.2.2.1, .string x25.2.2.2.2.2.2.2.2.2.2.2.2.2.2.2.2.2.2.2.2.2.2.1, .bool x25.2.2.2.2.2.2.2.2.2.2.2.2.2.2.2.2.2.2.2.2.2.2.2.1, .slice x25.2.2.2.2.2.2.2.2.2.2.2.2.2.2.2.2.2.2.2.2.2.2.2.2.1.a x25.2.2.2.2.2.2.2.2.2.2.2.2.2.2.2.2.2.2.2.2.2.2.2.2.1.len x25.2.2.2.2.2.2.2.2.2.2.2.2.2.2.2.2.2.2.2.2.2.2.2.2.1.cap, .slice x25.2.2.2.2.2.2.2.2.2.2.2.2.2.2.2.2.2.2.2.2.2.2.2.2.2.1.a x25.2.2.2.2.2.2.2.2.2.2.2.2.2.2.2.2.2.2.2.2.2.2.2.2.2.1.len x25.2.2.2.2.2.2.2.2.2.2.2.2.2.2.2.2.2.2.2.2.2.2.2.2.2.1.cap]) fun (_ : Unit) =>
  HM.bind (α := Int × Bool × Bool × Int × Int × ByteArray × ByteArray × Int × Slc × Slc × ByteArray × Bool × Int × Bool × ByteArray × ByteArray × Int × Bool × Slc × Bool × Bool × ByteArray × ByteArray × Bool × Slc × Slc × Unit) (HM.loadN [.int .i64, .bool, .bool, .int .i64, .int .i64, .str, .str, .int .i64, .slc, .slc, .str, .bool, .int .i64, .bool, .str, .str, .int .i64, .bool, .slc, .bool, .bool, .str, .str, .bool, .slc, .slc] ⟨x26, 0, none⟩) fun (x27 : Int × Bool × Bool × Int × Int × ByteArray × ByteArray × Int × Slc × Slc × ByteArray × Bool × Int × Bool × ByteArray × ByteArray × Int × Bool × Slc × Bool × Bool × ByteArray × ByteArray × Bool × Slc × Slc × Unit) =>
  HM.bind (α := Nat) (HM.new (.cells #[.int .i64 x27.1, .bool x27.2.1, .bool x27.2.2.1, .int .i64 x27.2.2.2.1, .int .i64 x27.2.2.2.2.1, .string x27.2.2.2.2.2.1, .string x27.2.2.2.2.2.2.1, .int .i64 x27.2.2.2.2.2.2.2.1, .slice x27.2.2.2.2.2.2.2.2.1.a x27.2.2.2.2.2.2.2.2.1.len x27.2.2.2.2.2.2.2.2.1.cap, .slice x27.2.2.2.2.2.2.2.2.2.1.a x27.2.2.2.2.2.2.2.2.2.1.len x27.2.2.2.2.2.2.2.2.2.1.cap, .string x27.2.2.2.2.2.2.2.2.2.2.1, .bool x27.2.2.2.2.2.2.2.2.2.2.2.1, .int .i64 x27.2.2.2.2.2.2.2.2.2.2.2.2.1, .bool x27.2.2.2.2.2.2.2.2.2.2.2.2.2.1, .string x27.2.2.2.2.2.2.2.2.2.2.2.2.2.2.1, .string x27.2.2.2.2.2.2.2.2.2.2.2.2.2.2.2.1, .int .i64 x27.2.2.2.2.2.2.2.2.2.2.2.2.2.2.2.2.1, .bool x27.2.2.2.2.2.2.2.2.2.2.2.2.2.2.2.2.2.1, .slice x27.2.2.2.2.2.2.2.2.2.2.2.2.2.2.2.2.2.2.1.a x27.2.2.2.2.2.2.2.2.2.2.2.2.2.2.2.2.2.2.1.len x27.2.2.2.2.2.2.2.2.2.2.2.2.2.2.2.2.2.2.1.cap, .bool x27.2.2.2.2.2.2.2.2.2.2.2.2.2.2.2.2.2.2.2.1, .bool x27.2.2.2.2.2.2.2.2.2.2.2.2.2.2.2.2.2.2.2.2.1, .string x27.2.2.2.2.2.2.2.2.2.2.2.2.2.2.2.2.2.2.2.2.2.1, .string x27.2.2.2.2.2.2.2.2.2.2.2.2.2.2.2.2.2.2.2.2.2.2.1, .bool x27.2.2.2.2.2.2.2.2.2.2.2.2.2.2.2.2.2.2.2.2.2.2.2.1, .slice x27.2.2.2.2.2.2.2.2.2.2.2.2.2.2.2.2.2.2.2.2.2.2.2.2.1.a x27.2.2.2.2.2.2.2.2.2.2.2.2.2.2.2.2.2.2.2.2.2.2.2.2.1.len x27.2.2.2.2.2.2.2.2.2.2.2.2.2.2.2.2.2.2.2.2.2.2.2.2.1.cap, .slice x27.2.2.2.2.2.2.2.2.2.2.2.2.2.2.2.2.2.2.2.2.2.2.2.2.2.1.a x27.2.2.2.2.2.2.2.2.2.2.2.2.2.2.2.2.2.2.2.2.2.2.2.2.2.1.len x27.2.2.2.2.2.2.2.2.2.2.2.2.2.2.2.2.2.2.2.2.2.2.2.2.2.1.cap] 207)) fun (x28 : Nat) =>
  HM.bind (α := Slc) (HM.append 207 26 328 #[.int .i64 0, .bool false, .bool false, .int .i64 0, .int .i64 0, .string (ByteArray.mk #[]), .string (ByteArray.mk #[]), .int .i64 0, .slice none 0 0, .slice none 0 0, .string (ByteArray.mk #[]), .bool false, .int .i64 0, .bool false, .string (ByteArray.mk #[]), .string (ByteArray.mk #[]), .int .i64 0, .bool false, .slice none 0 0, .bool false, .bool false, .string (ByteArray.mk #[]), .string (ByteArray.mk #[]), .bool false, .slice none 0 0, .slice none 0 0] x4.1 1 (srcSlc 26 (⟨some ⟨x28, 0, none⟩, 1, 1⟩))) fun (x29 : Slc) =>
  HM.pure (.inl (x29, ()))) (
  HM.bind (α := Addr) (HM.nonnil p0) fun (x30 : Addr) =>
  HM.bind (α := Option Addr) (HM.load1 .ptr (Addr.add x30 0)) fun (x31 : Option Addr) =>
  HM.bind (α := Int × Int × Unit) (HM.callN Tryd.prog [.one (.int .i64), .one (.int .i64)] 88 #[.pointer x31]) fun (x32 : Int × Int × Unit) =>
  HM.bind (α := Addr) (HM.nonnil p0) fun (x33 : Addr) =>
  HM.bind (α := Slc) (HM.load1 .slc (Addr.add x33 3)) fun (x34 : Slc) =>
  HM.bind (α := ByteArray × ByteArray × Int × Bool × ByteArray × Unit) (HM.loadN [.str, .str, .int .i64, .bool, .str] ⟨x12, 0, none⟩) fun (x35 : ByteArray × ByteArray × Int × Bool × ByteArray × Unit) =>
  HM.bind (α := Nat) (HM.new (.cells #[.int .i64 x32.1, .string x35.1, .string x35.2.1, .int .i64 x35.2.2.1, .bool x35.2.2.2.1, .string x35.2.2.2.2.1, .bool false] 212)) fun (x36 : Nat) =>
  HM.bind (α := Slc) (HM.load1 .slc (Addr.add x33 3)) fun (x37 : Slc) =>
  HM.req ((.slice x37.a x37.len x37.cap : Value) = .slice x34.a x34.len x34.cap) <|
  HM.bind (α := Slc) (HM.append 212 7 80 #[.int .i64 0, .string (ByteArray.mk #[]), .string (ByteArray.mk #[]), .int .i64 0, .bool false, .string (ByteArray.mk #[]), .bool false] x34 1 (srcSlc 7 (⟨some ⟨x36, 0, none⟩, 1, 1⟩))) fun (x38 : Slc) =>
  HM.bind (α := Addr) (HM.nonnil p0) fun (x39 : Addr) =>
  HM.bind (α := Unit) (HM.store1 (Addr.add x39 3) (.slice x38.a x38.len x38.cap)) fun (_ : Unit) =>
  HM.bind (α := ByteArray × ByteArray × Int × Bool × ByteArray × Unit) (HM.loadN [.str, .str, .int .i64, .bool, .str] ⟨x12, 0, none⟩) fun (x40 : ByteArray × ByteArray × Int × Bool × ByteArray × Unit) =>
  HM.bind (α := Int × Bool × Bool × Int × Int × ByteArray × ByteArray × Int × Slc × Slc × ByteArray × Bool × Int × Bool × ByteArray × ByteArray × Int × Bool × Slc × Bool × Bool × ByteArray × ByteArray × Bool × Slc × Slc × Unit) (HM.call1 Tryd.prog (.agg [.int .i64, .bool, .bool, .int .i64, .int .i64, .str, .str, .int .i64, .slc, .slc, .str, .bool, .int .i64, .bool, .str, .str, .int .i64, .bool, .slc, .bool, .bool, .str, .str, .bool, .slc, .slc]) 87 #[.agg #[.string x40.1, .string x40.2.1, .int .i64 x40.2.2.1, .bool x40.2.2.2.1, .string x40.2.2.2.2.1], .int .i64 x32.1, .bool false]) fun (x41 : Int × Bool × Bool × Int × Int × ByteArray × ByteArray × Int × Slc × Slc × ByteArray × Bool × Int × Bool × ByteArray × ByteArray × Int × Bool × Slc × Bool × Bool × ByteArray × ByteArray × Bool × Slc × Slc × Unit) =>
  HM.bind (α := Nat) (HM.new (.cells #[.int .i64 0, .bool false, .bool false, .int .i64 0, .int .i64 0, .string (ByteArray.mk #[]), .string (ByteArray.mk #[]), .int .i64 0, .slice none 0 0, .slice none 0 0, .string (ByteArray.mk #[]), .bool false, .int .i64 0, .bool false, .string (ByteArray.mk #[]), .string (ByteArray.mk #[]), .int .i64 0, .bool false, .slice none 0 0, .bool false, .bool false, .string (ByteArray.mk #[]), .string (ByteArray.mk #[]), .bool false, .slice none 0 0, .slice none 0 0] 207)) fun (x42 : Nat) =>
  HM.bind (α := Unit) (HM.storeN ⟨x42, 0, none⟩ [.int .i64 x41.1, .bool x41.2.1, .bool x41.2.2.1, .int .i64 x41.2.2.2.1, .int .i64 x41.2.2.2.2.1, .string x41.2.2.2.2.2.1, .string x41.2.2.2.2.2.2.1, .int .i64 x41.2.2.2.2.2.2.2.1, .slice x41.2.2.2.2.2.2.2.2.1.a x41.2.2.2.2.2.2.2.2.1.len x41.2.2.2.2.2.2.2.2.1.cap, .slice x41.2.2.2.2.2.2.2.2.2.1.a x41.2.2.2.2.2.2.2.2.2.1.len x41.2.2.2.2.2.2.2.2.2.1.cap, .string x41.2.2.2.2.2.2.2.2.2.2.1, .bool x41.2.2.2.2.2.2.2.2.2.2.2.1, .int .i64 x41.2.2.2.2.2.2.2.2.2.2.2.2.1, .bool x41.2.2.2.2.2.2.2.2.2.2.2.2.2.1, .string x41.2.2.2.2.2.2.2.2.2.2.2.2.2.2.1, .string x41.2.2.2.2.2.2.2.2.2.2.2.2.2.2.2.1, .int .i64 x41.2.2.2.2.2.2.2.2.2.2.2.2.2.2.2.2.1, .bool x41.2.2.2.2.2.2.2.2.2.2.2.2.2.2.2.2.2.1, .slice x41.2.2.2.2.2.2.2.2.2.2.2.2.2.2.2.2.2.2.1.a x41.2.2.2.2.2.2.2.2.2.2.2.2.2.2.2.2.2.2.1.len x41.2.2.2.2.2.2.2.2.2.2.2.2.2.2.2.2.2.2.1.cap, .bool x41.2.2.2.2.2.2.2.2.2.2.2.2.2.2.2.2.2.2.2.1, .bool x41.2.2.2.2.2.2.2.2.2.2.2.2.2.2.2.2.2.2.2.2.1, .string x41.2.2.2.2.2.2.2.2.2.2.2.2.2.2.2.2.2.2.2.2.2.1, .string x41.2.2.2.2.2.2.2.2.2.2.2.2.2.2.2.2.2.2.2.2.2.2.1, .bool x41.2.2.2.2.2.2.2.2.2.2.2.2.2.2.2.2.2.2.2.2.2.2.2.1, .slice x41.2.2.2.2.2.2.2.2.2.2.2.2.2.2.2.2.2.2.2.2.2.2.2.2.1.a x41.2.2.2.2.2.2.2.2.2.2.2.2.2.2.2.2.2.2.2.2.2.2.2.2.1.len x41.2.2.2.2.2.2.2.2.2.2.2.2.2.2.2.2.2.2.2.2.2.2.2.2.1.cap, .slice x41.2.2.2.2.2.2.2.2.2.2.2.2.2.2.2.2.2.2.2.2.2.2.2.2.2.1.a x41.2.2.2.2.2.2.2.2.2.2.2.2.2.2.2.2.2.2.2.2.2.2.2.2.2.1.len x41.2.2.2.2.2.2.2.2.2.2.2.2.2.2.2.2.2.2.2.2.2.2.2.2.2.1.cap]) fun (_ : Unit) =>
  HM.bind (α := Int × Bool × Bool × Int × Int × ByteArray × ByteArray × Int × Slc × Slc × ByteArray × Bool × Int × Bool × ByteArray × ByteArray × Int × Bool × Slc × Bool × Bool × ByteArray × ByteArray × Bool × Slc × Slc × Unit) (HM.loadN [.int .i64, .bool, .bool, .int .i64, .int .i64, .str, .str, .int .i64, .slc, .slc, .str, .bool, .int .i64, .bool, .str, .str, .int .i64, .bool, .slc, .bool, .bool, .str, .str, .bool, .slc, .slc] ⟨x42, 0, none⟩) fun (x43 : Int × Bool × Bool × Int × Int × ByteArray × ByteArray × Int × Slc × Slc × ByteArray × Bool × Int × Bool × ByteArray × ByteArray × Int × Bool × Slc × Bool × Bool × ByteArray × ByteArray × Bool × Slc × Slc × Unit) =>
  HM.bind (α := Nat) (HM.new (.cells #[.int .i64 x43.1, .bool x43.2.1, .bool x43.2.2.1, .int .i64 x43.2.2.2.1, .int .i64 x43.2.2.2.2.1, .string x43.2.2.2.2.2.1, .string x43.2.2.2.2.2.2.1, .int .i64 x43.2.2.2.2.2.2.2.1, .slice x43.2.2.2.2.2.2.2.2.1.a x43.2.2.2.2.2.2.2.2.1.len x43.2.2.2.2.2.2.2.2.1.cap, .slice x43.2.2.2.2.2.2.2.2.2.1.a x43.2.2.2.2.2.2.2.2.2.1.len x43.2.2.2.2.2.2.2.2.2.1.cap, .string x43.2.2.2.2.2.2.2.2.2.2.1, .bool x43.2.2.2.2.2.2.2.2.2.2.2.1, .int .i64 x43.2.2.2.2.2.2.2.2.2.2.2.2.1, .bool x43.2.2.2.2.2.2.2.2.2.2.2.2.2.1, .string x43.2.2.2.2.2.2.2.2.2.2.2.2.2.2.1, .string x43.2.2.2.2.2.2.2.2.2.2.2.2.2.2.2.1, .int .i64 x43.2.2.2.2.2.2.2.2.2.2.2.2.2.2.2.2.1, .bool x43.2.2.2.2.2.2.2.2.2.2.2.2.2.2.2.2.2.1, .slice x43.2.2.2.2.2.2.2.2.2.2.2.2.2.2.2.2.2.2.1.a x43.2.2.2.2.2.2.2.2.2.2.2.2.2.2.2.2.2.2.1.len x43.2.2.2.2.2.2.2.2.2.2.2.2.2.2.2.2.2.2.1.cap, .bool x43.2.2.2.2.2.2.2.2.2.2.2.2.2.2.2.2.2.2.2.1, .bool x43.2.2.2.2.2.2.2.2.2.2.2.2.2.2.2.2.2.2.2.2.1, .string x43.2.2.2.2.2.2.2.2.2.2.2.2.2.2.2.2.2.2.2.2.2.1, .string x43.2.2.2.2.2.2.2.2.2.2.2.2.2.2.2.2.2.2.2.2.2.2.1, .bool x43.2.2.2.2.2.2.2.2.2.2.2.2.2.2.2.2.2.2.2.2.2.2.2.1, .slice x43.2.2.2.2.2.2.2.2.2.2.2.2.2.2.2.2.2.2.2.2.2.2.2.2.1.a x43.2.2.2.2.2.2.2.2.2.2.2.2.2.2.2.2.2.2.2.2.2.2.2.2.1.len x43.2.2.2.2.2.2.2.2.2.2.2.2.2.2.2.2.2.2.2.2.2.2.2.2.1.cap, .slice x43.2.2.2.2.2.2.2.2.2.2.2.2.2.2.2.2.2.2.2.2.2.2.2.2.2.1.a x43.2.2.2.2.2.2.2.2.2.2.2.2.2.2.2.2.2.2.2.2.2.2.2.2.2.1.len x43.2.2.2.2.2.2.2.2.2.2.2.2.2.2.2.2.2.2.2.2.2.2.2.2.2.1.cap] 207)) fun (x44 : Nat) =>
  HM.bind (α := Slc) (HM.append 207 26 328 #[.int .i64 0, .bool false, .bool false, .int .i64 0, .int .i64 0, .string (ByteArray.mk #[]), .string (ByteArray.mk #[]), .int .i64 0, .slice none 0 0, .slice none 0 0, .string (ByteArray.mk #[]), .bool false, .int .i64 0, .bool false, .string (ByteArray.mk #[]), .string (ByteArray.mk #[]), .int .i64 0, .bool false, .slice none 0 0, .bool false, .bool false, .string (ByteArray.mk #[]), .string (ByteArray.mk #[]), .bool false, .slice none 0 0, .slice none 0 0] x4.1 1 (srcSlc 26 (⟨some ⟨x44, 0, none⟩, 1, 1⟩))) fun (x45 : Slc) =>
  HM.pure (.inl (x45, ()))))) (Sum.elim (fun (x7 : Slc × Unit) =>
  HM.pure (.inl (x7.1, ()))) HM.pure)) (
  HM.pure (.inr (.inl (x4.1, ()))))) (p1, ())) (Sum.elim (fun (x3 : Slc × Unit) =>
  HM.pure (x3.1, ())) HM.pure))

theorem ref14_goOn_den (p0 : Option Addr) (p1 : Slc) : denFn Tryd.prog [87, 88] 89 [0, 1, 4, 5, 6, 7, 9, 14, 21, 42, 54] [0, 1, 5, 6, 7, 9, 14, 21, 42, 54] Tryd.f59.results.toList [.one .slc] (bodyOf Tryd.f59) [Kind.val (.one .ptr) p0, Kind.val (.one .slc) p1] = ref14_goOn p0 p1 := by kernel_rfl
theorem ref14_goOn_calls (p0 : Option Addr) (p1 : Slc) (h : Heap) (Q : Value → Heap → Prop) (hh : ref14_goOn p0 p1 h fun x h' => Q (.slice x.1.a x.1.len x.1.cap) h') :
    HCalls Tryd.prog 59 #[.pointer p0, .slice p1.a p1.len p1.cap] h Q := by
  rw [← ref14_goOn_den] at hh
  exact calls_of_den Tryd.func59 (by kernel_rfl) Tryd.ntmps59 (by kernel_rfl) (fun f hf => by
      rcases List.mem_cons.1 hf with rfl | hf
      · exact Tryd.call87
      rcases List.mem_cons.1 hf with rfl | hf
      · exact Tryd.call88
      cases hf) orders hh

/-- (*aqueduct/ids.Pool).Used -/
def ids_Pool_Used (p0 : Option Addr) : HM (Slc × Unit) :=
  HM.ite (Option.isNone p0) (
  HM.pure (⟨none, 0, 0⟩, ())) (
  HM.bind (α := Addr) (HM.nonnil p0) fun (x1 : Addr) =>
  HM.bind (α := Option Nat) (HM.load1 .map (Addr.add x1 2)) fun (x2 : Option Nat) =>
  HM.bind (α := Value) (HM.call1 Tryd.prog (.one .any) 89 #[.map x2]) fun (x3 : Value) =>
  HM.bind (α := Slc) (HM.call1 Tryd.prog (.one .slc) 55 #[x3]) fun (x4 : Slc) =>
  HM.pure (x4, ()))

theorem ids_Pool_Used_den (p0 : Option Addr) : denFn Tryd.prog [89, 55] 11 [0, 2, 4] [0, 4] Tryd.f60.results.toList [.one .slc] (bodyOf Tryd.f60) [Kind.val (.one .ptr) p0] = ids_Pool_Used p0 := by kernel_rfl
theorem ids_Pool_Used_calls (p0 : Option Addr) (h : Heap) (Q : Value → Heap → Prop) (hh : ids_Pool_Used p0 h fun x h' => Q (.slice x.1.a x.1.len x.1.cap) h') :
    HCalls Tryd.prog 60 #[.pointer p0] h Q := by
  rw [← ids_Pool_Used_den] at hh
  exact calls_of_den Tryd.func60 (by kernel_rfl) Tryd.ntmps60 (by kernel_rfl) (fun f hf => by
      rcases List.mem_cons.1 hf with rfl | hf
      · exact Tryd.call89
      rcases List.mem_cons.1 hf with rfl | hf
      · exact Tryd.call55
      cases hf) orders hh

/-- aqueduct/aqueductref02.Fault -/
def ref02_Fault (p0 : ByteArray) : HM (Int × Bool × Unit) :=
  HM.bind (α := (Int × Unit) ⊕ (Int × Bool × Unit)) (HM.loop (σ := Int × Unit) (τ := (Int × Unit) ⊕ (Int × Bool × Unit)) (fun (x2 : Int × Unit) =>
  HM.ite (decide (x2.1 < (((ByteArray.size p0 : Nat) : Int) : Int))) (
  HM.bind (α := Int) (HM.call1 Tryd.prog (.one (.int .i64)) 90 #[.string p0, .int .i64 x2.1]) fun (x3 : Int) =>
  HM.ite (x3 == 0) (
  HM.pure (.inr (.inr (x2.1, true, ())))) (
  HM.pure (.inl (IntKind.wrap .i64 (x2.1 + x3), ())))) (
  HM.pure (.inr (.inl (x2.1, ()))))) (0, ())) (Sum.elim (fun (x1 : Int × Unit) =>
  HM.pure (0, false, ())) HM.pure)

theorem ref02_Fault_den (p0 : ByteArray) : denFn Tryd.prog [90] 19 [0, 2, 3, 4, 5, 9, 14] [0, 4, 5, 9, 14] Tryd.f61.results.toList [.one (.int .i64), .one .bool] (bodyOf Tryd.f61) [Kind.val (.one .str) p0] = ref02_Fault p0 := by kernel_rfl
theorem ref02_Fault_calls (p0 : ByteArray) (h : Heap) (Q : Value → Heap → Prop) (hh : ref02_Fault p0 h fun x h' => Q (.tuple #[.int .i64 x.1, .bool x.2.1]) h') :
    HCalls Tryd.prog 61 #[.string p0] h Q := by
  rw [← ref02_Fault_den] at hh
  exact calls_of_den Tryd.func61 (by kernel_rfl) Tryd.ntmps61 (by kernel_rfl) (fun f hf => by
      rcases List.mem_cons.1 hf with rfl | hf
      · exact Tryd.call90
      cases hf) orders hh

/-- aqueduct/aqueductref14.New -/
def ref14_New (p0 : Int) : HM (Option Addr × Unit) :=
  HM.bind (α := Option Addr) (HM.call1 Tryd.prog (.one .ptr) 91 #[.int .i64 64]) fun (x1 : Option Addr) =>
  HM.bind (α := Int) (HM.call1 Tryd.prog (.one (.int .i64)) 92 #[.int .i64 p0]) fun (x2 : Int) =>
  HM.bind (α := Nat) (HM.new (.cells #[.pointer x1, .int .i64 x2, .bool false, .slice none 0 0, .slice none 0 0] 87)) fun (x3 : Nat) =>
  HM.pure (some ⟨x3, 0, none⟩, ())

theorem ref14_New_den (p0 : Int) : denFn Tryd.prog [91, 92] 12 [0, 2, 3, 4] [0, 3, 4] Tryd.f62.results.toList [.one .ptr] (bodyOf Tryd.f62) [Kind.val (.one (.int .i64)) p0] = ref14_New p0 := by kernel_rfl
theorem ref14_New_calls (p0 : Int) (h : Heap) (Q : Value → Heap → Prop) (hh : ref14_New p0 h fun x h' => Q (.pointer x.1) h') :
    HCalls Tryd.prog 62 #[.int .i64 p0] h Q := by
  rw [← ref14_New_den] at hh
  exact calls_of_den Tryd.func62 (by kernel_rfl) Tryd.ntmps62 (by kernel_rfl) (fun f hf => by
      rcases List.mem_cons.1 hf with rfl | hf
      · exact Tryd.call91
      rcases List.mem_cons.1 hf with rfl | hf
      · exact Tryd.call92
      cases hf) orders hh

/-- aqueduct/aqueductref15.New -/
def ref15_New (p0 : Int) : HM (Option Addr × Unit) :=
  HM.bind (α := Option Addr) (HM.call1 Tryd.prog (.one .ptr) 91 #[.int .i64 p0]) fun (x1 : Option Addr) =>
  HM.bind (α := Nat) (HM.new (.cells #[.pointer x1] 93)) fun (x2 : Nat) =>
  HM.pure (some ⟨x2, 0, none⟩, ())

theorem ref15_New_den (p0 : Int) : denFn Tryd.prog [91] 9 [0, 2, 3] [0, 3] Tryd.f63.results.toList [.one .ptr] (bodyOf Tryd.f63) [Kind.val (.one (.int .i64)) p0] = ref15_New p0 := by kernel_rfl
theorem ref15_New_calls (p0 : Int) (h : Heap) (Q : Value → Heap → Prop) (hh : ref15_New p0 h fun x h' => Q (.pointer x.1) h') :
    HCalls Tryd.prog 63 #[.int .i64 p0] h Q := by
  rw [← ref15_New_den] at hh
  exact calls_of_den Tryd.func63 (by kernel_rfl) Tryd.ntmps63 (by kernel_rfl) (fun f hf => by
      rcases List.mem_cons.1 hf with rfl | hf
      · exact Tryd.call91
      cases hf) orders hh

/-- (aqueduct/tags.Tag).good -/
def tags_Tag_good (p0 : Int × Int × Unit) : HM (Bool × Unit) :=
  HM.bind (α := Nat) (HM.new (.cells #[.int .i64 p0.1, .int .i64 p0.2.1] 107)) fun (x1 : Nat) =>
  HM.bind (α := Bool × Unit) (HM.bind (α := Int) (HM.load1 (.int .i64) (Addr.add ⟨x1, 0, none⟩ 0)) fun (x2 : Int) =>
  HM.ite (decide (0 ≤ (x2 : Int))) (
  HM.bind (α := Int) (HM.load1 (.int .i64) (Addr.add ⟨x1, 0, none⟩ 0)) fun (x3 : Int) =>
  HM.ite (decide (x3 < (8 : Int))) (
  HM.bind (α := Int) (HM.load1 (.int .i64) (Addr.add ⟨x1, 0, none⟩ 1)) fun (x4 : Int) =>
  HM.ite (decide (1 ≤ (x4 : Int))) (
  HM.bind (α := Int) (HM.load1 (.int .i64) (Addr.add ⟨x1, 0, none⟩ 1)) fun (x5 : Int) =>
  HM.pure (decide (x5 ≤ (9007199254740992 : Int)), ())) (
  HM.pure (false, ()))) (
  HM.pure (false, ()))) (
  HM.pure (false, ()))) fun (x6 : Bool × Unit) =>
  HM.pure (x6.1, ())

theorem tags_Tag_good_den (p0 : Int × Int × Unit) : denFn Tryd.prog [] 21 [0, 1, 2] [0, 1] Tryd.f64.results.toList [.one .bool] (bodyOf Tryd.f64) [Kind.val (.agg [.int .i64, .int .i64]) p0] = tags_Tag_good p0 := by kernel_rfl
theorem tags_Tag_good_calls (p0 : Int × Int × Unit) (h : Heap) (Q : Value → Heap → Prop) (hh : tags_Tag_good p0 h fun x h' => Q (.bool x.1) h') :
    HCalls Tryd.prog 64 #[.agg #[.int .i64 p0.1, .int .i64 p0.2.1]] h Q := by
  rw [← tags_Tag_good_den] at hh
  exact calls_of_den Tryd.func64 (by kernel_rfl) Tryd.ntmps64 (by kernel_rfl) (fun f hf => by cases hf) orders hh

/-- aqueduct/aqueductref16.Good -/
def ref16_Good (p0 : Int × Int × Unit) : HM (Bool × Unit) :=
  HM.bind (α := Nat) (HM.new (.cells #[.int .i64 p0.1, .int .i64 p0.2.1] 115)) fun (x1 : Nat) =>
  HM.bind (α := Bool × Unit) (HM.bind (α := Int) (HM.load1 (.int .i64) (Addr.add ⟨x1, 0, none⟩ 0)) fun (x2 : Int) =>
  HM.ite (decide (0 ≤ (x2 : Int))) (
  HM.bind (α := Int) (HM.load1 (.int .i64) (Addr.add ⟨x1, 0, none⟩ 0)) fun (x3 : Int) =>
  HM.ite (decide (x3 < (8 : Int))) (
  HM.bind (α := Int) (HM.load1 (.int .i64) (Addr.add ⟨x1, 0, none⟩ 1)) fun (x4 : Int) =>
  HM.ite (decide (0 < (x4 : Int))) (
  HM.bind (α := Int) (HM.load1 (.int .i64) (Addr.add ⟨x1, 0, none⟩ 1)) fun (x5 : Int) =>
  HM.pure (decide (x5 ≤ (9007199254740992 : Int)), ())) (
  HM.pure (false, ()))) (
  HM.pure (false, ()))) (
  HM.pure (false, ()))) fun (x6 : Bool × Unit) =>
  HM.pure (x6.1, ())

theorem ref16_Good_den (p0 : Int × Int × Unit) : denFn Tryd.prog [] 21 [0, 1, 2] [0, 1] Tryd.f65.results.toList [.one .bool] (bodyOf Tryd.f65) [Kind.val (.agg [.int .i64, .int .i64]) p0] = ref16_Good p0 := by kernel_rfl
theorem ref16_Good_calls (p0 : Int × Int × Unit) (h : Heap) (Q : Value → Heap → Prop) (hh : ref16_Good p0 h fun x h' => Q (.bool x.1) h') :
    HCalls Tryd.prog 65 #[.agg #[.int .i64 p0.1, .int .i64 p0.2.1]] h Q := by
  rw [← ref16_Good_den] at hh
  exact calls_of_den Tryd.func65 (by kernel_rfl) Tryd.ntmps65 (by kernel_rfl) (fun f hf => by cases hf) orders hh

/-- (*aqueduct/tags.Set).List$1 -/
def tags_Set_List_f1 (p0 : Int × Int × Unit) (p1 : Int × Int × Unit) : HM (Int × Unit) :=
  HM.bind (α := Nat) (HM.new (.cells #[.int .i64 p0.1, .int .i64 p0.2.1] 107)) fun (x1 : Nat) =>
  HM.bind (α := Nat) (HM.new (.cells #[.int .i64 p1.1, .int .i64 p1.2.1] 107)) fun (x2 : Nat) =>
  HM.bind (α := Int) (HM.load1 (.int .i64) (Addr.add ⟨x1, 0, none⟩ 0)) fun (x3 : Int) =>
  HM.bind (α := Int) (HM.load1 (.int .i64) (Addr.add ⟨x2, 0, none⟩ 0)) fun (x4 : Int) =>
  HM.bind (α := Int) (HM.load1 (.int .i64) (Addr.add ⟨x1, 0, none⟩ 1)) fun (x5 : Int) =>
  HM.bind (α := Int) (HM.load1 (.int .i64) (Addr.add ⟨x2, 0, none⟩ 1)) fun (x6 : Int) =>
  HM.bind (α := Int) (HM.call1 Tryd.prog (.one (.int .i64)) 70 #[.int .i64 x3, .int .i64 x4]) fun (x7 : Int) =>
  HM.bind (α := Int) (HM.load1 (.int .i64) (Addr.add ⟨x2, 0, none⟩ 1)) fun (x8 : Int) =>
  HM.req ((.int .i64 x8 : Value) = .int .i64 x6) <|
  HM.bind (α := Int) (HM.load1 (.int .i64) (Addr.add ⟨x1, 0, none⟩ 1)) fun (x9 : Int) =>
  HM.req ((.int .i64 x9 : Value) = .int .i64 x5) <|
  HM.bind (α := Int) (HM.call1 Tryd.prog (.one (.int .i64)) 71 #[.int .i64 x5, .int .i64 x6]) fun (x10 : Int) =>
  HM.bind (α := Nat) (HM.new (.cells #[.int .i64 x7, .int .i64 x10] 3)) fun (x11 : Nat) =>
  HM.bind (α := Int) (HM.call1 Tryd.prog (.one (.int .i64)) 69 #[.slice (some ⟨x11, 0, none⟩) 2 2]) fun (x12 : Int) =>
  HM.pure (x12, ())

theorem tags_Set_List_f1_den (p0 : Int × Int × Unit) (p1 : Int × Int × Unit) : denFn Tryd.prog [70, 71, 69] 17 [0, 1, 2, 3, 4] [0, 1, 2, 3] Tryd.f68.results.toList [.one (.int .i64)] (bodyOf Tryd.f68) [Kind.val (.agg [.int .i64, .int .i64]) p0, Kind.val (.agg [.int .i64, .int .i64]) p1] = tags_Set_List_f1 p0 p1 := by kernel_rfl
theorem tags_Set_List_f1_calls (p0 : Int × Int × Unit) (p1 : Int × Int × Unit) (h : Heap) (Q : Value → Heap → Prop) (hh : tags_Set_List_f1 p0 p1 h fun x h' => Q (.int .i64 x.1) h') :
    HCalls Tryd.prog 68 #[.agg #[.int .i64 p0.1, .int .i64 p0.2.1], .agg #[.int .i64 p1.1, .int .i64 p1.2.1]] h Q := by
  rw [← tags_Set_List_f1_den] at hh
  exact calls_of_den Tryd.func68 (by kernel_rfl) Tryd.ntmps68 (by kernel_rfl) (fun f hf => by
      rcases List.mem_cons.1 hf with rfl | hf
      · exact Tryd.call70
      rcases List.mem_cons.1 hf with rfl | hf
      · exact Tryd.call71
      rcases List.mem_cons.1 hf with rfl | hf
      · exact Tryd.call69
      cases hf) orders hh

/-- cmp.Or[int] -/
def cmp_Or (p0 : Slc) : HM (Int × Unit) :=
  HM.bind (α := (Int × Unit) ⊕ (Int × Unit)) (HM.loop (σ := Int × Unit) (τ := (Int × Unit) ⊕ (Int × Unit)) (fun (x2 : Int × Unit) =>
  HM.ite (decide (x2.1 < (((p0.len : Nat) : Int) : Int))) (
  HM.bind (α := Addr) (HM.idx p0.a p0.len x2.1 1) fun (x3 : Addr) =>
  HM.bind (α := Int) (HM.load1 (.int .i64) x3) fun (x4 : Int) =>
  HM.ite (!(x4 == 0)) (
  HM.pure (.inr (.inr (x4, ())))) (
  HM.pure (.inl (IntKind.wrap .i64 (x2.1 + 1), ())))) (
  HM.pure (.inr (.inl (x2.1, ()))))) (0, ())) (Sum.elim (fun (x1 : Int × Unit) =>
  HM.pure (0, ())) HM.pure)

theorem cmp_Or_den (p0 : Slc) : denFn Tryd.prog [] 18 [0, 2, 3, 5, 6, 7, 8, 9, 14] [0, 3, 5, 6, 7, 8, 9, 14] Tryd.f69.results.toList [.one (.int .i64)] (bodyOf Tryd.f69) [Kind.val (.one .slc) p0] = cmp_Or p0 := by kernel_rfl
theorem cmp_Or_calls (p0 : Slc) (h : Heap) (Q : Value → Heap → Prop) (hh : cmp_Or p0 h fun x h' => Q (.int .i64 x.1) h') :
    HCalls Tryd.prog 69 #[.slice p0.a p0.len p0.cap] h Q := by
  rw [← cmp_Or_den] at hh
  exact calls_of_den Tryd.func69 (by kernel_rfl) Tryd.ntmps69 (by kernel_rfl) (fun f hf => by cases hf) orders hh

/-- cmp.Compare[int] -/
def cmp_Compare_int (p0 : Int) (p1 : Int) : HM (Int × Unit) :=
  HM.bind (α := Bool) (HM.call1 Tryd.prog (.one .bool) 96 #[.int .i64 p0]) fun (x1 : Bool) =>
  HM.bind (α := Bool) (HM.call1 Tryd.prog (.one .bool) 96 #[.int .i64 p1]) fun (x2 : Bool) =>
  HM.ite x1 (
  HM.ite x2 (
  HM.pure (0, ())) (
  HM.pure ((-1), ()))) (
  HM.ite x2 (
  HM.pure (1, ())) (
  HM.ite (decide (p0 < (p1 : Int))) (
  HM.pure ((-1), ())) (
  HM.ite (decide (p1 < (p0 : Int))) (
  HM.pure (1, ())) (
  HM.pure (0, ())))))

theorem cmp_Compare_int_den (p0 : Int) (p1 : Int) : denFn Tryd.prog [96] 20 [0, 1, 4, 5, 6, 11, 12, 13, 16, 19] [0, 1, 5, 6, 11, 12, 13, 16, 19] Tryd.f70.results.toList [.one (.int .i64)] (bodyOf Tryd.f70) [Kind.val (.one (.int .i64)) p0, Kind.val (.one (.int .i64)) p1] = cmp_Compare_int p0 p1 := by kernel_rfl
theorem cmp_Compare_int_calls (p0 : Int) (p1 : Int) (h : Heap) (Q : Value → Heap → Prop) (hh : cmp_Compare_int p0 p1 h fun x h' => Q (.int .i64 x.1) h') :
    HCalls Tryd.prog 70 #[.int .i64 p0, .int .i64 p1] h Q := by
  rw [← cmp_Compare_int_den] at hh
  exact calls_of_den Tryd.func70 (by kernel_rfl) Tryd.ntmps70 (by kernel_rfl) (fun f hf => by
      rcases List.mem_cons.1 hf with rfl | hf
      · exact Tryd.call96
      cases hf) orders hh

/-- cmp.Compare[int64] -/
def cmp_Compare_int64 (p0 : Int) (p1 : Int) : HM (Int × Unit) :=
  HM.bind (α := Bool) (HM.call1 Tryd.prog (.one .bool) 97 #[.int .i64 p0]) fun (x1 : Bool) =>
  HM.bind (α := Bool) (HM.call1 Tryd.prog (.one .bool) 97 #[.int .i64 p1]) fun (x2 : Bool) =>
  HM.ite x1 (
  HM.ite x2 (
  HM.pure (0, ())) (
  HM.pure ((-1), ()))) (
  HM.ite x2 (
  HM.pure (1, ())) (
  HM.ite (decide (p0 < (p1 : Int))) (
  HM.pure ((-1), ())) (
  HM.ite (decide (p1 < (p0 : Int))) (
  HM.pure (1, ())) (
  HM.pure (0, ())))))

theorem cmp_Compare_int64_den (p0 : Int) (p1 : Int) : denFn Tryd.prog [97] 20 [0, 1, 4, 5, 6, 11, 12, 13, 16, 19] [0, 1, 5, 6, 11, 12, 13, 16, 19] Tryd.f71.results.toList [.one (.int .i64)] (bodyOf Tryd.f71) [Kind.val (.one (.int .i64)) p0, Kind.val (.one (.int .i64)) p1] = cmp_Compare_int64 p0 p1 := by kernel_rfl
theorem cmp_Compare_int64_calls (p0 : Int) (p1 : Int) (h : Heap) (Q : Value → Heap → Prop) (hh : cmp_Compare_int64 p0 p1 h fun x h' => Q (.int .i64 x.1) h') :
    HCalls Tryd.prog 71 #[.int .i64 p0, .int .i64 p1] h Q := by
  rw [← cmp_Compare_int64_den] at hh
  exact calls_of_den Tryd.func71 (by kernel_rfl) Tryd.ntmps71 (by kernel_rfl) (fun f hf => by
      rcases List.mem_cons.1 hf with rfl | hf
      · exact Tryd.call97
      cases hf) orders hh

/-- (aqueduct/tags.Label).good -/
def tags_Label_good (p0 : Int × Int × Int × Int × Unit) : HM (Bool × Unit) :=
  HM.bind (α := Nat) (HM.new (.cells #[.int .i64 p0.1, .int .i64 p0.2.1, .int .i64 p0.2.2.1, .int .i64 p0.2.2.2.1] 127)) fun (x1 : Nat) =>
  HM.bind (α := Bool × Unit) (HM.bind (α := Int × Int × Unit) (HM.loadN [.int .i64, .int .i64] (Addr.add ⟨x1, 0, none⟩ 0)) fun (x2 : Int × Int × Unit) =>
  HM.bind (α := Bool) (HM.call1 Tryd.prog (.one .bool) 64 #[.agg #[.int .i64 x2.1, .int .i64 x2.2.1]]) fun (x3 : Bool) =>
  HM.ite x3 (
  HM.bind (α := Int) (HM.load1 (.int .i64) (Addr.add ⟨x1, 0, none⟩ 2)) fun (x4 : Int) =>
  HM.ite (decide (0 ≤ (x4 : Int))) (
  HM.bind (α := Int) (HM.load1 (.int .i64) (Addr.add ⟨x1, 0, none⟩ 2)) fun (x5 : Int) =>
  HM.ite (decide (x5 ≤ (32 : Int))) (
  HM.bind (α := Int) (HM.load1 (.int .i64) (Addr.add ⟨x1, 0, none⟩ 3)) fun (x6 : Int) =>
  HM.ite (decide (0 ≤ (x6 : Int))) (
  HM.bind (α := Int) (HM.load1 (.int .i64) (Addr.add ⟨x1, 0, none⟩ 3)) fun (x7 : Int) =>
  HM.pure (decide (x7 ≤ (2 : Int)), ())) (
  HM.pure (false, ()))) (
  HM.pure (false, ()))) (
  HM.pure (false, ()))) (
  HM.pure (false, ()))) fun (x8 : Bool × Unit) =>
  HM.pure (x8.1, ())

theorem tags_Label_good_den (p0 : Int × Int × Int × Int × Unit) : denFn Tryd.prog [64] 26 [0, 1, 2] [0, 1] Tryd.f74.results.toList [.one .bool] (bodyOf Tryd.f74) [Kind.val (.agg [.int .i64, .int .i64, .int .i64, .int .i64]) p0] = tags_Label_good p0 := by kernel_rfl
theorem tags_Label_good_calls (p0 : Int × Int × Int × Int × Unit) (h : Heap) (Q : Value → Heap → Prop) (hh : tags_Label_good p0 h fun x h' => Q (.bool x.1) h') :
    HCalls Tryd.prog 74 #[.agg #[.int .i64 p0.1, .int .i64 p0.2.1, .int .i64 p0.2.2.1, .int .i64 p0.2.2.2.1]] h Q := by
  rw [← tags_Label_good_den] at hh
  exact calls_of_den Tryd.func74 (by kernel_rfl) Tryd.ntmps74 (by kernel_rfl) (fun f hf => by
      rcases List.mem_cons.1 hf with rfl | hf
      · exact Tryd.call64
      cases hf) orders hh

/-- aqueduct/aqueductref16.number -/
def ref16_number (p0 : ByteArray) (p1 : Int) : HM (Int × Int × Unit) :=
  HM.bind (α := (Int × Int × Unit) ⊕ (Int × Int × Unit)) (HM.loop (σ := Int × Int × Unit) (τ := (Int × Int × Unit) ⊕ (Int × Int × Unit)) (fun (x2 : Int × Int × Unit) =>
  HM.bind (α := Bool × Unit) (HM.ite (decide (x2.2.1 < (((ByteArray.size p0 : Nat) : Int) : Int))) (
  HM.bind (α := Int) (HM.strIdx p0 x2.2.1) fun (x3 : Int) =>
  HM.ite (decide (48 ≤ (x3 : Int))) (
  HM.bind (α := Int) (HM.strIdx p0 x2.2.1) fun (x4 : Int) =>
  HM.pure (decide (x4 ≤ (57 : Int)), ())) (
  HM.pure (false, ()))) (
  HM.pure (false, ()))) fun (x5 : Bool × Unit) =>
  HM.ite x5.1 (
  HM.ite (decide (17 ≤ ((IntKind.wrap .i64 (x2.2.1 - p1)) : Int))) (
  HM.pure (.inr (.inr ((-1), p1, ())))) (
  HM.bind (α := Int) (HM.strIdx p0 x2.2.1) fun (x6 : Int) =>
  HM.pure (.inl (IntKind.wrap .i64 ((IntKind.wrap .i64 (10 * x2.1)) + (IntKind.wrap .i64 (IntKind.wrap .u8 (x6 - 48)))), IntKind.wrap .i64 (x2.2.1 + 1), ())))) (
  HM.pure (.inr (.inl (x2.1, x2.2.1, ()))))) (0, p1, ())) (Sum.elim (fun (x1 : Int × Int × Unit) =>
  HM.bind (α := Bool × Unit) (HM.ite (x1.2.1 == p1) (
  HM.pure (true, ())) (
  HM.bind (α := Int) (HM.strIdx p0 p1) fun (x7 : Int) =>
  HM.ite (x7 == 48) (
  HM.pure (decide ((IntKind.wrap .i64 (p1 + 1)) < (x1.2.1 : Int)), ())) (
  HM.pure (false, ())))) fun (x8 : Bool × Unit) =>
  HM.ite x8.1 (
  HM.pure ((-1), p1, ())) (
  HM.pure (x1.1, x1.2.1, ()))) HM.pure)

theorem ref16_number_den (p0 : ByteArray) (p1 : Int) : denFn Tryd.prog [] 58 [0, 1, 4, 5, 6, 7, 24, 28, 54] [0, 1, 6, 7, 24, 28, 54] Tryd.f75.results.toList [.one (.int .i64), .one (.int .i64)] (bodyOf Tryd.f75) [Kind.val (.one .str) p0, Kind.val (.one (.int .i64)) p1] = ref16_number p0 p1 := by kernel_rfl
theorem ref16_number_calls (p0 : ByteArray) (p1 : Int) (h : Heap) (Q : Value → Heap → Prop) (hh : ref16_number p0 p1 h fun x h' => Q (.tuple #[.int .i64 x.1, .int .i64 x.2.1]) h') :
    HCalls Tryd.prog 75 #[.string p0, .int .i64 p1] h Q := by
  rw [← ref16_number_den] at hh
  exact calls_of_den Tryd.func75 (by kernel_rfl) Tryd.ntmps75 (by kernel_rfl) (fun f hf => by cases hf) orders hh

/-- aqueduct/aqueductref16.goodLabel -/
def ref16_goodLabel (p0 : Int × Int × Int × Int × Unit) : HM (Bool × Unit) :=
  HM.bind (α := Nat) (HM.new (.cells #[.int .i64 p0.1, .int .i64 p0.2.1, .int .i64 p0.2.2.1, .int .i64 p0.2.2.2.1] 129)) fun (x1 : Nat) =>
  HM.bind (α := Int × Int × Unit) (HM.loadN [.int .i64, .int .i64] (Addr.add ⟨x1, 0, none⟩ 0)) fun (x2 : Int × Int × Unit) =>
  HM.bind (α := Bool) (HM.call1 Tryd.prog (.one .bool) 65 #[.agg #[.int .i64 x2.1, .int .i64 x2.2.1]]) fun (x3 : Bool) =>
  HM.bind (α := Bool × Unit) (HM.ite x3 (
  HM.bind (α := Int) (HM.load1 (.int .i64) (Addr.add ⟨x1, 0, none⟩ 2)) fun (x4 : Int) =>
  HM.ite (decide (0 ≤ (x4 : Int))) (
  HM.bind (α := Int) (HM.load1 (.int .i64) (Addr.add ⟨x1, 0, none⟩ 2)) fun (x5 : Int) =>
  HM.ite (decide (x5 ≤ (32 : Int))) (
  HM.bind (α := Int) (HM.load1 (.int .i64) (Addr.add ⟨x1, 0, none⟩ 3)) fun (x6 : Int) =>
  HM.ite (decide (0 ≤ (x6 : Int))) (
  HM.bind (α := Int) (HM.load1 (.int .i64) (Addr.add ⟨x1, 0, none⟩ 3)) fun (x7 : Int) =>
  HM.pure (decide (x7 < (3 : Int)), ())) (
  HM.pure (false, ()))) (
  HM.pure (false, ()))) (
  HM.pure (false, ()))) (
  HM.pure (false, ()))) fun (x8 : Bool × Unit) =>
  HM.pure (x8.1, ())

theorem ref16_goodLabel_den (p0 : Int × Int × Int × Int × Unit) : denFn Tryd.prog [65] 28 [0, 1, 2, 3] [0, 1, 3] Tryd.f76.results.toList [.one .bool] (bodyOf Tryd.f76) [Kind.val (.agg [.int .i64, .int .i64, .int .i64, .int .i64]) p0] = ref16_goodLabel p0 := by kernel_rfl
theorem ref16_goodLabel_calls (p0 : Int × Int × Int × Int × Unit) (h : Heap) (Q : Value → Heap → Prop) (hh : ref16_goodLabel p0 h fun x h' => Q (.bool x.1) h') :
    HCalls Tryd.prog 76 #[.agg #[.int .i64 p0.1, .int .i64 p0.2.1, .int .i64 p0.2.2.1, .int .i64 p0.2.2.2.1]] h Q := by
  rw [← ref16_goodLabel_den] at hh
  exact calls_of_den Tryd.func76 (by kernel_rfl) Tryd.ntmps76 (by kernel_rfl) (fun f hf => by
      rcases List.mem_cons.1 hf with rfl | hf
      · exact Tryd.call65
      cases hf) orders hh

/-- aqueduct/aqueductref16.Decimal -/
def ref16_Decimal (p0 : Int) : HM (ByteArray × Unit) :=
  HM.bind (α := ByteArray × Int × Unit) (HM.loop (σ := ByteArray × Int × Unit) (τ := ByteArray × Int × Unit) (fun (x2 : ByteArray × Int × Unit) =>
  HM.bind (α := Bool × Unit) (HM.ite (decide (0 < (x2.2.1 : Int))) (
  HM.pure (true, ())) (
  HM.pure (decide (x2.1 = (ByteArray.mk #[])), ()))) fun (x3 : Bool × Unit) =>
  HM.ite x3.1 (
  HM.req (10 ≠ (0 : Int)) <|
  HM.bind (α := Nat) (HM.new (.cells #[.int .u8 (IntKind.wrap .u8 (IntKind.wrap .i64 (48 + (Int.tmod x2.2.1 10))))] 5)) fun (x4 : Nat) =>
  HM.bind (α := ByteArray) (HM.strOf (⟨some ⟨x4, 0, none⟩, 1, 1⟩)) fun (x5 : ByteArray) =>
  HM.req (ByteArray.size x5 + ByteArray.size x2.1 ≤ 9223372036854775807) <|
  HM.req (10 ≠ (0 : Int)) <|
  HM.pure (.inl (x5 ++ x2.1, IntKind.wrap .i64 (Int.tdiv x2.2.1 10), ()))) (
  HM.pure (.inr (x2.1, x2.2.1, ())))) (ByteArray.mk #[], p0, ())) fun (x1 : ByteArray × Int × Unit) =>
  HM.pure (x1.1, ())

theorem ref16_Decimal_den (p0 : Int) : denFn Tryd.prog [] 21 [0, 2, 3, 9] [0, 3, 9] Tryd.f80.results.toList [.one .str] (bodyOf Tryd.f80) [Kind.val (.one (.int .i64)) p0] = ref16_Decimal p0 := by kernel_rfl
theorem ref16_Decimal_calls (p0 : Int) (h : Heap) (Q : Value → Heap → Prop) (hh : ref16_Decimal p0 h fun x h' => Q (.string x.1) h') :
    HCalls Tryd.prog 80 #[.int .i64 p0] h Q := by
  rw [← ref16_Decimal_den] at hh
  exact calls_of_den Tryd.func80 (by kernel_rfl) Tryd.ntmps80 (by kernel_rfl) (fun f hf => by cases hf) orders hh

/-- aqueduct/text.next -/
def text_next (p0 : ByteArray) : HM (Int × Unit) :=
  HM.bind (α := Int × Int × Unit) (HM.callN Tryd.prog [.one (.int .i32), .one (.int .i64)] 106 #[.string p0]) fun (x1 : Int × Int × Unit) =>
  HM.bind (α := Bool × Unit) (HM.ite (x1.1 == 0) (
  HM.pure (true, ())) (
  HM.ite (x1.1 == 65533) (
  HM.pure (decide (x1.2.1 < (2 : Int)), ())) (
  HM.pure (false, ())))) fun (x2 : Bool × Unit) =>
  HM.ite x2.1 (
  HM.pure (0, ())) (
  HM.pure (x1.2.1, ()))

theorem text_next_den (p0 : ByteArray) : denFn Tryd.prog [106] 21 [0, 2, 3, 4, 19] [0, 3, 4, 19] Tryd.f81.results.toList [.one (.int .i64)] (bodyOf Tryd.f81) [Kind.val (.one .str) p0] = text_next p0 := by kernel_rfl
theorem text_next_calls (p0 : ByteArray) (h : Heap) (Q : Value → Heap → Prop) (hh : text_next p0 h fun x h' => Q (.int .i64 x.1) h') :
    HCalls Tryd.prog 81 #[.string p0] h Q := by
  rw [← text_next_den] at hh
  exact calls_of_den Tryd.func81 (by kernel_rfl) Tryd.ntmps81 (by kernel_rfl) (fun f hf => by
      rcases List.mem_cons.1 hf with rfl | hf
      · exact Tryd.call106
      cases hf) orders hh

/-- aqueduct/ids.New -/
def ids_New (p0 : Int) : HM (Option Addr × Unit) :=
  HM.bind (α := Nat) (HM.new (.map #[] 0)) fun (x1 : Nat) =>
  HM.bind (α := Nat) (HM.new (.cells #[.int .i64 (if 1 < ((if 64 < (p0 : Int) then 64 else p0) : Int) then (if 64 < (p0 : Int) then 64 else p0) else 1), .int .i64 0, .map (some x1)] 216)) fun (x2 : Nat) =>
  HM.pure (some ⟨x2, 0, none⟩, ())

theorem ids_New_den (p0 : Int) : denFn Tryd.prog [] 9 [0, 2] [0] Tryd.f82.results.toList [.one .ptr] (bodyOf Tryd.f82) [Kind.val (.one (.int .i64)) p0] = ids_New p0 := by kernel_rfl
theorem ids_New_calls (p0 : Int) (h : Heap) (Q : Value → Heap → Prop) (hh : ids_New p0 h fun x h' => Q (.pointer x.1) h') :
    HCalls Tryd.prog 82 #[.int .i64 p0] h Q := by
  rw [← ids_New_den] at hh
  exact calls_of_den Tryd.func82 (by kernel_rfl) Tryd.ntmps82 (by kernel_rfl) (fun f hf => by cases hf) orders hh

/-- (*aqueduct/ids.Pool).Take -/
def ids_Pool_Take (p0 : Option Addr) : HM (Int × Int × Unit) :=
  HM.ite (Option.isNone p0) (
  HM.pure (0, 128, ())) (
  HM.bind (α := Int) (HM.call1 Tryd.prog (.one (.int .i64)) 107 #[.pointer p0]) fun (x1 : Int) =>
  HM.ite (x1 == 0) (
  HM.pure (0, 147, ())) (
  HM.bind (α := Unit) (HM.loop (σ := Unit) (τ := Unit) (fun (x3 : Unit) =>
  HM.bind (α := Addr) (HM.nonnil p0) fun (x4 : Addr) =>
  HM.bind (α := Int) (HM.load1 (.int .i64) (Addr.add x4 1)) fun (x5 : Int) =>
  HM.req (65535 ≠ (0 : Int)) <|
  HM.bind (α := Addr) (HM.nonnil p0) fun (x6 : Addr) =>
  HM.bind (α := Unit) (HM.store1 (Addr.add x6 1) (.int .i64 (IntKind.wrap .i64 ((Int.tmod x5 65535) + 1)))) fun (_ : Unit) =>
  HM.bind (α := Addr) (HM.nonnil p0) fun (x7 : Addr) =>
  HM.bind (α := Option Nat) (HM.load1 .map (Addr.add x7 2)) fun (x8 : Option Nat) =>
  HM.bind (α := Addr) (HM.nonnil p0) fun (x9 : Addr) =>
  HM.bind (α := Int) (HM.load1 (.int .i64) (Addr.add x9 1)) fun (x10 : Int) =>
  HM.bind (α := Bool × Bool) (HM.lookup (Instr.sameNow (.int .i64)) (.bool false) (.one .bool) x8 (.int .i64 x10)) fun (x11 : Bool × Bool) =>
  HM.ite (!x11.1) (
  HM.pure (.inr ())) (
  HM.pure (.inl ()))) ()) fun (x2 : Unit) =>
  HM.bind (α := Addr) (HM.nonnil p0) fun (x12 : Addr) =>
  HM.bind (α := Option Nat) (HM.load1 .map (Addr.add x12 2)) fun (x13 : Option Nat) =>
  HM.bind (α := Addr) (HM.nonnil p0) fun (x14 : Addr) =>
  HM.bind (α := Int) (HM.load1 (.int .i64) (Addr.add x14 1)) fun (x15 : Int) =>
  HM.bind (α := Unit) (HM.mapSet (Instr.sameNow (.int .i64)) x13 (.int .i64 x15) (.bool true)) fun (_ : Unit) =>
  HM.bind (α := Addr) (HM.nonnil p0) fun (x16 : Addr) =>
  HM.bind (α := Int) (HM.load1 (.int .i64) (Addr.add x16 1)) fun (x17 : Int) =>
  HM.pure (x17, 0, ())))

theorem ids_Pool_Take_den (p0 : Option Addr) : denFn Tryd.prog [107] 42 [0, 2, 3, 4, 7, 29] [0, 4, 7, 29] Tryd.f83.results.toList [.one (.int .i64), .one (.int .u8)] (bodyOf Tryd.f83) [Kind.val (.one .ptr) p0] = ids_Pool_Take p0 := by kernel_rfl
theorem ids_Pool_Take_calls (p0 : Option Addr) (h : Heap) (Q : Value → Heap → Prop) (hh : ids_Pool_Take p0 h fun x h' => Q (.tuple #[.int .i64 x.1, .int .u8 x.2.1]) h') :
    HCalls Tryd.prog 83 #[.pointer p0] h Q := by
  rw [← ids_Pool_Take_den] at hh
  exact calls_of_den Tryd.func83 (by kernel_rfl) Tryd.ntmps83 (by kernel_rfl) (fun f hf => by
      rcases List.mem_cons.1 hf with rfl | hf
      · exact Tryd.call107
      cases hf) orders hh

/-- aqueduct/aqueductref14.Publish -/
def ref14_Publish (p0 : ByteArray × ByteArray × Int × Bool × ByteArray × Unit) (p1 : Int) (p2 : Bool) : HM ((Int × Bool × Bool × Int × Int × ByteArray × ByteArray × Int × Slc × Slc × ByteArray × Bool × Int × Bool × ByteArray × ByteArray × Int × Bool × Slc × Bool × Bool × ByteArray × ByteArray × Bool × Slc × Slc × Unit) × Unit) :=
  HM.bind (α := Nat) (HM.new (.cells #[.string p0.1, .string p0.2.1, .int .i64 p0.2.2.1, .bool p0.2.2.2.1, .string p0.2.2.2.2.1] 82)) fun (x1 : Nat) =>
  HM.bind (α := Nat) (HM.new (.cells #[.int .i64 0, .bool false, .bool false, .int .i64 0, .int .i64 0, .string (ByteArray.mk #[]), .string (ByteArray.mk #[]), .int .i64 0, .slice none 0 0, .slice none 0 0, .string (ByteArray.mk #[]), .bool false, .int .i64 0, .bool false, .string (ByteArray.mk #[]), .string (ByteArray.mk #[]), .int .i64 0, .bool false, .slice none 0 0, .bool false, .bool false, .string (ByteArray.mk #[]), .string (ByteArray.mk #[]), .bool false, .slice none 0 0, .slice none 0 0] 207)) fun (x2 : Nat) =>
  HM.bind (α := Int) (HM.load1 (.int .i64) (Addr.add ⟨x1, 0, none⟩ 2)) fun (x3 : Int) =>
  HM.bind (α := Bool) (HM.load1 .bool (Addr.add ⟨x1, 0, none⟩ 3)) fun (x4 : Bool) =>
  HM.bind (α := ByteArray) (HM.load1 .str (Addr.add ⟨x1, 0, none⟩ 0)) fun (x5 : ByteArray) =>
  HM.bind (α := ByteArray) (HM.load1 .str (Addr.add ⟨x1, 0, none⟩ 1)) fun (x6 : ByteArray) =>
  HM.bind (α := Nat) (HM.new (.cells #[.int .i64 0, .bool false, .bool false, .int .i64 0, .int .i64 0, .string (ByteArray.mk #[]), .string (ByteArray.mk #[]), .int .i64 0, .slice none 0 0, .slice none 0 0, .string (ByteArray.mk #[]), .bool false, .int .i64 0, .bool false, .string (ByteArray.mk #[]), .string (ByteArray.mk #[]), .int .i64 0, .bool false, .slice none 0 0, .bool false, .bool false, .string (ByteArray.mk #[]), .string (ByteArray.mk #[]), .bool false, .slice none 0 0, .slice none 0 0] 207)) fun (x7 : Nat) =>
  HM.bind (α := Unit) (HM.storeN ⟨x7, 0, none⟩ [.int .i64 3, .bool p2, .bool x4, .int .i64 x3, .int .i64 p1, .string x5, .string x6, .int .i64 0, .slice none 0 0, .slice none 0 0, .string (ByteArray.mk #[]), .bool false, .int .i64 0, .bool false, .string (ByteArray.mk #[]), .string (ByteArray.mk #[]), .int .i64 0, .bool false, .slice none 0 0, .bool false, .bool false, .string (ByteArray.mk #[]), .string (ByteArray.mk #[]), .bool false, .slice none 0 0, .slice none 0 0]) fun (_ : Unit) =>
  HM.bind (α := ByteArray) (HM.load1 .str (Addr.add ⟨x1, 0, none⟩ 4)) fun (x8 : ByteArray) =>
  HM.bind (α := Unit) (HM.ite (decide (0 < (((ByteArray.size x8 : Nat) : Int) : Int))) (
  HM.bind (α := ByteArray) (HM.load1 .str (Addr.add ⟨x1, 0, none⟩ 4)) fun (x10 : ByteArray) =>
  HM.bind (α := Nat) (HM.new (.cells #[.int .i64 38, .int .i64 0, .string (ByteArray.mk #[116, 97, 103]), .string x10] 236)) fun (x11 : Nat) =>
  HM.bind (α := Unit) (HM.store1 (Addr.add ⟨x7, 0, none⟩ 9) (.slice (some ⟨x11, 0, none⟩) 1 1)) fun (_ : Unit) =>
  HM.pure ()) (
  HM.pure ())) fun (x9 : Unit) =>
  HM.bind (α := Int × Bool × Bool × Int × Int × ByteArray × ByteArray × Int × Slc × Slc × ByteArray × Bool × Int × Bool × ByteArray × ByteArray × Int × Bool × Slc × Bool × Bool × ByteArray × ByteArray × Bool × Slc × Slc × Unit) (HM.loadN [.int .i64, .bool, .bool, .int .i64, .int .i64, .str, .str, .int .i64, .slc, .slc, .str, .bool, .int .i64, .bool, .str, .str, .int .i64, .bool, .slc, .bool, .bool, .str, .str, .bool, .slc, .slc] ⟨x7, 0, none⟩) fun (x12 : Int × Bool × Bool × Int × Int × ByteArray × ByteArray × Int × Slc × Slc × ByteArray × Bool × Int × Bool × ByteArray × ByteArray × Int × Bool × Slc × Bool × Bool × ByteArray × ByteArray × Bool × Slc × Slc × Unit) =>
  HM.bind (α := Unit) (HM.storeN ⟨x2, 0, none⟩ [.int .i64 x12.1, .bool x12.2.1, .bool x12.2.2.1, .int .i64 x12.2.2.2.1, .int .i64 x12.2.2.2.2.1, .string x12.2.2.2.2.2.1, .string x12.2.2.2.2.2.2.1, .int .i64 x12.2.2.2.2.2.2.2.1, .slice x12.2.2.2.2.2.2.2.2.1.a x12.2.2.2.2.2.2.2.2.1.len x12.2.2.2.2.2.2.2.2.1.cap, .slice x12.2.2.2.2.2.2.2.2.2.1.a x12.2.2.2.2.2.2.2.2.2.1.len x12.2.2.2.2.2.2.2.2.2.1.cap, .string x12.2.2.2.2.2.2.2.2.2.2.1, .bool x12.2.2.2.2.2.2.2.2.2.2.2.1, .int .i64 x12.2.2.2.2.2.2.2.2.2.2.2.2.1, .bool x12.2.2.2.2.2.2.2.2.2.2.2.2.2.1, .string x12.2.2.2.2.2.2.2.2.2.2.2.2.2.2.1, .string x12.2.2.2.2.2.2.2.2.2.2.2.2.2.2.2.1, .int .i64 x12.2.2.2.2.2.2.2.2.2.2.2.2.2.2.2.2.1, .bool x12.2.2.2.2.2.2.2.2.2.2.2.2.2.2.2.2.2.1, .slice x12.2.2.2.2.2.2.2.2.2.2.2.2.2.2.2.2.2.2.1.a x12.2.2.2.2.2.2.2.2.2.2.2.2.2.2.2.2.2.2.1.len x12.2.2.2.2.2.2.2.2.2.2.2.2.2.2.2.2.2.2.1.cap, .bool x12.2.2.2.2.2.2.2.2.2.2.2.2.2.2.2.2.2.2.2.1, .bool x12.2.2.2.2.2.2.2.2.2.2.2.2.2.2.2.2.2.2.2.2.1, .string x12.2.2.2.2.2.2.2.2.2.2.2.2.2.2.2.2.2.2.2.2.2.1, .string x12.2.2.2.2.2.2.2.2.2.2.2.2.2.2.2.2.2.2.2.2.2.2.1, .bool x12.2.2.2.2.2.2.2.2.2.2.2.2.2.2.2.2.2.2.2.2.2.2.2.1, .slice x12.2.2.2.2.2.2.2.2.2.2.2.2.2.2.2.2.2.2.2.2.2.2.2.2.1.a x12.2.2.2.2.2.2.2.2.2.2.2.2.2.2.2.2.2.2.2.2.2.2.2.2.1.len x12.2.2.2.2.2.2.2.2.2.2.2.2.2.2.2.2.2.2.2.2.2.2.2.2.1.cap, .slice x12.2.2.2.2.2.2.2.2.2.2.2.2.2.2.2.2.2.2.2.2.2.2.2.2.2.1.a x12.2.2.2.2.2.2.2.2.2.2.2.2.2.2.2.2.2.2.2.2.2.2.2.2.2.1.len x12.2.2.2.2.2.2.2.2.2.2.2.2.2.2.2.2.2.2.2.2.2.2.2.2.2.1.cap]) fun (_ : Unit) =>
  HM.bind (α := Int × Bool × Bool × Int × Int × ByteArray × ByteArray × Int × Slc × Slc × ByteArray × Bool × Int × Bool × ByteArray × ByteArray × Int × Bool × Slc × Bool × Bool × ByteArray × ByteArray × Bool × Slc × Slc × Unit) (HM.loadN [.int .i64, .bool, .bool, .int .i64, .int .i64, .str, .str, .int .i64, .slc, .slc, .str, .bool, .int .i64, .bool, .str, .str, .int .i64, .bool, .slc, .bool, .bool, .str, .str, .bool, .slc, .slc] ⟨x2, 0, none⟩) fun (x13 : Int × Bool × Bool × Int × Int × ByteArray × ByteArray × Int × Slc × Slc × ByteArray × Bool × Int × Bool × ByteArray × ByteArray × Int × Bool × Slc × Bool × Bool × ByteArray × ByteArray × Bool × Slc × Slc × Unit) =>
  HM.pure ((x13.1, x13.2.1, x13.2.2.1, x13.2.2.2.1, x13.2.2.2.2.1, x13.2.2.2.2.2.1, x13.2.2.2.2.2.2.1, x13.2.2.2.2.2.2.2.1, x13.2.2.2.2.2.2.2.2.1, x13.2.2.2.2.2.2.2.2.2.1, x13.2.2.2.2.2.2.2.2.2.2.1, x13.2.2.2.2.2.2.2.2.2.2.2.1, x13.2.2.2.2.2.2.2.2.2.2.2.2.1, x13.2.2.2.2.2.2.2.2.2.2.2.2.2.1, x13.2.2.2.2.2.2.2.2.2.2.2.2.2.2.1, x13.2.2.2.2.2.2.2.2.2.2.2.2.2.2.2.1, x13.2.2.2.2.2.2.2.2.2.2.2.2.2.2.2.2.1, x13.2.2.2.2.2.2.2.2.2.2.2.2.2.2.2.2.2.1, x13.2.2.2.2.2.2.2.2.2.2.2.2.2.2.2.2.2.2.1, x13.2.2.2.2.2.2.2.2.2.2.2.2.2.2.2.2.2.2.2.1, x13.2.2.2.2.2.2.2.2.2.2.2.2.2.2.2.2.2.2.2.2.1, x13.2.2.2.2.2.2.2.2.2.2.2.2.2.2.2.2.2.2.2.2.2.1, x13.2.2.2.2.2.2.2.2.2.2.2.2.2.2.2.2.2.2.2.2.2.2.1, x13.2.2.2.2.2.2.2.2.2.2.2.2.2.2.2.2.2.2.2.2.2.2.2.1, x13.2.2.2.2.2.2.2.2.2.2.2.2.2.2.2.2.2.2.2.2.2.2.2.2.1, x13.2.2.2.2.2.2.2.2.2.2.2.2.2.2.2.2.2.2.2.2.2.2.2.2.2.1, ()), ())

theorem ref14_Publish_den (p0 : ByteArray × ByteArray × Int × Bool × ByteArray × Unit) (p1 : Int) (p2 : Bool) : denFn Tryd.prog [] 29 [0, 1, 2, 3, 6, 7, 22] [0, 1, 2, 3, 6, 7, 22] Tryd.f87.results.toList [.agg [.int .i64, .bool, .bool, .int .i64, .int .i64, .str, .str, .int .i64, .slc, .slc, .str, .bool, .int .i64, .bool, .str, .str, .int .i64, .bool, .slc, .bool, .bool, .str, .str, .bool, .slc, .slc]] (bodyOf Tryd.f87) [Kind.val (.agg [.str, .str, .int .i64, .bool, .str]) p0, Kind.val (.one (.int .i64)) p1, Kind.val (.one .bool) p2] = ref14_Publish p0 p1 p2 := by kernel_rfl
theorem ref14_Publish_calls (p0 : ByteArray × ByteArray × Int × Bool × ByteArray × Unit) (p1 : Int) (p2 : Bool) (h : Heap) (Q : Value → Heap → Prop) (hh : ref14_Publish p0 p1 p2 h fun x h' => Q (.agg #[.int .i64 x.1.1, .bool x.1.2.1, .bool x.1.2.2.1, .int .i64 x.1.2.2.2.1, .int .i64 x.1.2.2.2.2.1, .string x.1.2.2.2.2.2.1, .string x.1.2.2.2.2.2.2.1, .int .i64 x.1.2.2.2.2.2.2.2.1, .slice x.1.2.2.2.2.2.2.2.2.1.a x.1.2.2.2.2.2.2.2.2.1.len x.1.2.2.2.2.2.2.2.2.1.cap, .slice x.1.2.2.2.2.2.2.2.2.2.1.a x.1.2.2.2.2.2.2.2.2.2.1.len x.1.2.2.2.2.2.2.2.2.2.1.cap, .string x.1.2.2.2.2.2.2.2.2.2.2.1, .bool x.1.2.2.2.2.2.2.2.2.2.2.2.1, .int .i64 x.1.2.2.2.2.2.2.2.2.2.2.2.2.1, .bool x.1.2.2.2.2.2.2.2.2.2.2.2.2.2.1, .string x.1.2.2.2.2.2.2.2.2.2.2.2.2.2.2.1, .string x.1.2.2.2.2.2.2.2.2.2.2.2.2.2.2.2.1, .int .i64 x.1.2.2.2.2.2.2.2.2.2.2.2.2.2.2.2.2.1, .bool x.1.2.2.2.2.2.2.2.2.2.2.2.2.2.2.2.2.2.1, .slice x.1.2.2.2.2.2.2.2.2.2.2.2.2.2.2.2.2.2.2.1.a x.1.2.2.2.2.2.2.2.2.2.2.2.2.2.2.2.2.2.2.1.len x.1.2.2.2.2.2.2.2.2.2.2.2.2.2.2.2.2.2.2.1.cap, .bool x.1.2.2.2.2.2.2.2.2.2.2.2.2.2.2.2.2.2.2.2.1, .bool x.1.2.2.2.2.2.2.2.2.2.2.2.2.2.2.2.2.2.2.2.2.1, .string x.1.2.2.2.2.2.2.2.2.2.2.2.2.2.2.2.2.2.2.2.2.2.1, .string x.1.2.2.2.2.2.2.2.2.2.2.2.2.2.2.2.2.2.2.2.2.2.2.1, .bool x.1.2.2.2.2.2.2.2.2.2.2.2.2.2.2.2.2.2.2.2.2.2.2.2.1, .slice x.1.2.2.2.2.2.2.2.2.2.2.2.2.2.2.2.2.2.2.2.2.2.2.2.2.1.a x.1.2.2.2.2.2.2.2.2.2.2.2.2.2.2.2.2.2.2.2.2.2.2.2.2.1.len x.1.2.2.2.2.2.2.2.2.2.2.2.2.2.2.2.2.2.2.2.2.2.2.2.2.1.cap, .slice x.1.2.2.2.2.2.2.2.2.2.2.2.2.2.2.2.2.2.2.2.2.2.2.2.2.2.1.a x.1.2.2.2.2.2.2.2.2.2.2.2.2.2.2.2.2.2.2.2.2.2.2.2.2.2.1.len x.1.2.2.2.2.2.2.2.2.2.2.2.2.2.2.2.2.2.2.2.2.2.2.2.2.2.1.cap]) h') :
    HCalls Tryd.prog 87 #[.agg #[.string p0.1, .string p0.2.1, .int .i64 p0.2.2.1, .bool p0.2.2.2.1, .string p0.2.2.2.2.1], .int .i64 p1, .bool p2] h Q := by
  rw [← ref14_Publish_den] at hh
  exact calls_of_den Tryd.func87 (by kernel_rfl) Tryd.ntmps87 (by kernel_rfl) (fun f hf => by cases hf) orders hh

/-- aqueduct/aqueductref13.Take -/
def ref13_Take (p0 : Option Addr) : HM (Int × Int × Unit) :=
  HM.bind (α := Addr) (HM.nonnil p0) fun (x1 : Addr) =>
  HM.bind (α := Slc) (HM.load1 .slc (Addr.add x1 2)) fun (x2 : Slc) =>
  HM.bind (α := Addr) (HM.nonnil p0) fun (x3 : Addr) =>
  HM.bind (α := Int) (HM.load1 (.int .i64) (Addr.add x3 0)) fun (x4 : Int) =>
  HM.ite (decide (x4 ≤ (((x2.len : Nat) : Int) : Int))) (
  HM.pure (0, 147, ())) (
  HM.bind (α := Addr) (HM.nonnil p0) fun (x5 : Addr) =>
  HM.bind (α := Int) (HM.load1 (.int .i64) (Addr.add x5 1)) fun (x6 : Int) =>
  HM.bind (α := Int × Int × Unit) (HM.loop (σ := Int × Int × Unit) (τ := Int × Int × Unit) (fun (x8 : Int × Int × Unit) =>
  HM.ite (decide (x8.2.1 ≤ (64 : Int))) (
  HM.bind (α := Int × Unit) (HM.ite (decide (65535 < ((IntKind.wrap .i64 (x8.1 + 1)) : Int))) (
  HM.pure (1, ())) (
  HM.pure (IntKind.wrap .i64 (x8.1 + 1), ()))) fun (x9 : Int × Unit) =>
  HM.bind (α := Bool) (HM.call1 Tryd.prog (.one .bool) 111 #[.pointer p0, .int .i64 x9.1]) fun (x10 : Bool) =>
  HM.ite (!x10) (
  HM.pure (.inr (x9.1, x8.2.1, ()))) (
  HM.pure (.inl (x9.1, IntKind.wrap .i64 (x8.2.1 + 1), ())))) (
  HM.pure (.inr (x8.1, x8.2.1, ())))) (x6, 0, ())) fun (x7 : Int × Int × Unit) =>
  HM.bind (α := Addr) (HM.nonnil p0) fun (x11 : Addr) =>
  HM.bind (α := Unit) (HM.store1 (Addr.add x11 1) (.int .i64 x7.1)) fun (_ : Unit) =>
  HM.bind (α := Unit) (HM.callN Tryd.prog [] 112 #[.pointer p0, .int .i64 x7.1]) fun (x12 : Unit) =>
  HM.pure (x7.1, 0, ()))

theorem ref13_Take_den (p0 : Option Addr) : denFn Tryd.prog [111, 112] 42 [0, 2, 3, 4, 5, 6, 16, 22, 28, 33] [0, 4, 5, 6, 16, 22, 28, 33] Tryd.f88.results.toList [.one (.int .i64), .one (.int .i64)] (bodyOf Tryd.f88) [Kind.val (.one .ptr) p0] = ref13_Take p0 := by kernel_rfl
theorem ref13_Take_calls (p0 : Option Addr) (h : Heap) (Q : Value → Heap → Prop) (hh : ref13_Take p0 h fun x h' => Q (.tuple #[.int .i64 x.1, .int .i64 x.2.1]) h') :
    HCalls Tryd.prog 88 #[.pointer p0] h Q := by
  rw [← ref13_Take_den] at hh
  exact calls_of_den Tryd.func88 (by kernel_rfl) Tryd.ntmps88 (by kernel_rfl) (fun f hf => by
      rcases List.mem_cons.1 hf with rfl | hf
      · exact Tryd.call111
      rcases List.mem_cons.1 hf with rfl | hf
      · exact Tryd.call112
      cases hf) orders hh

/-- aqueduct/aqueductref02.Char -/
def ref02_Char (p0 : ByteArray) (p1 : Int) : HM (Int × Unit) :=
  HM.bind (α := Int) (HM.strIdx p0 p1) fun (x1 : Int) =>
  HM.bind (α := Bool × Unit) (HM.ite (decide (1 ≤ ((IntKind.wrap .i64 x1) : Int))) (
  HM.pure (decide ((IntKind.wrap .i64 x1) ≤ (127 : Int)), ())) (
  HM.pure (false, ()))) fun (x2 : Bool × Unit) =>
  HM.ite x2.1 (
  HM.pure (1, ())) (
  HM.bind (α := Bool) (HM.call1 Tryd.prog (.one .bool) 114 #[.string p0, .int .i64 (IntKind.wrap .i64 (p1 + 1)), .int .i64 128, .int .i64 191]) fun (x3 : Bool) =>
  HM.bind (α := Bool) (HM.call1 Tryd.prog (.one .bool) 114 #[.string p0, .int .i64 (IntKind.wrap .i64 (p1 + 2)), .int .i64 128, .int .i64 191]) fun (x4 : Bool) =>
  HM.bind (α := Bool) (HM.call1 Tryd.prog (.one .bool) 114 #[.string p0, .int .i64 (IntKind.wrap .i64 (p1 + 3)), .int .i64 128, .int .i64 191]) fun (x5 : Bool) =>
  HM.bind (α := Bool × Unit) (HM.ite (decide (194 ≤ ((IntKind.wrap .i64 x1) : Int))) (
  HM.ite (decide ((IntKind.wrap .i64 x1) ≤ (223 : Int))) (
  HM.pure (x3, ())) (
  HM.pure (false, ()))) (
  HM.pure (false, ()))) fun (x6 : Bool × Unit) =>
  HM.ite x6.1 (
  HM.pure (2, ())) (
  HM.bind (α := Bool × Unit) (HM.ite (decide (224 ≤ ((IntKind.wrap .i64 x1) : Int))) (
  HM.ite (decide ((IntKind.wrap .i64 x1) ≤ (239 : Int))) (
  HM.ite x3 (
  HM.pure (x4, ())) (
  HM.pure (false, ()))) (
  HM.pure (false, ()))) (
  HM.pure (false, ()))) fun (x7 : Bool × Unit) =>
  HM.ite x7.1 (
  HM.bind (α := Bool) (HM.call1 Tryd.prog (.one .bool) 114 #[.string p0, .int .i64 (IntKind.wrap .i64 (p1 + 1)), .int .i64 160, .int .i64 191]) fun (x8 : Bool) =>
  HM.bind (α := Bool) (HM.call1 Tryd.prog (.one .bool) 114 #[.string p0, .int .i64 (IntKind.wrap .i64 (p1 + 1)), .int .i64 128, .int .i64 159]) fun (x9 : Bool) =>
  HM.bind (α := Bool × Unit) (HM.ite ((IntKind.wrap .i64 x1) == 224) (
  HM.ite (!x8) (
  HM.pure (true, ())) (
  HM.ite ((IntKind.wrap .i64 x1) == 237) (
  HM.pure (!x9, ())) (
  HM.pure (false, ())))) (
  HM.ite ((IntKind.wrap .i64 x1) == 237) (
  HM.pure (!x9, ())) (
  HM.pure (false, ())))) fun (x10 : Bool × Unit) =>
  HM.ite x10.1 (
  HM.pure (0, ())) (
  HM.pure (3, ()))) (
  HM.bind (α := Bool × Unit) (HM.ite (decide (240 ≤ ((IntKind.wrap .i64 x1) : Int))) (
  HM.ite (decide ((IntKind.wrap .i64 x1) ≤ (244 : Int))) (
  HM.ite x3 (
  HM.ite x4 (
  HM.pure (x5, ())) (
  HM.pure (false, ()))) (
  HM.pure (false, ()))) (
  HM.pure (false, ()))) (
  HM.pure (false, ()))) fun (x11 : Bool × Unit) =>
  HM.ite x11.1 (
  HM.bind (α := Bool) (HM.call1 Tryd.prog (.one .bool) 114 #[.string p0, .int .i64 (IntKind.wrap .i64 (p1 + 1)), .int .i64 144, .int .i64 191]) fun (x12 : Bool) =>
  HM.bind (α := Bool) (HM.call1 Tryd.prog (.one .bool) 114 #[.string p0, .int .i64 (IntKind.wrap .i64 (p1 + 1)), .int .i64 128, .int .i64 143]) fun (x13 : Bool) =>
  HM.bind (α := Bool × Unit) (HM.ite ((IntKind.wrap .i64 x1) == 240) (
  HM.ite (!x12) (
  HM.pure (true, ())) (
  HM.ite ((IntKind.wrap .i64 x1) == 244) (
  HM.pure (!x13, ())) (
  HM.pure (false, ())))) (
  HM.ite ((IntKind.wrap .i64 x1) == 244) (
  HM.pure (!x13, ())) (
  HM.pure (false, ())))) fun (x14 : Bool × Unit) =>
  HM.ite x14.1 (
  HM.pure (0, ())) (
  HM.pure (4, ()))) (
  HM.pure (0, ())))))

theorem ref02_Char_den (p0 : ByteArray) (p1 : Int) : denFn Tryd.prog [114] 115 [0, 1, 4, 5, 6, 7, 8, 9, 10, 11, 12, 22, 43, 55, 77, 92, 114] [0, 1, 5, 6, 7, 8, 9, 10, 11, 12, 22, 43, 55, 77, 92, 114] Tryd.f90.results.toList [.one (.int .i64)] (bodyOf Tryd.f90) [Kind.val (.one .str) p0, Kind.val (.one (.int .i64)) p1] = ref02_Char p0 p1 := by kernel_rfl
theorem ref02_Char_calls (p0 : ByteArray) (p1 : Int) (h : Heap) (Q : Value → Heap → Prop) (hh : ref02_Char p0 p1 h fun x h' => Q (.int .i64 x.1) h') :
    HCalls Tryd.prog 90 #[.string p0, .int .i64 p1] h Q := by
  rw [← ref02_Char_den] at hh
  exact calls_of_den Tryd.func90 (by kernel_rfl) Tryd.ntmps90 (by kernel_rfl) (fun f hf => by
      rcases List.mem_cons.1 hf with rfl | hf
      · exact Tryd.call114
      cases hf) orders hh

/-- aqueduct/aqueductref13.New -/
def ref13_New (p0 : Int) : HM (Option Addr × Unit) :=
  HM.bind (α := Int × Unit) (HM.ite (decide (p0 < (1 : Int))) (
  HM.pure (1, ())) (
  HM.pure (p0, ()))) fun (x1 : Int × Unit) =>
  HM.bind (α := Int × Unit) (HM.ite (decide (64 < (x1.1 : Int))) (
  HM.pure (64, ())) (
  HM.pure (x1.1, ()))) fun (x2 : Int × Unit) =>
  HM.bind (α := Nat) (HM.new (.cells #[.int .i64 x2.1, .int .i64 0, .slice none 0 0] 91)) fun (x3 : Nat) =>
  HM.pure (some ⟨x3, 0, none⟩, ())

theorem ref13_New_den (p0 : Int) : denFn Tryd.prog [] 10 [0, 2, 4, 6] [0, 4, 6] Tryd.f91.results.toList [.one .ptr] (bodyOf Tryd.f91) [Kind.val (.one (.int .i64)) p0] = ref13_New p0 := by kernel_rfl
theorem ref13_New_calls (p0 : Int) (h : Heap) (Q : Value → Heap → Prop) (hh : ref13_New p0 h fun x h' => Q (.pointer x.1) h') :
    HCalls Tryd.prog 91 #[.int .i64 p0] h Q := by
  rw [← ref13_New_den] at hh
  exact calls_of_den Tryd.func91 (by kernel_rfl) Tryd.ntmps91 (by kernel_rfl) (fun f hf => by cases hf) orders hh

/-- aqueduct/aqueductref14.bound -/
def ref14_bound (p0 : Int) : HM (Int × Unit) :=
  HM.bind (α := Option Addr) (HM.call1 Tryd.prog (.one .ptr) 91 #[.int .i64 p0]) fun (x1 : Option Addr) =>
  HM.bind (α := Addr) (HM.nonnil x1) fun (x2 : Addr) =>
  HM.bind (α := Int) (HM.load1 (.int .i64) (Addr.add x2 0)) fun (x3 : Int) =>
  HM.pure (x3, ())

theorem ref14_bound_den (p0 : Int) : denFn Tryd.prog [91] 10 [0, 2, 3] [0, 3] Tryd.f92.results.toList [.one (.int .i64)] (bodyOf Tryd.f92) [Kind.val (.one (.int .i64)) p0] = ref14_bound p0 := by kernel_rfl
theorem ref14_bound_calls (p0 : Int) (h : Heap) (Q : Value → Heap → Prop) (hh : ref14_bound p0 h fun x h' => Q (.int .i64 x.1) h') :
    HCalls Tryd.prog 92 #[.int .i64 p0] h Q := by
  rw [← ref14_bound_den] at hh
  exact calls_of_den Tryd.func92 (by kernel_rfl) Tryd.ntmps92 (by kernel_rfl) (fun f hf => by
      rcases List.mem_cons.1 hf with rfl | hf
      · exact Tryd.call91
      cases hf) orders hh

/-- cmp.isNaN[int] -/
def cmp_isNaN_int (p0 : Int) : HM (Bool × Unit) :=
  HM.pure (!(p0 == p0), ())

theorem cmp_isNaN_int_den (p0 : Int) : denFn Tryd.prog [] 6 [0, 2] [0] Tryd.f96.results.toList [.one .bool] (bodyOf Tryd.f96) [Kind.val (.one (.int .i64)) p0] = cmp_isNaN_int p0 := by kernel_rfl
theorem cmp_isNaN_int_calls (p0 : Int) (h : Heap) (Q : Value → Heap → Prop) (hh : cmp_isNaN_int p0 h fun x h' => Q (.bool x.1) h') :
    HCalls Tryd.prog 96 #[.int .i64 p0] h Q := by
  rw [← cmp_isNaN_int_den] at hh
  exact calls_of_den Tryd.func96 (by kernel_rfl) Tryd.ntmps96 (by kernel_rfl) (fun f hf => by cases hf) orders hh

/-- cmp.isNaN[int64] -/
def cmp_isNaN_int64 (p0 : Int) : HM (Bool × Unit) :=
  HM.pure (!(p0 == p0), ())

theorem cmp_isNaN_int64_den (p0 : Int) : denFn Tryd.prog [] 6 [0, 2] [0] Tryd.f97.results.toList [.one .bool] (bodyOf Tryd.f97) [Kind.val (.one (.int .i64)) p0] = cmp_isNaN_int64 p0 := by kernel_rfl
theorem cmp_isNaN_int64_calls (p0 : Int) (h : Heap) (Q : Value → Heap → Prop) (hh : cmp_isNaN_int64 p0 h fun x h' => Q (.bool x.1) h') :
    HCalls Tryd.prog 97 #[.int .i64 p0] h Q := by
  rw [← cmp_isNaN_int64_den] at hh
  exact calls_of_den Tryd.func97 (by kernel_rfl) Tryd.ntmps97 (by kernel_rfl) (fun f hf => by cases hf) orders hh

/-- (*aqueduct/ids.Pool).Left -/
def ids_Pool_Left (p0 : Option Addr) : HM (Int × Unit) :=
  HM.ite (Option.isNone p0) (
  HM.pure (0, ())) (
  HM.bind (α := Addr) (HM.nonnil p0) fun (x1 : Addr) =>
  HM.bind (α := Int) (HM.load1 (.int .i64) (Addr.add x1 0)) fun (x2 : Int) =>
  HM.bind (α := Addr) (HM.nonnil p0) fun (x3 : Addr) =>
  HM.bind (α := Option Nat) (HM.load1 .map (Addr.add x3 2)) fun (x4 : Option Nat) =>
  HM.bind (α := Int) (HM.mapLen x4) fun (x5 : Int) =>
  HM.pure (IntKind.wrap .i64 (x2 - x5), ()))

theorem ids_Pool_Left_den (p0 : Option Addr) : denFn Tryd.prog [] 15 [0, 2, 4] [0, 4] Tryd.f107.results.toList [.one (.int .i64)] (bodyOf Tryd.f107) [Kind.val (.one .ptr) p0] = ids_Pool_Left p0 := by kernel_rfl
theorem ids_Pool_Left_calls (p0 : Option Addr) (h : Heap) (Q : Value → Heap → Prop) (hh : ids_Pool_Left p0 h fun x h' => Q (.int .i64 x.1) h') :
    HCalls Tryd.prog 107 #[.pointer p0] h Q := by
  rw [← ids_Pool_Left_den] at hh
  exact calls_of_den Tryd.func107 (by kernel_rfl) Tryd.ntmps107 (by kernel_rfl) (fun f hf => by cases hf) orders hh

/-- aqueduct/aqueductref13.In -/
def ref13_In (p0 : Option Addr) (p1 : Int) : HM (Bool × Unit) :=
  HM.bind (α := (Int × Unit) ⊕ (Bool × Unit)) (HM.loop (σ := Int × Unit) (τ := (Int × Unit) ⊕ (Bool × Unit)) (fun (x2 : Int × Unit) =>
  HM.bind (α := Addr) (HM.nonnil p0) fun (x3 : Addr) =>
  HM.bind (α := Slc) (HM.load1 .slc (Addr.add x3 2)) fun (x4 : Slc) =>
  HM.ite (decide (x2.1 < (((x4.len : Nat) : Int) : Int))) (
  HM.bind (α := Addr) (HM.nonnil p0) fun (x5 : Addr) =>
  HM.bind (α := Slc) (HM.load1 .slc (Addr.add x5 2)) fun (x6 : Slc) =>
  HM.bind (α := Addr) (HM.idx x6.a x6.len x2.1 1) fun (x7 : Addr) =>
  HM.bind (α := Int) (HM.load1 (.int .i64) x7) fun (x8 : Int) =>
  HM.ite (x8 == p1) (
  HM.pure (.inr (.inr (true, ())))) (
  HM.pure (.inl (IntKind.wrap .i64 (x2.1 + 1), ())))) (
  HM.pure (.inr (.inl (x2.1, ()))))) (0, ())) (Sum.elim (fun (x1 : Int × Unit) =>
  HM.pure (false, ())) HM.pure)

theorem ref13_In_den (p0 : Option Addr) (p1 : Int) : denFn Tryd.prog [] 24 [0, 1, 4, 5, 12, 23] [0, 1, 5, 12, 23] Tryd.f111.results.toList [.one .bool] (bodyOf Tryd.f111) [Kind.val (.one .ptr) p0, Kind.val (.one (.int .i64)) p1] = ref13_In p0 p1 := by kernel_rfl
theorem ref13_In_calls (p0 : Option Addr) (p1 : Int) (h : Heap) (Q : Value → Heap → Prop) (hh : ref13_In p0 p1 h fun x h' => Q (.bool x.1) h') :
    HCalls Tryd.prog 111 #[.pointer p0, .int .i64 p1] h Q := by
  rw [← ref13_In_den] at hh
  exact calls_of_den Tryd.func111 (by kernel_rfl) Tryd.ntmps111 (by kernel_rfl) (fun f hf => by cases hf) orders hh

/-- aqueduct/aqueductref13.put -/
def ref13_put (p0 : Option Addr) (p1 : Int) : HM (Unit) :=
  HM.bind (α := Bool × Slc × Int × Unit) (HM.loop (σ := Bool × Slc × Int × Unit) (τ := Bool × Slc × Int × Unit) (fun (x2 : Bool × Slc × Int × Unit) =>
  HM.bind (α := Addr) (HM.nonnil p0) fun (x3 : Addr) =>
  HM.bind (α := Slc) (HM.load1 .slc (Addr.add x3 2)) fun (x4 : Slc) =>
  HM.ite (decide (x2.2.2.1 < (((x4.len : Nat) : Int) : Int))) (
  HM.bind (α := Bool × Unit) (HM.ite (!x2.1) (
  HM.bind (α := Addr) (HM.nonnil p0) fun (x5 : Addr) =>
  HM.bind (α := Slc) (HM.load1 .slc (Addr.add x5 2)) fun (x6 : Slc) =>
  HM.bind (α := Addr) (HM.idx x6.a x6.len x2.2.2.1 1) fun (x7 : Addr) =>
  HM.bind (α := Int) (HM.load1 (.int .i64) x7) fun (x8 : Int) =>
  HM.pure (decide (p1 < (x8 : Int)), ())) (
  HM.pure (false, ()))) fun (x9 : Bool × Unit) =>
  HM.bind (α := Slc × Bool × Unit) (HM.ite x9.1 (
  HM.bind (α := Nat) (HM.new (.cells #[.int .i64 p1] 3)) fun (x11 : Nat) =>
  HM.bind (α := Slc) (HM.append 3 1 8 #[.int .i64 0] x2.2.1 1 (srcSlc 1 (⟨some ⟨x11, 0, none⟩, 1, 1⟩))) fun (x12 : Slc) =>
  HM.pure (x12, true, ())) (
  HM.pure (x2.2.1, x2.1, ()))) fun (x10 : Slc × Bool × Unit) =>
  HM.bind (α := Addr) (HM.nonnil p0) fun (x13 : Addr) =>
  HM.bind (α := Slc) (HM.load1 .slc (Addr.add x13 2)) fun (x14 : Slc) =>
  HM.bind (α := Addr) (HM.idx x14.a x14.len x2.2.2.1 1) fun (x15 : Addr) =>
  HM.bind (α := Int) (HM.load1 (.int .i64) x15) fun (x16 : Int) =>
  HM.bind (α := Nat) (HM.new (.cells #[.int .i64 x16] 3)) fun (x17 : Nat) =>
  HM.bind (α := Slc) (HM.append 3 1 8 #[.int .i64 0] x10.1 1 (srcSlc 1 (⟨some ⟨x17, 0, none⟩, 1, 1⟩))) fun (x18 : Slc) =>
  HM.pure (.inl (x10.2.1, x18, IntKind.wrap .i64 (x2.2.2.1 + 1), ()))) (
  HM.pure (.inr (x2.1, x2.2.1, x2.2.2.1, ())))) (false, ⟨none, 0, 0⟩, 0, ())) fun (x1 : Bool × Slc × Int × Unit) =>
  HM.bind (α := Slc × Unit) (HM.ite (!x1.1) (
  HM.bind (α := Nat) (HM.new (.cells #[.int .i64 p1] 3)) fun (x20 : Nat) =>
  HM.bind (α := Slc) (HM.append 3 1 8 #[.int .i64 0] x1.2.1 1 (srcSlc 1 (⟨some ⟨x20, 0, none⟩, 1, 1⟩))) fun (x21 : Slc) =>
  HM.pure (x21, ())) (
  HM.pure (x1.2.1, ()))) fun (x19 : Slc × Unit) =>
  HM.bind (α := Addr) (HM.nonnil p0) fun (x22 : Addr) =>
  HM.bind (α := Unit) (HM.store1 (Addr.add x22 2) (.slice x19.1.a x19.1.len x19.1.cap)) fun (_ : Unit) =>
  HM.pure ()

theorem ref13_put_den (p0 : Option Addr) (p1 : Int) : denFn Tryd.prog [] 53 [0, 1, 4, 5, 6, 13, 28, 44] [0, 1, 4, 5, 6, 13, 28, 44] Tryd.f112.results.toList [] (bodyOf Tryd.f112) [Kind.val (.one .ptr) p0, Kind.val (.one (.int .i64)) p1] = ref13_put p0 p1 := by kernel_rfl
theorem ref13_put_calls (p0 : Option Addr) (p1 : Int) (h : Heap) (Q : Value → Heap → Prop) (hh : ref13_put p0 p1 h fun x h' => Q (.tuple #[]) h') :
    HCalls Tryd.prog 112 #[.pointer p0, .int .i64 p1] h Q := by
  rw [← ref13_put_den] at hh
  exact calls_of_den Tryd.func112 (by kernel_rfl) Tryd.ntmps112 (by kernel_rfl) (fun f hf => by cases hf) orders hh

/-- aqueduct/aqueductref02.tail -/
def ref02_tail (p0 : ByteArray) (p1 : Int) (p2 : Int) (p3 : Int) : HM (Bool × Unit) :=
  HM.bind (α := Bool × Unit) (HM.ite (decide (p1 < (((ByteArray.size p0 : Nat) : Int) : Int))) (
  HM.bind (α := Int) (HM.strIdx p0 p1) fun (x1 : Int) =>
  HM.ite (decide (p2 ≤ ((IntKind.wrap .i64 x1) : Int))) (
  HM.bind (α := Int) (HM.strIdx p0 p1) fun (x2 : Int) =>
  HM.pure (decide ((IntKind.wrap .i64 x2) ≤ (p3 : Int)), ())) (
  HM.pure (false, ()))) (
  HM.pure (false, ()))) fun (x3 : Bool × Unit) =>
  HM.pure (x3.1, ())

theorem ref02_tail_den (p0 : ByteArray) (p1 : Int) (p2 : Int) (p3 : Int) : denFn Tryd.prog [] 29 [0, 1, 2, 3, 8] [0, 1, 2, 3] Tryd.f114.results.toList [.one .bool] (bodyOf Tryd.f114) [Kind.val (.one .str) p0, Kind.val (.one (.int .i64)) p1, Kind.val (.one (.int .i64)) p2, Kind.val (.one (.int .i64)) p3] = ref02_tail p0 p1 p2 p3 := by kernel_rfl
theorem ref02_tail_calls (p0 : ByteArray) (p1 : Int) (p2 : Int) (p3 : Int) (h : Heap) (Q : Value → Heap → Prop) (hh : ref02_tail p0 p1 p2 p3 h fun x h' => Q (.bool x.1) h') :
    HCalls Tryd.prog 114 #[.string p0, .int .i64 p1, .int .i64 p2, .int .i64 p3] h Q := by
  rw [← ref02_tail_den] at hh
  exact calls_of_den Tryd.func114 (by kernel_rfl) Tryd.ntmps114 (by kernel_rfl) (fun f hf => by cases hf) orders hh

end Go.Proofs.YtlgddhcbiioefaaDoor
