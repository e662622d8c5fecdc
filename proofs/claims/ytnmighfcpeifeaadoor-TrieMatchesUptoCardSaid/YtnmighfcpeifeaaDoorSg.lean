/-
  The shallow forms of functions of the program, written by gen.py; each is held against the program by the kernel.
-/
import Derived.Test.YtnmighfcpeifeaaDoorHA
import Derived.Test.YtnmighfcpeifeaaDoorSf
import Derived.Test.YtnmighfcpeifeaaDoorProg
import Derived.KernelRfl
namespace Go.Proofs.YtnmighfcpeifeaaDoor
open Go.H Go.Proofs
set_option linter.unusedVariables false
set_option linter.unusedSimpArgs false
set_option maxRecDepth 100000
set_option maxHeartbeats 4000000

/-- aqueduct/aqueductlaw09.TriePlays -/
def law09_TriePlays (p0 : Slc) : HM (Bool × Unit) :=
  HM.bind (α := Option Addr × Option Addr × Bool × Unit) (HM.callN Tryd.prog [.one .ptr, .one .ptr, .one .bool] 30 #[.slice p0.a p0.len p0.cap]) fun (x1 : Option Addr × Option Addr × Bool × Unit) =>
  HM.bind (α := Bool × Unit) (HM.bind (α := Bool) (HM.call1 Tryd.prog (.one .bool) 31 #[]) fun (x2 : Bool) =>
  HM.ite x2 (
  HM.pure (x1.2.2.1, ())) (
  HM.pure (false, ()))) fun (x3 : Bool × Unit) =>
  HM.pure (x3.1, ())

theorem law09_TriePlays_den (p0 : Slc) : denFn Tryd.prog [30, 31] 16 [0, 2, 5] [0, 5] Tryd.f6.results.toList [.one .bool] (bodyOf Tryd.f6) [Kind.val (.one .slc) p0] = law09_TriePlays p0 := by kernel_rfl
theorem law09_TriePlays_calls (p0 : Slc) (h : Heap) (Q : Value → Heap → Prop) (hh : law09_TriePlays p0 h fun x h' => Q (.bool x.1) h') :
    HCalls Tryd.prog 6 #[.slice p0.a p0.len p0.cap] h Q := by
  rw [← law09_TriePlays_den] at hh
  exact calls_of_den Tryd.func6 (by kernel_rfl) Tryd.ntmps6 (by kernel_rfl) (fun f hf => by
      rcases List.mem_cons.1 hf with rfl | hf
      · exact Tryd.call30
      rcases List.mem_cons.1 hf with rfl | hf
      · exact Tryd.call31
      cases hf) orders hh

/-- aqueduct/aqueductlaw09.TrieMatches -/
def law09_TrieMatches (p0 : Slc) (p1 : Slc) : HM (Bool × Unit) :=
  HM.bind (α := Option Addr × Option Addr × Bool × Unit) (HM.callN Tryd.prog [.one .ptr, .one .ptr, .one .bool] 30 #[.slice p0.a p0.len p0.cap]) fun (x1 : Option Addr × Option Addr × Bool × Unit) =>
  HM.bind (α := Bool × Unit) (HM.bind (α := Bool) (HM.call1 Tryd.prog (.one .bool) 31 #[]) fun (x2 : Bool) =>
  HM.ite (!x2) (
  HM.pure (true, ())) (
  HM.pure (!x1.2.2.1, ()))) fun (x3 : Bool × Unit) =>
  HM.ite x3.1 (
  HM.pure (false, ())) (
  HM.bind (α := Slc) (HM.slice p1 none (some (if 20 < (((p1.len : Nat) : Int) : Int) then 20 else ((p1.len : Nat) : Int))) none 1) fun (x4 : Slc) =>
  HM.bind (α := (Int × Unit) ⊕ (Bool × Unit)) (HM.loop (σ := Int × Unit) (τ := (Int × Unit) ⊕ (Bool × Unit)) (fun (x6 : Int × Unit) =>
  HM.ite (decide (x6.1 < (((x4.len : Nat) : Int) : Int))) (
  HM.bind (α := Addr) (HM.idx x4.a x4.len x6.1 1) fun (x7 : Addr) =>
  HM.bind (α := ByteArray) (HM.load1 .str x7) fun (x8 : ByteArray) =>
  HM.bind (α := Slc) (HM.call1 Tryd.prog (.one .slc) 33 #[.pointer x1.1, .string x8]) fun (x9 : Slc) =>
  HM.bind (α := Slc) (HM.call1 Tryd.prog (.one .slc) 34 #[.pointer x1.2.1, .string x8]) fun (x10 : Slc) =>
  HM.bind (α := Bool) (HM.call1 Tryd.prog (.one .bool) 32 #[.slice x9.a x9.len x9.cap, .slice x10.a x10.len x10.cap]) fun (x11 : Bool) =>
  HM.ite (!x11) (
  HM.pure (.inr (.inr (false, ())))) (
  HM.pure (.inl (IntKind.wrap .i64 (x6.1 + 1), ())))) (
  HM.pure (.inr (.inl (x6.1, ()))))) (0, ())) (Sum.elim (fun (x5 : Int × Unit) =>
  HM.pure (true, ())) HM.pure))

theorem law09_TrieMatches_den (p0 : Slc) (p1 : Slc) : denFn Tryd.prog [30, 31, 33, 34, 32] 41 [0, 1, 4, 5, 6, 7, 9, 21, 26, 27, 28, 29, 39] [0, 1, 5, 6, 7, 9, 21, 26, 27, 28, 29, 39] Tryd.f7.results.toList [.one .bool] (bodyOf Tryd.f7) [Kind.val (.one .slc) p0, Kind.val (.one .slc) p1] = law09_TrieMatches p0 p1 := by kernel_rfl
theorem law09_TrieMatches_calls (p0 : Slc) (p1 : Slc) (h : Heap) (Q : Value → Heap → Prop) (hh : law09_TrieMatches p0 p1 h fun x h' => Q (.bool x.1) h') :
    HCalls Tryd.prog 7 #[.slice p0.a p0.len p0.cap, .slice p1.a p1.len p1.cap] h Q := by
  rw [← law09_TrieMatches_den] at hh
  exact calls_of_den Tryd.func7 (by kernel_rfl) Tryd.ntmps7 (by kernel_rfl) (fun f hf => by
      rcases List.mem_cons.1 hf with rfl | hf
      · exact Tryd.call30
      rcases List.mem_cons.1 hf with rfl | hf
      · exact Tryd.call31
      rcases List.mem_cons.1 hf with rfl | hf
      · exact Tryd.call33
      rcases List.mem_cons.1 hf with rfl | hf
      · exact Tryd.call34
      rcases List.mem_cons.1 hf with rfl | hf
      · exact Tryd.call32
      cases hf) orders hh

/-- aqueduct/aqueductlaw09.TrieFinds -/
def law09_TrieFinds (p0 : Slc) (p1 : ByteArray) : HM (Bool × Unit) :=
  HM.bind (α := Option Addr × Option Addr × Bool × Unit) (HM.callN Tryd.prog [.one .ptr, .one .ptr, .one .bool] 30 #[.slice p0.a p0.len p0.cap]) fun (x1 : Option Addr × Option Addr × Bool × Unit) =>
  HM.bind (α := Bool) (HM.call1 Tryd.prog (.one .bool) 31 #[]) fun (x2 : Bool) =>
  HM.ite (!x2) (
  HM.pure (false, ())) (
  HM.bind (α := Nat) (HM.new (.map #[] 0)) fun (x3 : Nat) =>
  HM.bind (α := Slc) (HM.slice p0 none (some (if 100 < (((p0.len : Nat) : Int) : Int) then 100 else ((p0.len : Nat) : Int))) none 4) fun (x4 : Slc) =>
  HM.bind (α := Int × Unit) (HM.loop (σ := Int × Unit) (τ := Int × Unit) (fun (x6 : Int × Unit) =>
  HM.ite (decide (x6.1 < (((x4.len : Nat) : Int) : Int))) (
  HM.bind (α := Addr) (HM.idx x4.a x4.len x6.1 4) fun (x7 : Addr) =>
  HM.bind (α := Int × Int × ByteArray × Int × Unit) (HM.loadN [.int .i64, .int .i64, .str, .int .i64] x7) fun (x8 : Int × Int × ByteArray × Int × Unit) =>
  HM.bind (α := Nat) (HM.new (.cells #[.int .i64 0, .int .i64 0, .string (ByteArray.mk #[]), .int .i64 0] 93)) fun (x9 : Nat) =>
  HM.bind (α := Unit) (HM.storeN ⟨x9, 0, none⟩ [.int .i64 x8.1, .int .i64 x8.2.1, .string x8.2.2.1, .int .i64 x8.2.2.2.1]) fun (_ : Unit) =>
  HM.bind (α := Int) (HM.load1 (.int .i64) (Addr.add (Addr.add ⟨x9, 0, none⟩ 1) 0)) fun (x10 : Int) =>
  HM.bind (α := Unit) (HM.mapSet (Instr.sameNow (.int .i64)) (some x3) (.int .i64 x10) (.bool true)) fun (_ : Unit) =>
  HM.pure (.inl (IntKind.wrap .i64 (x6.1 + 1), ()))) (
  HM.pure (.inr (x6.1, ())))) (0, ())) fun (x5 : Int × Unit) =>
  HM.bind (α := Nat) (HM.rangeM (some x3)) fun (x11 : Nat) =>
  HM.bind (α := Int × Unit) (HM.loop (σ := Int × Unit) (τ := Int × Unit) (fun (x13 : Int × Unit) =>
  HM.bind (α := Option (Value × Value)) (HM.nextM x11) fun (x14 : Option (Value × Value)) =>
  HM.opt x14 (
  HM.ite false (
  HM.bind (α := Int × Value) (HM.entryM (.one (.int .i64)) (.one .any) x11) fun (x16 : Int × Value) =>
  HM.bind (α := Slc) (HM.call1 Tryd.prog (.one .slc) 35 #[.pointer x1.1, .int .i64 x16.1]) fun (x17 : Slc) =>
  HM.bind (α := Int × Int × Unit) (HM.loop (σ := Int × Int × Unit) (τ := Int × Int × Unit) (fun (x19 : Int × Int × Unit) =>
  HM.ite (decide (x19.2.1 < (((x17.len : Nat) : Int) : Int))) (
  HM.bind (α := Addr) (HM.idx x17.a x17.len x19.2.1 3) fun (x20 : Addr) =>
  HM.bind (α := Int × ByteArray × Int × Unit) (HM.loadN [.int .i64, .str, .int .i64] x20) fun (x21 : Int × ByteArray × Int × Unit) =>
  HM.bind (α := Nat) (HM.new (.cells #[.int .i64 0, .string (ByteArray.mk #[]), .int .i64 0] 95)) fun (x22 : Nat) =>
  HM.bind (α := Unit) (HM.storeN ⟨x22, 0, none⟩ [.int .i64 x21.1, .string x21.2.1, .int .i64 x21.2.2.1]) fun (_ : Unit) =>
  HM.bind (α := ByteArray) (HM.load1 .str (Addr.add ⟨x22, 0, none⟩ 1)) fun (x23 : ByteArray) =>
  HM.bind (α := Bool) (HM.call1 Tryd.prog (.one .bool) 36 #[.string x23, .string p1]) fun (x24 : Bool) =>
  HM.bind (α := Int × Unit) (HM.ite x24 (
  HM.pure (IntKind.wrap .i64 (x19.1 + 1), ())) (
  HM.pure (x19.1, ()))) fun (x25 : Int × Unit) =>
  HM.pure (.inl (x25.1, IntKind.wrap .i64 (x19.2.1 + 1), ()))) (
  HM.pure (.inr (x19.1, x19.2.1, ())))) (x13.1, 0, ())) fun (x18 : Int × Int × Unit) =>
  HM.pure (.inl (x18.1, ()))) (
  HM.pure (.inr (x13.1, ())))) fun (x15 : Value × Value) =>
  HM.ite true (
  HM.bind (α := Int × Value) (HM.entryM (.one (.int .i64)) (.one .any) x11) fun (x26 : Int × Value) =>
  HM.bind (α := Slc) (HM.call1 Tryd.prog (.one .slc) 35 #[.pointer x1.1, .int .i64 x26.1]) fun (x27 : Slc) =>
  HM.bind (α := Int × Int × Unit) (HM.loop (σ := Int × Int × Unit) (τ := Int × Int × Unit) (fun (x29 : Int × Int × Unit) =>
  HM.ite (decide (x29.2.1 < (((x27.len : Nat) : Int) : Int))) (
  HM.bind (α := Addr) (HM.idx x27.a x27.len x29.2.1 3) fun (x30 : Addr) =>
  HM.bind (α := Int × ByteArray × Int × Unit) (HM.loadN [.int .i64, .str, .int .i64] x30) fun (x31 : Int × ByteArray × Int × Unit) =>
  HM.bind (α := Nat) (HM.new (.cells #[.int .i64 0, .string (ByteArray.mk #[]), .int .i64 0] 95)) fun (x32 : Nat) =>
  HM.bind (α := Unit) (HM.storeN ⟨x32, 0, none⟩ [.int .i64 x31.1, .string x31.2.1, .int .i64 x31.2.2.1]) fun (_ : Unit) =>
  HM.bind (α := ByteArray) (HM.load1 .str (Addr.add ⟨x32, 0, none⟩ 1)) fun (x33 : ByteArray) =>
  HM.bind (α := Bool) (HM.call1 Tryd.prog (.one .bool) 36 #[.string x33, .string p1]) fun (x34 : Bool) =>
  HM.bind (α := Int × Unit) (HM.ite x34 (
  HM.pure (IntKind.wrap .i64 (x29.1 + 1), ())) (
  HM.pure (x29.1, ()))) fun (x35 : Int × Unit) =>
  HM.pure (.inl (x35.1, IntKind.wrap .i64 (x29.2.1 + 1), ()))) (
  HM.pure (.inr (x29.1, x29.2.1, ())))) (x13.1, 0, ())) fun (x28 : Int × Int × Unit) =>
  HM.pure (.inl (x28.1, ()))) (
  HM.pure (.inr (x13.1, ())))) (0, ())) fun (x12 : Int × Unit) =>
  HM.bind (α := Slc) (HM.call1 Tryd.prog (.one .slc) 33 #[.pointer x1.1, .string p1]) fun (x36 : Slc) =>
  HM.bind (α := (Int × Unit) ⊕ (Bool × Unit)) (HM.loop (σ := Int × Unit) (τ := (Int × Unit) ⊕ (Bool × Unit)) (fun (x38 : Int × Unit) =>
  HM.ite (decide (x38.1 < (((x36.len : Nat) : Int) : Int))) (
  HM.bind (α := Addr) (HM.idx x36.a x36.len x38.1 3) fun (x39 : Addr) =>
  HM.bind (α := Int × ByteArray × Int × Unit) (HM.loadN [.int .i64, .str, .int .i64] x39) fun (x40 : Int × ByteArray × Int × Unit) =>
  HM.bind (α := Nat) (HM.new (.cells #[.int .i64 0, .string (ByteArray.mk #[]), .int .i64 0] 95)) fun (x41 : Nat) =>
  HM.bind (α := Unit) (HM.storeN ⟨x41, 0, none⟩ [.int .i64 x40.1, .string x40.2.1, .int .i64 x40.2.2.1]) fun (_ : Unit) =>
  HM.bind (α := Bool × Unit) (HM.bind (α := ByteArray) (HM.load1 .str (Addr.add ⟨x41, 0, none⟩ 1)) fun (x42 : ByteArray) =>
  HM.bind (α := Bool) (HM.call1 Tryd.prog (.one .bool) 36 #[.string x42, .string p1]) fun (x43 : Bool) =>
  HM.ite (!x43) (
  HM.pure (true, ())) (
  HM.ite (decide (0 < (x38.1 : Int))) (
  HM.bind (α := Addr) (HM.idx x36.a x36.len (IntKind.wrap .i64 (x38.1 - 1)) 3) fun (x44 : Addr) =>
  HM.bind (α := Int) (HM.load1 (.int .i64) (Addr.add x44 0)) fun (x45 : Int) =>
  HM.bind (α := Int) (HM.load1 (.int .i64) (Addr.add ⟨x41, 0, none⟩ 0)) fun (x46 : Int) =>
  HM.ite (decide (x46 < (x45 : Int))) (
  HM.pure (true, ())) (
  HM.bind (α := Addr) (HM.idx x36.a x36.len (IntKind.wrap .i64 (x38.1 - 1)) 3) fun (x47 : Addr) =>
  HM.bind (α := Int) (HM.load1 (.int .i64) (Addr.add x47 0)) fun (x48 : Int) =>
  HM.bind (α := Int) (HM.load1 (.int .i64) (Addr.add ⟨x41, 0, none⟩ 0)) fun (x49 : Int) =>
  HM.ite (x48 == x49) (
  HM.bind (α := Addr) (HM.idx x36.a x36.len (IntKind.wrap .i64 (x38.1 - 1)) 3) fun (x50 : Addr) =>
  HM.bind (α := ByteArray) (HM.load1 .str (Addr.add x50 1)) fun (x51 : ByteArray) =>
  HM.bind (α := ByteArray) (HM.load1 .str (Addr.add ⟨x41, 0, none⟩ 1)) fun (x52 : ByteArray) =>
  HM.pure (!(Op.bytesLess x51.toList x52.toList), ())) (
  HM.pure (false, ())))) (
  HM.pure (false, ())))) fun (x53 : Bool × Unit) =>
  HM.ite x53.1 (
  HM.pure (.inr (.inr (false, ())))) (
  HM.pure (.inl (IntKind.wrap .i64 (x38.1 + 1), ())))) (
  HM.pure (.inr (.inl (x38.1, ()))))) (0, ())) (Sum.elim (fun (x37 : Int × Unit) =>
  HM.pure (((x36.len : Nat) : Int) == x12.1, ())) HM.pure))

theorem law09_TrieFinds_den (p0 : Slc) (p1 : ByteArray) : denFn Tryd.prog [30, 31, 35, 36, 33] 120 [0, 1, 4, 5, 8, 10, 11, 12, 14, 15, 16, 17, 25, 31, 32, 33, 34, 43, 45, 50, 51, 52, 53, 59, 66, 67, 68, 69, 114] [0, 1, 5, 8, 10, 11, 12, 14, 15, 16, 17, 25, 31, 32, 33, 34, 43, 45, 50, 51, 52, 53, 59, 66, 67, 68, 69, 114] Tryd.f8.results.toList [.one .bool] (bodyOf Tryd.f8) [Kind.val (.one .slc) p0, Kind.val (.one .str) p1] = law09_TrieFinds p0 p1 := by kernel_rfl
theorem law09_TrieFinds_calls (p0 : Slc) (p1 : ByteArray) (h : Heap) (Q : Value → Heap → Prop) (hh : law09_TrieFinds p0 p1 h fun x h' => Q (.bool x.1) h') :
    HCalls Tryd.prog 8 #[.slice p0.a p0.len p0.cap, .string p1] h Q := by
  rw [← law09_TrieFinds_den] at hh
  exact calls_of_den Tryd.func8 (by kernel_rfl) Tryd.ntmps8 (by kernel_rfl) (fun f hf => by
      rcases List.mem_cons.1 hf with rfl | hf
      · exact Tryd.call30
      rcases List.mem_cons.1 hf with rfl | hf
      · exact Tryd.call31
      rcases List.mem_cons.1 hf with rfl | hf
      · exact Tryd.call35
      rcases List.mem_cons.1 hf with rfl | hf
      · exact Tryd.call36
      rcases List.mem_cons.1 hf with rfl | hf
      · exact Tryd.call33
      cases hf) orders hh

/-- aqueduct/aqueductlaw09.TrieNil -/
def law09_TrieNil (p0 : Int × ByteArray × Int × Unit) : HM (Bool × Unit) :=
  HM.bind (α := Nat) (HM.new (.cells #[.int .i64 p0.1, .string p0.2.1, .int .i64 p0.2.2.1] 91)) fun (x1 : Nat) =>
  HM.bind (α := Bool × Unit) (HM.bind (α := Bool) (HM.call1 Tryd.prog (.one .bool) 31 #[]) fun (x2 : Bool) =>
  HM.ite x2 (
  HM.bind (α := Int × ByteArray × Int × Unit) (HM.loadN [.int .i64, .str, .int .i64] ⟨x1, 0, none⟩) fun (x3 : Int × ByteArray × Int × Unit) =>
  HM.bind (α := Int) (HM.call1 Tryd.prog (.one (.int .u8)) 37 #[.pointer none, .agg #[.int .i64 x3.1, .string x3.2.1, .int .i64 x3.2.2.1]]) fun (x4 : Int) =>
  HM.ite (x4 == 128) (
  HM.bind (α := Int) (HM.load1 (.int .i64) (Addr.add ⟨x1, 0, none⟩ 0)) fun (x5 : Int) =>
  HM.bind (α := ByteArray) (HM.load1 .str (Addr.add ⟨x1, 0, none⟩ 1)) fun (x6 : ByteArray) =>
  HM.bind (α := Bool) (HM.call1 Tryd.prog (.one .bool) 38 #[.pointer none, .int .i64 x5, .string x6]) fun (x7 : Bool) =>
  HM.ite (!x7) (
  HM.bind (α := Int) (HM.load1 (.int .i64) (Addr.add ⟨x1, 0, none⟩ 0)) fun (x8 : Int) =>
  HM.bind (α := Int) (HM.call1 Tryd.prog (.one (.int .i64)) 39 #[.pointer none, .int .i64 x8]) fun (x9 : Int) =>
  HM.ite (x9 == 0) (
  HM.bind (α := ByteArray) (HM.load1 .str (Addr.add ⟨x1, 0, none⟩ 1)) fun (x10 : ByteArray) =>
  HM.bind (α := Slc) (HM.call1 Tryd.prog (.one .slc) 33 #[.pointer none, .string x10]) fun (x11 : Slc) =>
  HM.ite (((x11.len : Nat) : Int) == 0) (
  HM.bind (α := Int) (HM.load1 (.int .i64) (Addr.add ⟨x1, 0, none⟩ 0)) fun (x12 : Int) =>
  HM.bind (α := Slc) (HM.call1 Tryd.prog (.one .slc) 35 #[.pointer none, .int .i64 x12]) fun (x13 : Slc) =>
  HM.ite (((x13.len : Nat) : Int) == 0) (
  HM.bind (α := Slc) (HM.call1 Tryd.prog (.one .slc) 40 #[.pointer none]) fun (x14 : Slc) =>
  HM.pure (((x14.len : Nat) : Int) == 0, ())) (
  HM.pure (false, ()))) (
  HM.pure (false, ()))) (
  HM.pure (false, ()))) (
  HM.pure (false, ()))) (
  HM.pure (false, ()))) (
  HM.pure (false, ()))) fun (x15 : Bool × Unit) =>
  HM.pure (x15.1, ())

theorem law09_TrieNil_den (p0 : Int × ByteArray × Int × Unit) : denFn Tryd.prog [31, 37, 38, 39, 33, 35, 40] 49 [0, 1, 2, 3] [0, 1, 3] Tryd.f9.results.toList [.one .bool] (bodyOf Tryd.f9) [Kind.val (.agg [.int .i64, .str, .int .i64]) p0] = law09_TrieNil p0 := by kernel_rfl
theorem law09_TrieNil_calls (p0 : Int × ByteArray × Int × Unit) (h : Heap) (Q : Value → Heap → Prop) (hh : law09_TrieNil p0 h fun x h' => Q (.bool x.1) h') :
    HCalls Tryd.prog 9 #[.agg #[.int .i64 p0.1, .string p0.2.1, .int .i64 p0.2.2.1]] h Q := by
  rw [← law09_TrieNil_den] at hh
  exact calls_of_den Tryd.func9 (by kernel_rfl) Tryd.ntmps9 (by kernel_rfl) (fun f hf => by
      rcases List.mem_cons.1 hf with rfl | hf
      · exact Tryd.call31
      rcases List.mem_cons.1 hf with rfl | hf
      · exact Tryd.call37
      rcases List.mem_cons.1 hf with rfl | hf
      · exact Tryd.call38
      rcases List.mem_cons.1 hf with rfl | hf
      · exact Tryd.call39
      rcases List.mem_cons.1 hf with rfl | hf
      · exact Tryd.call33
      rcases List.mem_cons.1 hf with rfl | hf
      · exact Tryd.call35
      rcases List.mem_cons.1 hf with rfl | hf
      · exact Tryd.call40
      cases hf) orders hh

/-- aqueduct/aqueductlaw09.run -/
def law09_run (p0 : Slc) : HM (Option Addr × Option Addr × Bool × Unit) :=
  HM.bind (α := Option Addr) (HM.call1 Tryd.prog (.one .ptr) 63 #[]) fun (x1 : Option Addr) =>
  HM.bind (α := Nat) (HM.new (.cells #[.slice none 0 0] 151)) fun (x2 : Nat) =>
  HM.bind (α := Slc) (HM.slice p0 none (some (if 100 < (((p0.len : Nat) : Int) : Int) then 100 else ((p0.len : Nat) : Int))) none 4) fun (x3 : Slc) =>
  HM.bind (α := Bool × Int × Unit) (HM.loop (σ := Bool × Int × Unit) (τ := Bool × Int × Unit) (fun (x5 : Bool × Int × Unit) =>
  HM.ite (decide (x5.2.1 < (((x3.len : Nat) : Int) : Int))) (
  HM.bind (α := Addr) (HM.idx x3.a x3.len x5.2.1 4) fun (x6 : Addr) =>
  HM.bind (α := Int × Int × ByteArray × Int × Unit) (HM.loadN [.int .i64, .int .i64, .str, .int .i64] x6) fun (x7 : Int × Int × ByteArray × Int × Unit) =>
  HM.bind (α := Nat) (HM.new (.cells #[.int .i64 0, .int .i64 0, .string (ByteArray.mk #[]), .int .i64 0] 93)) fun (x8 : Nat) =>
  HM.bind (α := Unit) (HM.storeN ⟨x8, 0, none⟩ [.int .i64 x7.1, .int .i64 x7.2.1, .string x7.2.2.1, .int .i64 x7.2.2.2.1]) fun (_ : Unit) =>
  HM.bind (α := Int) (HM.load1 (.int .i64) (Addr.add ⟨x8, 0, none⟩ 0)) fun (x9 : Int) =>
  HM.req (5 ≠ (0 : Int)) <|
  HM.bind (α := Bool × Unit) (HM.ite ((Int.tmod x9 5) == 1) (
  HM.pure ((Int.tmod x9 5) == 1, ())) (
  HM.pure ((Int.tmod x9 5) == (-1), ()))) fun (x10 : Bool × Unit) =>
  HM.bind (α := Bool × Unit) (HM.ite x10.1 (
  HM.bind (α := Bool × Unit) (HM.ite x5.1 (
  HM.bind (α := Int) (HM.load1 (.int .i64) (Addr.add (Addr.add ⟨x8, 0, none⟩ 1) 0)) fun (x12 : Int) =>
  HM.bind (α := ByteArray) (HM.load1 .str (Addr.add (Addr.add ⟨x8, 0, none⟩ 1) 1)) fun (x13 : ByteArray) =>
  HM.bind (α := Int) (HM.load1 (.int .i64) (Addr.add (Addr.add ⟨x8, 0, none⟩ 1) 0)) fun (x14 : Int) =>
  HM.bind (α := ByteArray) (HM.load1 .str (Addr.add (Addr.add ⟨x8, 0, none⟩ 1) 1)) fun (x15 : ByteArray) =>
  HM.bind (α := Bool) (HM.call1 Tryd.prog (.one .bool) 38 #[.pointer x1, .int .i64 x12, .string x13]) fun (x16 : Bool) =>
  HM.bind (α := ByteArray) (HM.load1 .str (Addr.add (Addr.add ⟨x8, 0, none⟩ 1) 1)) fun (x17 : ByteArray) =>
  HM.req ((.string x17 : Value) = .string x15) <|
  HM.bind (α := Int) (HM.load1 (.int .i64) (Addr.add (Addr.add ⟨x8, 0, none⟩ 1) 0)) fun (x18 : Int) =>
  HM.req ((.int .i64 x18 : Value) = .int .i64 x14) <|
  HM.bind (α := Bool) (HM.call1 Tryd.prog (.one .bool) 64 #[.pointer (some ⟨x2, 0, none⟩), .int .i64 x14, .string x15]) fun (x19 : Bool) =>
  HM.pure (x16 == x19, ())) (
  HM.pure (false, ()))) fun (x20 : Bool × Unit) =>
  HM.pure (x20.1, ())) (
  HM.bind (α := Bool × Unit) (HM.ite ((Int.tmod x9 5) == 2) (
  HM.pure ((Int.tmod x9 5) == 2, ())) (
  HM.pure ((Int.tmod x9 5) == (-2), ()))) fun (x21 : Bool × Unit) =>
  HM.bind (α := Bool × Unit) (HM.ite x21.1 (
  HM.bind (α := Bool × Unit) (HM.ite x5.1 (
  HM.bind (α := Int) (HM.load1 (.int .i64) (Addr.add (Addr.add ⟨x8, 0, none⟩ 1) 0)) fun (x23 : Int) =>
  HM.bind (α := Int) (HM.load1 (.int .i64) (Addr.add (Addr.add ⟨x8, 0, none⟩ 1) 0)) fun (x24 : Int) =>
  HM.bind (α := Int) (HM.call1 Tryd.prog (.one (.int .i64)) 39 #[.pointer x1, .int .i64 x23]) fun (x25 : Int) =>
  HM.bind (α := Int) (HM.load1 (.int .i64) (Addr.add (Addr.add ⟨x8, 0, none⟩ 1) 0)) fun (x26 : Int) =>
  HM.req ((.int .i64 x26 : Value) = .int .i64 x24) <|
  HM.bind (α := Int) (HM.call1 Tryd.prog (.one (.int .i64)) 65 #[.pointer (some ⟨x2, 0, none⟩), .int .i64 x24]) fun (x27 : Int) =>
  HM.pure (x25 == x27, ())) (
  HM.pure (false, ()))) fun (x28 : Bool × Unit) =>
  HM.pure (x28.1, ())) (
  HM.bind (α := Bool × Unit) (HM.ite x5.1 (
  HM.bind (α := Int × ByteArray × Int × Unit) (HM.loadN [.int .i64, .str, .int .i64] (Addr.add ⟨x8, 0, none⟩ 1)) fun (x29 : Int × ByteArray × Int × Unit) =>
  HM.bind (α := Int × ByteArray × Int × Unit) (HM.loadN [.int .i64, .str, .int .i64] (Addr.add ⟨x8, 0, none⟩ 1)) fun (x30 : Int × ByteArray × Int × Unit) =>
  HM.bind (α := Int) (HM.call1 Tryd.prog (.one (.int .u8)) 37 #[.pointer x1, .agg #[.int .i64 x29.1, .string x29.2.1, .int .i64 x29.2.2.1]]) fun (x31 : Int) =>
  HM.bind (α := Int × ByteArray × Int × Unit) (HM.loadN [.int .i64, .str, .int .i64] (Addr.add ⟨x8, 0, none⟩ 1)) fun (x32 : Int × ByteArray × Int × Unit) =>
  HM.req ((.agg #[.int .i64 x32.1, .string x32.2.1, .int .i64 x32.2.2.1] : Value) = .agg #[.int .i64 x30.1, .string x30.2.1, .int .i64 x30.2.2.1]) <|
  HM.bind (α := Int) (HM.call1 Tryd.prog (.one (.int .i64)) 66 #[.pointer (some ⟨x2, 0, none⟩), .agg #[.int .i64 x30.1, .string x30.2.1, .int .i64 x30.2.2.1]]) fun (x33 : Int) =>
  HM.pure ((IntKind.wrap .i64 x31) == x33, ())) (
  HM.pure (false, ()))) fun (x34 : Bool × Unit) =>
  HM.pure (x34.1, ()))) fun (x22 : Bool × Unit) =>
  HM.pure (x22.1, ()))) fun (x11 : Bool × Unit) =>
  HM.pure (.inl (x11.1, IntKind.wrap .i64 (x5.2.1 + 1), ()))) (
  HM.pure (.inr (x5.1, x5.2.1, ())))) (true, 0, ())) fun (x4 : Bool × Int × Unit) =>
  HM.pure (x1, some ⟨x2, 0, none⟩, x4.1, ())

theorem law09_run_den (p0 : Slc) : denFn Tryd.prog [63, 38, 64, 39, 65, 37, 66] 83 [0, 2, 3, 4, 5, 6, 7, 9, 17, 18, 19, 20, 25, 39, 62] [0, 5, 6, 7, 9, 17, 18, 19, 20, 25, 39, 62] Tryd.f30.results.toList [.one .ptr, .one .ptr, .one .bool] (bodyOf Tryd.f30) [Kind.val (.one .slc) p0] = law09_run p0 := by kernel_rfl
theorem law09_run_calls (p0 : Slc) (h : Heap) (Q : Value → Heap → Prop) (hh : law09_run p0 h fun x h' => Q (.tuple #[.pointer x.1, .pointer x.2.1, .bool x.2.2.1]) h') :
    HCalls Tryd.prog 30 #[.slice p0.a p0.len p0.cap] h Q := by
  rw [← law09_run_den] at hh
  exact calls_of_den Tryd.func30 (by kernel_rfl) Tryd.ntmps30 (by kernel_rfl) (fun f hf => by
      rcases List.mem_cons.1 hf with rfl | hf
      · exact Tryd.call63
      rcases List.mem_cons.1 hf with rfl | hf
      · exact Tryd.call38
      rcases List.mem_cons.1 hf with rfl | hf
      · exact Tryd.call64
      rcases List.mem_cons.1 hf with rfl | hf
      · exact Tryd.call39
      rcases List.mem_cons.1 hf with rfl | hf
      · exact Tryd.call65
      rcases List.mem_cons.1 hf with rfl | hf
      · exact Tryd.call37
      rcases List.mem_cons.1 hf with rfl | hf
      · exact Tryd.call66
      cases hf) orders hh

/-- aqueduct/aqueductlaw09.wakes -/
def law09_wakes : HM (Bool × Unit) :=
  HM.bind (α := Option Addr) (HM.call1 Tryd.prog (.one .ptr) 63 #[]) fun (x1 : Option Addr) =>
  HM.bind (α := Nat) (HM.new (.cells #[.int .i64 1, .string (ByteArray.mk #[97, 47, 43]), .int .i64 0, .int .i64 2, .string (ByteArray.mk #[97, 47, 98]), .int .i64 1, .int .i64 1, .string (ByteArray.mk #[35]), .int .i64 2] 95)) fun (x2 : Nat) =>
  HM.bind (α := (Int × Unit) ⊕ (Bool × Unit)) (HM.loop (σ := Int × Unit) (τ := (Int × Unit) ⊕ (Bool × Unit)) (fun (x4 : Int × Unit) =>
  HM.ite (decide (x4.1 < (((3 : Nat) : Int) : Int))) (
  HM.bind (α := Addr) (HM.idx (some ⟨x2, 0, none⟩) 3 x4.1 3) fun (x5 : Addr) =>
  HM.bind (α := Int × ByteArray × Int × Unit) (HM.loadN [.int .i64, .str, .int .i64] x5) fun (x6 : Int × ByteArray × Int × Unit) =>
  HM.bind (α := Nat) (HM.new (.cells #[.int .i64 0, .string (ByteArray.mk #[]), .int .i64 0] 95)) fun (x7 : Nat) =>
  HM.bind (α := Unit) (HM.storeN ⟨x7, 0, none⟩ [.int .i64 x6.1, .string x6.2.1, .int .i64 x6.2.2.1]) fun (_ : Unit) =>
  HM.bind (α := Int × ByteArray × Int × Unit) (HM.loadN [.int .i64, .str, .int .i64] ⟨x7, 0, none⟩) fun (x8 : Int × ByteArray × Int × Unit) =>
  HM.bind (α := Int) (HM.call1 Tryd.prog (.one (.int .u8)) 37 #[.pointer x1, .agg #[.int .i64 x8.1, .string x8.2.1, .int .i64 x8.2.2.1]]) fun (x9 : Int) =>
  HM.ite (!(x9 == 0)) (
  HM.pure (.inr (.inr (false, ())))) (
  HM.pure (.inl (IntKind.wrap .i64 (x4.1 + 1), ())))) (
  HM.pure (.inr (.inl (x4.1, ()))))) (0, ())) (Sum.elim (fun (x3 : Int × Unit) =>
  HM.bind (α := Slc) (HM.call1 Tryd.prog (.one .slc) 33 #[.pointer x1, .string (ByteArray.mk #[97, 47, 98])]) fun (x10 : Slc) =>
  HM.bind (α := Bool × Unit) (HM.ite (((x10.len : Nat) : Int) == 3) (
  HM.bind (α := Addr) (HM.idx x10.a x10.len 0 3) fun (x11 : Addr) =>
  HM.bind (α := Int × ByteArray × Int × Unit) (HM.loadN [.int .i64, .str, .int .i64] x11) fun (x12 : Int × ByteArray × Int × Unit) =>
  HM.ite ((x12.1 == 1) && ((decide (x12.2.1 = (ByteArray.mk #[35]))) && ((x12.2.2.1 == 2) && true))) (
  HM.bind (α := Addr) (HM.idx x10.a x10.len 2 3) fun (x13 : Addr) =>
  HM.bind (α := Int) (HM.load1 (.int .i64) (Addr.add x13 0)) fun (x14 : Int) =>
  HM.pure (x14 == 2, ())) (
  HM.pure (false, ()))) (
  HM.pure (false, ()))) fun (x15 : Bool × Unit) =>
  HM.pure (x15.1, ())) HM.pure)

theorem law09_wakes_den : denFn Tryd.prog [63, 37, 33] 39 [0, 1, 3, 4, 9, 10, 11, 12, 18] [1, 3, 4, 9, 10, 11, 12, 18] Tryd.f31.results.toList [.one .bool] (bodyOf Tryd.f31) [] = law09_wakes := by kernel_rfl
theorem law09_wakes_calls (h : Heap) (Q : Value → Heap → Prop) (hh : law09_wakes h fun x h' => Q (.bool x.1) h') :
    HCalls Tryd.prog 31 #[] h Q := by
  rw [← law09_wakes_den] at hh
  exact calls_of_den Tryd.func31 (by kernel_rfl) Tryd.ntmps31 (by kernel_rfl) (fun f hf => by
      rcases List.mem_cons.1 hf with rfl | hf
      · exact Tryd.call63
      rcases List.mem_cons.1 hf with rfl | hf
      · exact Tryd.call37
      rcases List.mem_cons.1 hf with rfl | hf
      · exact Tryd.call33
      cases hf) orders hh

/-- aqueduct/aqueductlaw09.same -/
def law09_same (p0 : Slc) (p1 : Slc) : HM (Bool × Unit) :=
  HM.ite (!(((p0.len : Nat) : Int) == ((p1.len : Nat) : Int))) (
  HM.pure (false, ())) (
  HM.bind (α := (Int × Unit) ⊕ (Bool × Unit)) (HM.loop (σ := Int × Unit) (τ := (Int × Unit) ⊕ (Bool × Unit)) (fun (x2 : Int × Unit) =>
  HM.ite (decide (x2.1 < (((p0.len : Nat) : Int) : Int))) (
  HM.bind (α := Addr) (HM.idx p0.a p0.len x2.1 3) fun (x3 : Addr) =>
  HM.bind (α := Int × ByteArray × Int × Unit) (HM.loadN [.int .i64, .str, .int .i64] x3) fun (x4 : Int × ByteArray × Int × Unit) =>
  HM.bind (α := Addr) (HM.idx p1.a p1.len x2.1 3) fun (x5 : Addr) =>
  HM.bind (α := Int × ByteArray × Int × Unit) (HM.loadN [.int .i64, .str, .int .i64] x5) fun (x6 : Int × ByteArray × Int × Unit) =>
  HM.ite (!((x4.1 == x6.1) && ((decide (x4.2.1 = x6.2.1)) && ((x4.2.2.1 == x6.2.2.1) && true)))) (
  HM.pure (.inr (.inr (false, ())))) (
  HM.pure (.inl (IntKind.wrap .i64 (x2.1 + 1), ())))) (
  HM.pure (.inr (.inl (x2.1, ()))))) (0, ())) (Sum.elim (fun (x1 : Int × Unit) =>
  HM.pure (true, ())) HM.pure))

theorem law09_same_den (p0 : Slc) (p1 : Slc) : denFn Tryd.prog [] 26 [0, 1, 4, 5, 10, 12, 13, 14, 24] [0, 1, 5, 10, 12, 13, 14, 24] Tryd.f32.results.toList [.one .bool] (bodyOf Tryd.f32) [Kind.val (.one .slc) p0, Kind.val (.one .slc) p1] = law09_same p0 p1 := by kernel_rfl
theorem law09_same_calls (p0 : Slc) (p1 : Slc) (h : Heap) (Q : Value → Heap → Prop) (hh : law09_same p0 p1 h fun x h' => Q (.bool x.1) h') :
    HCalls Tryd.prog 32 #[.slice p0.a p0.len p0.cap, .slice p1.a p1.len p1.cap] h Q := by
  rw [← law09_same_den] at hh
  exact calls_of_den Tryd.func32 (by kernel_rfl) Tryd.ntmps32 (by kernel_rfl) (fun f hf => by cases hf) orders hh

/-- (*aqueduct/trie.Trie).Match -/
def trie_Trie_Match (p0 : Option Addr) (p1 : ByteArray) : HM (Slc × Unit) :=
  HM.bind (α := Bool × Unit) (HM.ite (Option.isNone p0) (
  HM.pure (true, ())) (
  HM.bind (α := Int) (HM.call1 Tryd.prog (.one (.int .u8)) 67 #[.string p1]) fun (x1 : Int) =>
  HM.pure (!(x1 == 0), ()))) fun (x2 : Bool × Unit) =>
  HM.ite x2.1 (
  HM.pure (⟨none, 0, 0⟩, ())) (
  HM.bind (α := Addr) (HM.nonnil p0) fun (x3 : Addr) =>
  HM.bind (α := Option Addr) (HM.load1 .ptr (Addr.add x3 0)) fun (x4 : Option Addr) =>
  HM.bind (α := Int) (HM.strIdx p1 0) fun (x5 : Int) =>
  HM.bind (α := Slc) (HM.call1 Tryd.prog (.one .slc) 69 #[.string p1]) fun (x6 : Slc) =>
  HM.bind (α := Option Addr) (HM.load1 .ptr (Addr.add x3 0)) fun (x7 : Option Addr) =>
  HM.req ((.pointer x7 : Value) = .pointer x4) <|
  HM.bind (α := Slc) (HM.call1 Tryd.prog (.one .slc) 68 #[.pointer x4, .slice none 0 0, .slice x6.a x6.len x6.cap, .bool (x5 == 36), .slice none 0 0]) fun (x8 : Slc) =>
  HM.bind (α := Unit) (HM.callN Tryd.prog [] 70 #[.slice x8.a x8.len x8.cap, .func (.func 71) #[] #[]]) fun (x9 : Unit) =>
  HM.pure (x8, ()))

theorem trie_Trie_Match_den (p0 : Option Addr) (p1 : ByteArray) : denFn Tryd.prog [67, 69, 68, 70] 26 [0, 1, 4, 5, 12] [0, 1, 5, 12] Tryd.f33.results.toList [.one .slc] (bodyOf Tryd.f33) [Kind.val (.one .ptr) p0, Kind.val (.one .str) p1] = trie_Trie_Match p0 p1 := by kernel_rfl
theorem trie_Trie_Match_calls (p0 : Option Addr) (p1 : ByteArray) (h : Heap) (Q : Value → Heap → Prop) (hh : trie_Trie_Match p0 p1 h fun x h' => Q (.slice x.1.a x.1.len x.1.cap) h') :
    HCalls Tryd.prog 33 #[.pointer p0, .string p1] h Q := by
  rw [← trie_Trie_Match_den] at hh
  exact calls_of_den Tryd.func33 (by kernel_rfl) Tryd.ntmps33 (by kernel_rfl) (fun f hf => by
      rcases List.mem_cons.1 hf with rfl | hf
      · exact Tryd.call67
      rcases List.mem_cons.1 hf with rfl | hf
      · exact Tryd.call69
      rcases List.mem_cons.1 hf with rfl | hf
      · exact Tryd.call68
      rcases List.mem_cons.1 hf with rfl | hf
      · exact Tryd.call70
      cases hf) orders hh

/-- aqueduct/aqueductref09.Match -/
def ref09_Match (p0 : Option Addr) (p1 : ByteArray) : HM (Slc × Unit) :=
  HM.bind (α := Slc × Int × Unit) (HM.loop (σ := Slc × Int × Unit) (τ := Slc × Int × Unit) (fun (x2 : Slc × Int × Unit) =>
  HM.bind (α := Addr) (HM.nonnil p0) fun (x3 : Addr) =>
  HM.bind (α := Slc) (HM.load1 .slc (Addr.add x3 0)) fun (x4 : Slc) =>
  HM.ite (decide (x2.2.1 < (((x4.len : Nat) : Int) : Int))) (
  HM.bind (α := Addr) (HM.nonnil p0) fun (x5 : Addr) =>
  HM.bind (α := Slc) (HM.load1 .slc (Addr.add x5 0)) fun (x6 : Slc) =>
  HM.bind (α := Addr) (HM.idx x6.a x6.len x2.2.1 3) fun (x7 : Addr) =>
  HM.bind (α := ByteArray) (HM.load1 .str (Addr.add x7 1)) fun (x8 : ByteArray) =>
  HM.bind (α := Bool) (HM.call1 Tryd.prog (.one .bool) 72 #[.string x8, .string p1]) fun (x9 : Bool) =>
  HM.bind (α := Slc × Unit) (HM.ite x9 (
  HM.bind (α := Addr) (HM.nonnil p0) fun (x11 : Addr) =>
  HM.bind (α := Slc) (HM.load1 .slc (Addr.add x11 0)) fun (x12 : Slc) =>
  HM.bind (α := Addr) (HM.idx x12.a x12.len x2.2.1 3) fun (x13 : Addr) =>
  HM.bind (α := Int × ByteArray × Int × Unit) (HM.loadN [.int .i64, .str, .int .i64] x13) fun (x14 : Int × ByteArray × Int × Unit) =>
  HM.bind (α := Nat) (HM.new (.cells #[.int .i64 x14.1, .string x14.2.1, .int .i64 x14.2.2.1] 155)) fun (x15 : Nat) =>
  HM.bind (α := Slc) (HM.append 155 3 32 #[.int .i64 0, .string (ByteArray.mk #[]), .int .i64 0] x2.1 1 (srcSlc 3 (⟨some ⟨x15, 0, none⟩, 1, 1⟩))) fun (x16 : Slc) =>
  HM.pure (x16, ())) (
  HM.pure (x2.1, ()))) fun (x10 : Slc × Unit) =>
  HM.pure (.inl (x10.1, IntKind.wrap .i64 (x2.2.1 + 1), ()))) (
  HM.pure (.inr (x2.1, x2.2.1, ())))) (⟨none, 0, 0⟩, 0, ())) fun (x1 : Slc × Int × Unit) =>
  HM.pure (x1.1, ())

theorem ref09_Match_den (p0 : Option Addr) (p1 : ByteArray) : denFn Tryd.prog [72] 39 [0, 1, 4, 5, 6, 7, 14, 27] [0, 1, 5, 6, 7, 14, 27] Tryd.f34.results.toList [.one .slc] (bodyOf Tryd.f34) [Kind.val (.one .ptr) p0, Kind.val (.one .str) p1] = ref09_Match p0 p1 := by kernel_rfl
theorem ref09_Match_calls (p0 : Option Addr) (p1 : ByteArray) (h : Heap) (Q : Value → Heap → Prop) (hh : ref09_Match p0 p1 h fun x h' => Q (.slice x.1.a x.1.len x.1.cap) h') :
    HCalls Tryd.prog 34 #[.pointer p0, .string p1] h Q := by
  rw [← ref09_Match_den] at hh
  exact calls_of_den Tryd.func34 (by kernel_rfl) Tryd.ntmps34 (by kernel_rfl) (fun f hf => by
      rcases List.mem_cons.1 hf with rfl | hf
      · exact Tryd.call72
      cases hf) orders hh

/-- (*aqueduct/trie.Trie).For -/
def trie_Trie_For (p0 : Option Addr) (p1 : Int) : HM (Slc × Unit) :=
  HM.bind (α := Nat) (HM.new (.cells #[.int .i64 p1] 3)) fun (x1 : Nat) =>
  HM.ite (Option.isNone p0) (
  HM.pure (⟨none, 0, 0⟩, ())) (
  HM.bind (α := Nat) (HM.new (.cells #[.slice none 0 0] 84)) fun (x2 : Nat) =>
  HM.bind (α := Addr) (HM.nonnil p0) fun (x3 : Addr) =>
  HM.bind (α := Option Addr) (HM.load1 .ptr (Addr.add x3 0)) fun (x4 : Option Addr) =>
  HM.bind (α := Unit) (HM.callN Tryd.prog [] 73 #[.pointer x4, .slice none 0 0, .func (.func 74) #[] #[.pointer (some ⟨x1, 0, none⟩), .pointer (some ⟨x2, 0, none⟩)]]) fun (x5 : Unit) =>
  HM.bind (α := Slc) (HM.load1 .slc ⟨x2, 0, none⟩) fun (x6 : Slc) =>
  HM.bind (α := Unit) (HM.callN Tryd.prog [] 70 #[.slice x6.a x6.len x6.cap, .func (.func 71) #[] #[]]) fun (x7 : Unit) =>
  HM.bind (α := Slc) (HM.load1 .slc ⟨x2, 0, none⟩) fun (x8 : Slc) =>
  HM.pure (x8, ()))

theorem trie_Trie_For_den (p0 : Option Addr) (p1 : Int) : denFn Tryd.prog [73, 70] 17 [0, 1, 3, 4, 5, 7] [0, 1, 3, 5, 7] Tryd.f35.results.toList [.one .slc] (bodyOf Tryd.f35) [Kind.val (.one .ptr) p0, Kind.val (.one (.int .i64)) p1] = trie_Trie_For p0 p1 := by kernel_rfl
theorem trie_Trie_For_calls (p0 : Option Addr) (p1 : Int) (h : Heap) (Q : Value → Heap → Prop) (hh : trie_Trie_For p0 p1 h fun x h' => Q (.slice x.1.a x.1.len x.1.cap) h') :
    HCalls Tryd.prog 35 #[.pointer p0, .int .i64 p1] h Q := by
  rw [← trie_Trie_For_den] at hh
  exact calls_of_den Tryd.func35 (by kernel_rfl) Tryd.ntmps35 (by kernel_rfl) (fun f hf => by
      rcases List.mem_cons.1 hf with rfl | hf
      · exact Tryd.call73
      rcases List.mem_cons.1 hf with rfl | hf
      · exact Tryd.call70
      cases hf) orders hh

/-- aqueduct/topic.Match -/
def topic_Match (p0 : ByteArray) (p1 : ByteArray) : HM (Bool × Unit) :=
  HM.bind (α := Bool × Unit) (HM.bind (α := Int) (HM.call1 Tryd.prog (.one (.int .u8)) 75 #[.string p0]) fun (x1 : Int) =>
  HM.ite (!(x1 == 0)) (
  HM.pure (true, ())) (
  HM.bind (α := Int) (HM.call1 Tryd.prog (.one (.int .u8)) 67 #[.string p1]) fun (x2 : Int) =>
  HM.pure (!(x2 == 0), ()))) fun (x3 : Bool × Unit) =>
  HM.ite x3.1 (
  HM.pure (false, ())) (
  HM.bind (α := Bool × Unit) (HM.bind (α := Int) (HM.strIdx p1 0) fun (x4 : Int) =>
  HM.ite (x4 == 36) (
  HM.bind (α := ByteArray) (HM.substr p0 none (some 1)) fun (x5 : ByteArray) =>
  HM.ite (decide (x5 = (ByteArray.mk #[43]))) (
  HM.pure (true, ())) (
  HM.bind (α := ByteArray) (HM.substr p0 none (some 1)) fun (x6 : ByteArray) =>
  HM.pure (decide (x6 = (ByteArray.mk #[35])), ()))) (
  HM.pure (false, ()))) fun (x7 : Bool × Unit) =>
  HM.ite x7.1 (
  HM.pure (false, ())) (
  HM.bind (α := Slc) (HM.call1 Tryd.prog (.one .slc) 69 #[.string p0]) fun (x8 : Slc) =>
  HM.bind (α := Slc) (HM.call1 Tryd.prog (.one .slc) 69 #[.string p1]) fun (x9 : Slc) =>
  HM.bind (α := Addr) (HM.idx x8.a x8.len (IntKind.wrap .i64 (((x8.len : Nat) : Int) - 1)) 1) fun (x10 : Addr) =>
  HM.bind (α := ByteArray) (HM.load1 .str x10) fun (x11 : ByteArray) =>
  HM.bind (α := Slc × Unit) (HM.ite (decide (x11 = (ByteArray.mk #[35]))) (
  HM.bind (α := Slc) (HM.slice x8 none (some (IntKind.wrap .i64 (((x8.len : Nat) : Int) - 1))) none 1) fun (x13 : Slc) =>
  HM.pure (x13, ())) (
  HM.pure (x8, ()))) fun (x12 : Slc × Unit) =>
  HM.bind (α := Bool × Unit) (HM.ite (decide (((x9.len : Nat) : Int) < (((x12.1.len : Nat) : Int) : Int))) (
  HM.pure (true, ())) (
  HM.ite (!(decide (x11 = (ByteArray.mk #[35])))) (
  HM.pure (decide (((x12.1.len : Nat) : Int) < (((x9.len : Nat) : Int) : Int)), ())) (
  HM.pure (false, ())))) fun (x14 : Bool × Unit) =>
  HM.ite x14.1 (
  HM.pure (false, ())) (
  HM.bind (α := Slc) (HM.slice x9 none (some ((x12.1.len : Nat) : Int)) none 1) fun (x15 : Slc) =>
  HM.bind (α := Bool) (HM.call1 Tryd.prog (.one .bool) 76 #[.slice x12.1.a x12.1.len x12.1.cap, .slice x15.a x15.len x15.cap, .func (.func 77) #[] #[]]) fun (x16 : Bool) =>
  HM.pure (x16, ()))))

theorem topic_Match_den (p0 : ByteArray) (p1 : ByteArray) : denFn Tryd.prog [75, 67, 69, 76] 68 [0, 1, 4, 5, 6, 7, 15, 28, 40, 61] [0, 1, 5, 6, 7, 15, 28, 40, 61] Tryd.f36.results.toList [.one .bool] (bodyOf Tryd.f36) [Kind.val (.one .str) p0, Kind.val (.one .str) p1] = topic_Match p0 p1 := by kernel_rfl
theorem topic_Match_calls (p0 : ByteArray) (p1 : ByteArray) (h : Heap) (Q : Value → Heap → Prop) (hh : topic_Match p0 p1 h fun x h' => Q (.bool x.1) h') :
    HCalls Tryd.prog 36 #[.string p0, .string p1] h Q := by
  rw [← topic_Match_den] at hh
  exact calls_of_den Tryd.func36 (by kernel_rfl) Tryd.ntmps36 (by kernel_rfl) (fun f hf => by
      rcases List.mem_cons.1 hf with rfl | hf
      · exact Tryd.call75
      rcases List.mem_cons.1 hf with rfl | hf
      · exact Tryd.call67
      rcases List.mem_cons.1 hf with rfl | hf
      · exact Tryd.call69
      rcases List.mem_cons.1 hf with rfl | hf
      · exact Tryd.call76
      cases hf) orders hh

/-- (*aqueduct/trie.Trie).Add -/
def trie_Trie_Add (p0 : Option Addr) (p1 : Int × ByteArray × Int × Unit) : HM (Int × Unit) :=
  HM.bind (α := Nat) (HM.new (.cells #[.int .i64 p1.1, .string p1.2.1, .int .i64 p1.2.2.1] 95)) fun (x1 : Nat) =>
  HM.ite (Option.isNone p0) (
  HM.pure (128, ())) (
  HM.bind (α := ByteArray) (HM.load1 .str (Addr.add ⟨x1, 0, none⟩ 1)) fun (x2 : ByteArray) =>
  HM.bind (α := Int) (HM.call1 Tryd.prog (.one (.int .u8)) 75 #[.string x2]) fun (x3 : Int) =>
  HM.ite (!(x3 == 0)) (
  HM.pure (143, ())) (
  HM.bind (α := Bool × Unit) (HM.bind (α := Int) (HM.load1 (.int .i64) (Addr.add ⟨x1, 0, none⟩ 2)) fun (x4 : Int) =>
  HM.ite (decide (x4 < (0 : Int))) (
  HM.pure (true, ())) (
  HM.bind (α := Int) (HM.load1 (.int .i64) (Addr.add ⟨x1, 0, none⟩ 2)) fun (x5 : Int) =>
  HM.pure (decide (2 < (x5 : Int)), ()))) fun (x6 : Bool × Unit) =>
  HM.ite x6.1 (
  HM.pure (155, ())) (
  HM.bind (α := ByteArray) (HM.load1 .str (Addr.add ⟨x1, 0, none⟩ 1)) fun (x7 : ByteArray) =>
  HM.bind (α := Option Addr) (HM.call1 Tryd.prog (.one .ptr) 78 #[.pointer p0, .string x7]) fun (x8 : Option Addr) =>
  HM.bind (α := (Unit) ⊕ (Int × Unit)) (HM.ite (!(Option.isNone x8)) (
  HM.bind (α := Addr) (HM.nonnil x8) fun (x10 : Addr) =>
  HM.bind (α := Option Nat) (HM.load1 .map (Addr.add x10 0)) fun (x11 : Option Nat) =>
  HM.bind (α := Int) (HM.load1 (.int .i64) (Addr.add ⟨x1, 0, none⟩ 0)) fun (x12 : Int) =>
  HM.bind (α := Int × Bool) (HM.lookup (Instr.sameNow (.int .i64)) (.int .i64 0) (.one (.int .i64)) x11 (.int .i64 x12)) fun (x13 : Int × Bool) =>
  HM.ite x13.2 (
  HM.bind (α := Addr) (HM.nonnil x8) fun (x14 : Addr) =>
  HM.bind (α := Option Nat) (HM.load1 .map (Addr.add x14 0)) fun (x15 : Option Nat) =>
  HM.bind (α := Int) (HM.load1 (.int .i64) (Addr.add ⟨x1, 0, none⟩ 0)) fun (x16 : Int) =>
  HM.bind (α := Int) (HM.load1 (.int .i64) (Addr.add ⟨x1, 0, none⟩ 2)) fun (x17 : Int) =>
  HM.bind (α := Unit) (HM.mapSet (Instr.sameNow (.int .i64)) x15 (.int .i64 x16) (.int .i64 x17)) fun (_ : Unit) =>
  HM.pure (.inr (0, ()))) (
  HM.pure (.inl ()))) (
  HM.pure (.inl ()))) (Sum.elim (fun (x9 : Unit) =>
  HM.bind (α := Addr) (HM.nonnil p0) fun (x18 : Addr) =>
  HM.bind (α := Option Nat) (HM.load1 .map (Addr.add x18 1)) fun (x19 : Option Nat) =>
  HM.bind (α := Int) (HM.load1 (.int .i64) (Addr.add ⟨x1, 0, none⟩ 0)) fun (x20 : Int) =>
  HM.bind (α := Int × Bool) (HM.lookup (Instr.sameNow (.int .i64)) (.int .i64 0) (.one (.int .i64)) x19 (.int .i64 x20)) fun (x21 : Int × Bool) =>
  HM.ite (decide (64 ≤ (x21.1 : Int))) (
  HM.pure (151, ())) (
  HM.bind (α := Addr) (HM.nonnil p0) fun (x22 : Addr) =>
  HM.bind (α := Option Addr) (HM.load1 .ptr (Addr.add x22 0)) fun (x23 : Option Addr) =>
  HM.bind (α := ByteArray) (HM.load1 .str (Addr.add ⟨x1, 0, none⟩ 1)) fun (x24 : ByteArray) =>
  HM.bind (α := Slc) (HM.call1 Tryd.prog (.one .slc) 69 #[.string x24]) fun (x25 : Slc) =>
  HM.bind (α := Option Addr × Int × Unit) (HM.loop (σ := Option Addr × Int × Unit) (τ := Option Addr × Int × Unit) (fun (x27 : Option Addr × Int × Unit) =>
  HM.ite (decide (x27.2.1 < (((x25.len : Nat) : Int) : Int))) (
  HM.bind (α := Addr) (HM.idx x25.a x25.len x27.2.1 1) fun (x28 : Addr) =>
  HM.bind (α := ByteArray) (HM.load1 .str x28) fun (x29 : ByteArray) =>
  HM.bind (α := Addr) (HM.nonnil x27.1) fun (x30 : Addr) =>
  HM.bind (α := Option Nat) (HM.load1 .map (Addr.add x30 1)) fun (x31 : Option Nat) =>
  HM.bind (α := Option Addr × Bool) (HM.lookup (Instr.sameNow .string) (.pointer none) (.one .ptr) x31 (.string x29)) fun (x32 : Option Addr × Bool) =>
  HM.bind (α := Unit) (HM.ite (Option.isNone x32.1) (
  HM.bind (α := Addr) (HM.nonnil x27.1) fun (x34 : Addr) =>
  HM.bind (α := Option Nat) (HM.load1 .map (Addr.add x34 1)) fun (x35 : Option Nat) =>
  HM.bind (α := Option Addr) (HM.call1 Tryd.prog (.one .ptr) 79 #[]) fun (x36 : Option Addr) =>
  HM.bind (α := Option Nat) (HM.load1 .map (Addr.add x34 1)) fun (x37 : Option Nat) =>
  HM.req ((.map x37 : Value) = .map x35) <|
  HM.bind (α := Unit) (HM.mapSet (Instr.sameNow .string) x35 (.string x29) (.pointer x36)) fun (_ : Unit) =>
  HM.pure ()) (
  HM.pure ())) fun (x33 : Unit) =>
  HM.bind (α := Addr) (HM.nonnil x27.1) fun (x38 : Addr) =>
  HM.bind (α := Option Nat) (HM.load1 .map (Addr.add x38 1)) fun (x39 : Option Nat) =>
  HM.bind (α := Option Addr × Bool) (HM.lookup (Instr.sameNow .string) (.pointer none) (.one .ptr) x39 (.string x29)) fun (x40 : Option Addr × Bool) =>
  HM.pure (.inl (x40.1, IntKind.wrap .i64 (x27.2.1 + 1), ()))) (
  HM.pure (.inr (x27.1, x27.2.1, ())))) (x23, 0, ())) fun (x26 : Option Addr × Int × Unit) =>
  HM.bind (α := Addr) (HM.nonnil x26.1) fun (x41 : Addr) =>
  HM.bind (α := Option Nat) (HM.load1 .map (Addr.add x41 0)) fun (x42 : Option Nat) =>
  HM.bind (α := Int) (HM.load1 (.int .i64) (Addr.add ⟨x1, 0, none⟩ 0)) fun (x43 : Int) =>
  HM.bind (α := Int) (HM.load1 (.int .i64) (Addr.add ⟨x1, 0, none⟩ 2)) fun (x44 : Int) =>
  HM.bind (α := Unit) (HM.mapSet (Instr.sameNow (.int .i64)) x42 (.int .i64 x43) (.int .i64 x44)) fun (_ : Unit) =>
  HM.bind (α := Addr) (HM.nonnil p0) fun (x45 : Addr) =>
  HM.bind (α := Option Nat) (HM.load1 .map (Addr.add x45 1)) fun (x46 : Option Nat) =>
  HM.bind (α := Int) (HM.load1 (.int .i64) (Addr.add ⟨x1, 0, none⟩ 0)) fun (x47 : Int) =>
  HM.bind (α := Int × Bool) (HM.lookup (Instr.sameNow (.int .i64)) (.int .i64 0) (.one (.int .i64)) x46 (.int .i64 x47)) fun (x48 : Int × Bool) =>
  HM.bind (α := Unit) (HM.mapSet (Instr.sameNow (.int .i64)) x46 (.int .i64 x47) (.int .i64 (IntKind.wrap .i64 (x48.1 + 1)))) fun (_ : Unit) =>
  HM.pure (0, ()))) HM.pure))))

theorem trie_Trie_Add_den (p0 : Option Addr) (p1 : Int × ByteArray × Int × Unit) : denFn Tryd.prog [75, 78, 69, 79] 109 [0, 1, 3, 4, 5, 7, 8, 10, 11, 14, 19, 33, 44, 60, 67, 68, 69, 70, 79] [0, 1, 3, 5, 7, 8, 10, 11, 14, 19, 33, 44, 60, 67, 68, 69, 70, 79] Tryd.f37.results.toList [.one (.int .u8)] (bodyOf Tryd.f37) [Kind.val (.one .ptr) p0, Kind.val (.agg [.int .i64, .str, .int .i64]) p1] = trie_Trie_Add p0 p1 := by kernel_rfl
theorem trie_Trie_Add_calls (p0 : Option Addr) (p1 : Int × ByteArray × Int × Unit) (h : Heap) (Q : Value → Heap → Prop) (hh : trie_Trie_Add p0 p1 h fun x h' => Q (.int .u8 x.1) h') :
    HCalls Tryd.prog 37 #[.pointer p0, .agg #[.int .i64 p1.1, .string p1.2.1, .int .i64 p1.2.2.1]] h Q := by
  rw [← trie_Trie_Add_den] at hh
  exact calls_of_den Tryd.func37 (by kernel_rfl) Tryd.ntmps37 (by kernel_rfl) (fun f hf => by
      rcases List.mem_cons.1 hf with rfl | hf
      · exact Tryd.call75
      rcases List.mem_cons.1 hf with rfl | hf
      · exact Tryd.call78
      rcases List.mem_cons.1 hf with rfl | hf
      · exact Tryd.call69
      rcases List.mem_cons.1 hf with rfl | hf
      · exact Tryd.call79
      cases hf) orders hh

/-- (*aqueduct/trie.Trie).Remove -/
def trie_Trie_Remove (p0 : Option Addr) (p1 : Int) (p2 : ByteArray) : HM (Bool × Unit) :=
  HM.ite (Option.isNone p0) (
  HM.pure (false, ())) (
  HM.bind (α := Option Addr) (HM.call1 Tryd.prog (.one .ptr) 78 #[.pointer p0, .string p2]) fun (x1 : Option Addr) =>
  HM.ite (Option.isNone x1) (
  HM.pure (false, ())) (
  HM.bind (α := Addr) (HM.nonnil x1) fun (x2 : Addr) =>
  HM.bind (α := Option Nat) (HM.load1 .map (Addr.add x2 0)) fun (x3 : Option Nat) =>
  HM.bind (α := Int × Bool) (HM.lookup (Instr.sameNow (.int .i64)) (.int .i64 0) (.one (.int .i64)) x3 (.int .i64 p1)) fun (x4 : Int × Bool) =>
  HM.ite (!x4.2) (
  HM.pure (false, ())) (
  HM.bind (α := Addr) (HM.nonnil p0) fun (x5 : Addr) =>
  HM.bind (α := Option Addr) (HM.load1 .ptr (Addr.add x5 0)) fun (x6 : Option Addr) =>
  HM.bind (α := Slc) (HM.call1 Tryd.prog (.one .slc) 69 #[.string p2]) fun (x7 : Slc) =>
  HM.bind (α := Option Addr) (HM.load1 .ptr (Addr.add x5 0)) fun (x8 : Option Addr) =>
  HM.req ((.pointer x8 : Value) = .pointer x6) <|
  HM.bind (α := Bool) (HM.call1 Tryd.prog (.one .bool) 80 #[.pointer x6, .int .i64 p1, .slice x7.a x7.len x7.cap]) fun (x9 : Bool) =>
  HM.bind (α := Addr) (HM.nonnil p0) fun (x10 : Addr) =>
  HM.bind (α := Option Nat) (HM.load1 .map (Addr.add x10 1)) fun (x11 : Option Nat) =>
  HM.bind (α := Int × Bool) (HM.lookup (Instr.sameNow (.int .i64)) (.int .i64 0) (.one (.int .i64)) x11 (.int .i64 p1)) fun (x12 : Int × Bool) =>
  HM.bind (α := Unit) (HM.mapSet (Instr.sameNow (.int .i64)) x11 (.int .i64 p1) (.int .i64 (IntKind.wrap .i64 (x12.1 - 1)))) fun (_ : Unit) =>
  HM.bind (α := Addr) (HM.nonnil p0) fun (x13 : Addr) =>
  HM.bind (α := Option Nat) (HM.load1 .map (Addr.add x13 1)) fun (x14 : Option Nat) =>
  HM.bind (α := Int × Bool) (HM.lookup (Instr.sameNow (.int .i64)) (.int .i64 0) (.one (.int .i64)) x14 (.int .i64 p1)) fun (x15 : Int × Bool) =>
  HM.bind (α := Unit) (HM.ite (x15.1 == 0) (
  HM.bind (α := Addr) (HM.nonnil p0) fun (x17 : Addr) =>
  HM.bind (α := Option Nat) (HM.load1 .map (Addr.add x17 1)) fun (x18 : Option Nat) =>
  HM.bind (α := Unit) (HM.mapDel (Instr.sameNow (.int .i64)) x18 (.int .i64 p1)) fun (_ : Unit) =>
  HM.pure ()) (
  HM.pure ())) fun (x16 : Unit) =>
  HM.pure (true, ()))))

theorem trie_Trie_Remove_den (p0 : Option Addr) (p1 : Int) (p2 : ByteArray) : denFn Tryd.prog [78, 69, 80] 55 [0, 1, 2, 6, 7, 9, 11, 16, 27, 49] [0, 1, 2, 7, 9, 11, 16, 27, 49] Tryd.f38.results.toList [.one .bool] (bodyOf Tryd.f38) [Kind.val (.one .ptr) p0, Kind.val (.one (.int .i64)) p1, Kind.val (.one .str) p2] = trie_Trie_Remove p0 p1 p2 := by kernel_rfl
theorem trie_Trie_Remove_calls (p0 : Option Addr) (p1 : Int) (p2 : ByteArray) (h : Heap) (Q : Value → Heap → Prop) (hh : trie_Trie_Remove p0 p1 p2 h fun x h' => Q (.bool x.1) h') :
    HCalls Tryd.prog 38 #[.pointer p0, .int .i64 p1, .string p2] h Q := by
  rw [← trie_Trie_Remove_den] at hh
  exact calls_of_den Tryd.func38 (by kernel_rfl) Tryd.ntmps38 (by kernel_rfl) (fun f hf => by
      rcases List.mem_cons.1 hf with rfl | hf
      · exact Tryd.call78
      rcases List.mem_cons.1 hf with rfl | hf
      · exact Tryd.call69
      rcases List.mem_cons.1 hf with rfl | hf
      · exact Tryd.call80
      cases hf) orders hh

/-- (*aqueduct/trie.Trie).Drop -/
def trie_Trie_Drop (p0 : Option Addr) (p1 : Int) : HM (Int × Unit) :=
  HM.bind (α := Slc) (HM.call1 Tryd.prog (.one .slc) 35 #[.pointer p0, .int .i64 p1]) fun (x1 : Slc) =>
  HM.bind (α := Int × Unit) (HM.loop (σ := Int × Unit) (τ := Int × Unit) (fun (x3 : Int × Unit) =>
  HM.ite (decide (x3.1 < (((x1.len : Nat) : Int) : Int))) (
  HM.bind (α := Addr) (HM.idx x1.a x1.len x3.1 3) fun (x4 : Addr) =>
  HM.bind (α := Int × ByteArray × Int × Unit) (HM.loadN [.int .i64, .str, .int .i64] x4) fun (x5 : Int × ByteArray × Int × Unit) =>
  HM.bind (α := Nat) (HM.new (.cells #[.int .i64 0, .string (ByteArray.mk #[]), .int .i64 0] 95)) fun (x6 : Nat) =>
  HM.bind (α := Unit) (HM.storeN ⟨x6, 0, none⟩ [.int .i64 x5.1, .string x5.2.1, .int .i64 x5.2.2.1]) fun (_ : Unit) =>
  HM.bind (α := ByteArray) (HM.load1 .str (Addr.add ⟨x6, 0, none⟩ 1)) fun (x7 : ByteArray) =>
  HM.bind (α := Bool) (HM.call1 Tryd.prog (.one .bool) 38 #[.pointer p0, .int .i64 p1, .string x7]) fun (x8 : Bool) =>
  HM.pure (.inl (IntKind.wrap .i64 (x3.1 + 1), ()))) (
  HM.pure (.inr (x3.1, ())))) (0, ())) fun (x2 : Int × Unit) =>
  HM.pure (((x1.len : Nat) : Int), ())

theorem trie_Trie_Drop_den (p0 : Option Addr) (p1 : Int) : denFn Tryd.prog [35, 38] 25 [0, 1, 4, 5, 7, 11, 12, 13, 14] [0, 1, 5, 7, 11, 12, 13, 14] Tryd.f39.results.toList [.one (.int .i64)] (bodyOf Tryd.f39) [Kind.val (.one .ptr) p0, Kind.val (.one (.int .i64)) p1] = trie_Trie_Drop p0 p1 := by kernel_rfl
theorem trie_Trie_Drop_calls (p0 : Option Addr) (p1 : Int) (h : Heap) (Q : Value → Heap → Prop) (hh : trie_Trie_Drop p0 p1 h fun x h' => Q (.int .i64 x.1) h') :
    HCalls Tryd.prog 39 #[.pointer p0, .int .i64 p1] h Q := by
  rw [← trie_Trie_Drop_den] at hh
  exact calls_of_den Tryd.func39 (by kernel_rfl) Tryd.ntmps39 (by kernel_rfl) (fun f hf => by
      rcases List.mem_cons.1 hf with rfl | hf
      · exact Tryd.call35
      rcases List.mem_cons.1 hf with rfl | hf
      · exact Tryd.call38
      cases hf) orders hh

/-- (*aqueduct/trie.Trie).Filters -/
def trie_Trie_Filters (p0 : Option Addr) : HM (Slc × Unit) :=
  HM.ite (Option.isNone p0) (
  HM.pure (⟨none, 0, 0⟩, ())) (
  HM.bind (α := Nat) (HM.new (.map #[] 0)) fun (x1 : Nat) =>
  HM.bind (α := Nat) (HM.new (.cells #[.map none] 174)) fun (x2 : Nat) =>
  HM.bind (α := Unit) (HM.store1 ⟨x2, 0, none⟩ (.map (some x1))) fun (_ : Unit) =>
  HM.bind (α := Addr) (HM.nonnil p0) fun (x3 : Addr) =>
  HM.bind (α := Option Addr) (HM.load1 .ptr (Addr.add x3 0)) fun (x4 : Option Addr) =>
  HM.bind (α := Unit) (HM.callN Tryd.prog [] 73 #[.pointer x4, .slice none 0 0, .func (.func 81) #[] #[.pointer (some ⟨x2, 0, none⟩)]]) fun (x5 : Unit) =>
  HM.bind (α := Option Nat) (HM.load1 .map ⟨x2, 0, none⟩) fun (x6 : Option Nat) =>
  HM.bind (α := Value) (HM.call1 Tryd.prog (.one .any) 83 #[.map x6]) fun (x7 : Value) =>
  HM.bind (α := Slc) (HM.call1 Tryd.prog (.one .slc) 82 #[x7]) fun (x8 : Slc) =>
  HM.pure (x8, ()))

theorem trie_Trie_Filters_den (p0 : Option Addr) : denFn Tryd.prog [73, 83, 82] 16 [0, 2, 3, 5] [0, 3, 5] Tryd.f40.results.toList [.one .slc] (bodyOf Tryd.f40) [Kind.val (.one .ptr) p0] = trie_Trie_Filters p0 := by kernel_rfl
theorem trie_Trie_Filters_calls (p0 : Option Addr) (h : Heap) (Q : Value → Heap → Prop) (hh : trie_Trie_Filters p0 h fun x h' => Q (.slice x.1.a x.1.len x.1.cap) h') :
    HCalls Tryd.prog 40 #[.pointer p0] h Q := by
  rw [← trie_Trie_Filters_den] at hh
  exact calls_of_den Tryd.func40 (by kernel_rfl) Tryd.ntmps40 (by kernel_rfl) (fun f hf => by
      rcases List.mem_cons.1 hf with rfl | hf
      · exact Tryd.call73
      rcases List.mem_cons.1 hf with rfl | hf
      · exact Tryd.call83
      rcases List.mem_cons.1 hf with rfl | hf
      · exact Tryd.call82
      cases hf) orders hh

/-- aqueduct/trie.New -/
def trie_New : HM (Option Addr × Unit) :=
  HM.bind (α := Option Addr) (HM.call1 Tryd.prog (.one .ptr) 79 #[]) fun (x1 : Option Addr) =>
  HM.bind (α := Nat) (HM.new (.map #[] 0)) fun (x2 : Nat) =>
  HM.bind (α := Nat) (HM.new (.cells #[.pointer x1, .map (some x2)] 160)) fun (x3 : Nat) =>
  HM.pure (some ⟨x3, 0, none⟩, ())

theorem trie_New_den : denFn Tryd.prog [79] 5 [0] [] Tryd.f63.results.toList [.one .ptr] (bodyOf Tryd.f63) [] = trie_New := by kernel_rfl
theorem trie_New_calls (h : Heap) (Q : Value → Heap → Prop) (hh : trie_New h fun x h' => Q (.pointer x.1) h') :
    HCalls Tryd.prog 63 #[] h Q := by
  rw [← trie_New_den] at hh
  exact calls_of_den Tryd.func63 (by kernel_rfl) Tryd.ntmps63 (by kernel_rfl) (fun f hf => by
      rcases List.mem_cons.1 hf with rfl | hf
      · exact Tryd.call79
      cases hf) orders hh

/-- aqueduct/aqueductref09.Remove -/
def ref09_Remove (p0 : Option Addr) (p1 : Int) (p2 : ByteArray) : HM (Bool × Unit) :=
  HM.bind (α := Slc × Int × Unit) (HM.loop (σ := Slc × Int × Unit) (τ := Slc × Int × Unit) (fun (x2 : Slc × Int × Unit) =>
  HM.bind (α := Addr) (HM.nonnil p0) fun (x3 : Addr) =>
  HM.bind (α := Slc) (HM.load1 .slc (Addr.add x3 0)) fun (x4 : Slc) =>
  HM.ite (decide (x2.2.1 < (((x4.len : Nat) : Int) : Int))) (
  HM.bind (α := Bool × Unit) (HM.bind (α := Addr) (HM.nonnil p0) fun (x5 : Addr) =>
  HM.bind (α := Slc) (HM.load1 .slc (Addr.add x5 0)) fun (x6 : Slc) =>
  HM.bind (α := Addr) (HM.idx x6.a x6.len x2.2.1 3) fun (x7 : Addr) =>
  HM.bind (α := Int) (HM.load1 (.int .i64) (Addr.add x7 0)) fun (x8 : Int) =>
  HM.ite (!(x8 == p1)) (
  HM.pure (true, ())) (
  HM.bind (α := Addr) (HM.nonnil p0) fun (x9 : Addr) =>
  HM.bind (α := Slc) (HM.load1 .slc (Addr.add x9 0)) fun (x10 : Slc) =>
  HM.bind (α := Addr) (HM.idx x10.a x10.len x2.2.1 3) fun (x11 : Addr) =>
  HM.bind (α := ByteArray) (HM.load1 .str (Addr.add x11 1)) fun (x12 : ByteArray) =>
  HM.pure (!(decide (x12 = p2)), ()))) fun (x13 : Bool × Unit) =>
  HM.bind (α := Slc × Unit) (HM.ite x13.1 (
  HM.bind (α := Addr) (HM.nonnil p0) fun (x15 : Addr) =>
  HM.bind (α := Slc) (HM.load1 .slc (Addr.add x15 0)) fun (x16 : Slc) =>
  HM.bind (α := Addr) (HM.idx x16.a x16.len x2.2.1 3) fun (x17 : Addr) =>
  HM.bind (α := Int × ByteArray × Int × Unit) (HM.loadN [.int .i64, .str, .int .i64] x17) fun (x18 : Int × ByteArray × Int × Unit) =>
  HM.bind (α := Nat) (HM.new (.cells #[.int .i64 x18.1, .string x18.2.1, .int .i64 x18.2.2.1] 155)) fun (x19 : Nat) =>
  HM.bind (α := Slc) (HM.append 155 3 32 #[.int .i64 0, .string (ByteArray.mk #[]), .int .i64 0] x2.1 1 (srcSlc 3 (⟨some ⟨x19, 0, none⟩, 1, 1⟩))) fun (x20 : Slc) =>
  HM.pure (x20, ())) (
  HM.pure (x2.1, ()))) fun (x14 : Slc × Unit) =>
  HM.pure (.inl (x14.1, IntKind.wrap .i64 (x2.2.1 + 1), ()))) (
  HM.pure (.inr (x2.1, x2.2.1, ())))) (⟨none, 0, 0⟩, 0, ())) fun (x1 : Slc × Int × Unit) =>
  HM.bind (α := Addr) (HM.nonnil p0) fun (x21 : Addr) =>
  HM.bind (α := Slc) (HM.load1 .slc (Addr.add x21 0)) fun (x22 : Slc) =>
  HM.bind (α := Addr) (HM.nonnil p0) fun (x23 : Addr) =>
  HM.bind (α := Unit) (HM.store1 (Addr.add x23 0) (.slice x1.1.a x1.1.len x1.1.cap)) fun (_ : Unit) =>
  HM.pure (decide (((x1.1.len : Nat) : Int) < (((x22.len : Nat) : Int) : Int)), ())

theorem ref09_Remove_den (p0 : Option Addr) (p1 : Int) (p2 : ByteArray) : denFn Tryd.prog [] 64 [0, 1, 2, 6, 7, 8, 9, 16, 40] [0, 1, 2, 7, 8, 9, 16, 40] Tryd.f64.results.toList [.one .bool] (bodyOf Tryd.f64) [Kind.val (.one .ptr) p0, Kind.val (.one (.int .i64)) p1, Kind.val (.one .str) p2] = ref09_Remove p0 p1 p2 := by kernel_rfl
theorem ref09_Remove_calls (p0 : Option Addr) (p1 : Int) (p2 : ByteArray) (h : Heap) (Q : Value → Heap → Prop) (hh : ref09_Remove p0 p1 p2 h fun x h' => Q (.bool x.1) h') :
    HCalls Tryd.prog 64 #[.pointer p0, .int .i64 p1, .string p2] h Q := by
  rw [← ref09_Remove_den] at hh
  exact calls_of_den Tryd.func64 (by kernel_rfl) Tryd.ntmps64 (by kernel_rfl) (fun f hf => by cases hf) orders hh

/-- aqueduct/aqueductref09.Drop -/
def ref09_Drop (p0 : Option Addr) (p1 : Int) : HM (Int × Unit) :=
  HM.bind (α := Slc × Int × Unit) (HM.loop (σ := Slc × Int × Unit) (τ := Slc × Int × Unit) (fun (x2 : Slc × Int × Unit) =>
  HM.bind (α := Addr) (HM.nonnil p0) fun (x3 : Addr) =>
  HM.bind (α := Slc) (HM.load1 .slc (Addr.add x3 0)) fun (x4 : Slc) =>
  HM.ite (decide (x2.2.1 < (((x4.len : Nat) : Int) : Int))) (
  HM.bind (α := Addr) (HM.nonnil p0) fun (x5 : Addr) =>
  HM.bind (α := Slc) (HM.load1 .slc (Addr.add x5 0)) fun (x6 : Slc) =>
  HM.bind (α := Addr) (HM.idx x6.a x6.len x2.2.1 3) fun (x7 : Addr) =>
  HM.bind (α := Int) (HM.load1 (.int .i64) (Addr.add x7 0)) fun (x8 : Int) =>
  HM.bind (α := Slc × Unit) (HM.ite (!(x8 == p1)) (
  HM.bind (α := Addr) (HM.nonnil p0) fun (x10 : Addr) =>
  HM.bind (α := Slc) (HM.load1 .slc (Addr.add x10 0)) fun (x11 : Slc) =>
  HM.bind (α := Addr) (HM.idx x11.a x11.len x2.2.1 3) fun (x12 : Addr) =>
  HM.bind (α := Int × ByteArray × Int × Unit) (HM.loadN [.int .i64, .str, .int .i64] x12) fun (x13 : Int × ByteArray × Int × Unit) =>
  HM.bind (α := Nat) (HM.new (.cells #[.int .i64 x13.1, .string x13.2.1, .int .i64 x13.2.2.1] 155)) fun (x14 : Nat) =>
  HM.bind (α := Slc) (HM.append 155 3 32 #[.int .i64 0, .string (ByteArray.mk #[]), .int .i64 0] x2.1 1 (srcSlc 3 (⟨some ⟨x14, 0, none⟩, 1, 1⟩))) fun (x15 : Slc) =>
  HM.pure (x15, ())) (
  HM.pure (x2.1, ()))) fun (x9 : Slc × Unit) =>
  HM.pure (.inl (x9.1, IntKind.wrap .i64 (x2.2.1 + 1), ()))) (
  HM.pure (.inr (x2.1, x2.2.1, ())))) (⟨none, 0, 0⟩, 0, ())) fun (x1 : Slc × Int × Unit) =>
  HM.bind (α := Addr) (HM.nonnil p0) fun (x16 : Addr) =>
  HM.bind (α := Slc) (HM.load1 .slc (Addr.add x16 0)) fun (x17 : Slc) =>
  HM.bind (α := Addr) (HM.nonnil p0) fun (x18 : Addr) =>
  HM.bind (α := Unit) (HM.store1 (Addr.add x18 0) (.slice x1.1.a x1.1.len x1.1.cap)) fun (_ : Unit) =>
  HM.pure (IntKind.wrap .i64 (((x17.len : Nat) : Int) - ((x1.1.len : Nat) : Int)), ())

theorem ref09_Drop_den (p0 : Option Addr) (p1 : Int) : denFn Tryd.prog [] 50 [0, 1, 4, 5, 6, 7, 14, 26] [0, 1, 5, 6, 7, 14, 26] Tryd.f65.results.toList [.one (.int .i64)] (bodyOf Tryd.f65) [Kind.val (.one .ptr) p0, Kind.val (.one (.int .i64)) p1] = ref09_Drop p0 p1 := by kernel_rfl
theorem ref09_Drop_calls (p0 : Option Addr) (p1 : Int) (h : Heap) (Q : Value → Heap → Prop) (hh : ref09_Drop p0 p1 h fun x h' => Q (.int .i64 x.1) h') :
    HCalls Tryd.prog 65 #[.pointer p0, .int .i64 p1] h Q := by
  rw [← ref09_Drop_den] at hh
  exact calls_of_den Tryd.func65 (by kernel_rfl) Tryd.ntmps65 (by kernel_rfl) (fun f hf => by cases hf) orders hh

/-- aqueduct/aqueductref09.Add -/
def ref09_Add (p0 : Option Addr) (p1 : Int × ByteArray × Int × Unit) : HM (Int × Unit) :=
  HM.bind (α := Nat) (HM.new (.cells #[.int .i64 p1.1, .string p1.2.1, .int .i64 p1.2.2.1] 155)) fun (x1 : Nat) =>
  HM.bind (α := ByteArray) (HM.load1 .str (Addr.add ⟨x1, 0, none⟩ 1)) fun (x2 : ByteArray) =>
  HM.bind (α := Int) (HM.call1 Tryd.prog (.one (.int .i64)) 99 #[.string x2]) fun (x3 : Int) =>
  HM.ite (!(x3 == 0)) (
  HM.pure (143, ())) (
  HM.bind (α := Bool × Unit) (HM.bind (α := Int) (HM.load1 (.int .i64) (Addr.add ⟨x1, 0, none⟩ 2)) fun (x4 : Int) =>
  HM.ite (decide (x4 < (0 : Int))) (
  HM.pure (true, ())) (
  HM.bind (α := Int) (HM.load1 (.int .i64) (Addr.add ⟨x1, 0, none⟩ 2)) fun (x5 : Int) =>
  HM.pure (decide (2 < (x5 : Int)), ()))) fun (x6 : Bool × Unit) =>
  HM.ite x6.1 (
  HM.pure (155, ())) (
  HM.bind (α := (Int × Int × Unit) ⊕ (Int × Unit)) (HM.loop (σ := Int × Int × Unit) (τ := (Int × Int × Unit) ⊕ (Int × Unit)) (fun (x8 : Int × Int × Unit) =>
  HM.bind (α := Addr) (HM.nonnil p0) fun (x9 : Addr) =>
  HM.bind (α := Slc) (HM.load1 .slc (Addr.add x9 0)) fun (x10 : Slc) =>
  HM.ite (decide (x8.2.1 < (((x10.len : Nat) : Int) : Int))) (
  HM.bind (α := (Int × Unit) ⊕ ((Int × Int × Unit) ⊕ ((Int × Int × Unit) ⊕ (Int × Unit)))) (HM.bind (α := Addr) (HM.nonnil p0) fun (x12 : Addr) =>
  HM.bind (α := Slc) (HM.load1 .slc (Addr.add x12 0)) fun (x13 : Slc) =>
  HM.bind (α := Addr) (HM.idx x13.a x13.len x8.2.1 3) fun (x14 : Addr) =>
  HM.bind (α := Int) (HM.load1 (.int .i64) (Addr.add x14 0)) fun (x15 : Int) =>
  HM.bind (α := Int) (HM.load1 (.int .i64) (Addr.add ⟨x1, 0, none⟩ 0)) fun (x16 : Int) =>
  HM.ite (!(x15 == x16)) (
  HM.pure (.inl (x8.1, ()))) (
  HM.bind (α := Addr) (HM.nonnil p0) fun (x17 : Addr) =>
  HM.bind (α := Slc) (HM.load1 .slc (Addr.add x17 0)) fun (x18 : Slc) =>
  HM.bind (α := Addr) (HM.idx x18.a x18.len x8.2.1 3) fun (x19 : Addr) =>
  HM.bind (α := ByteArray) (HM.load1 .str (Addr.add x19 1)) fun (x20 : ByteArray) =>
  HM.bind (α := ByteArray) (HM.load1 .str (Addr.add ⟨x1, 0, none⟩ 1)) fun (x21 : ByteArray) =>
  HM.ite (decide (x20 = x21)) (
  HM.bind (α := Addr) (HM.nonnil p0) fun (x22 : Addr) =>
  HM.bind (α := Slc) (HM.load1 .slc (Addr.add x22 0)) fun (x23 : Slc) =>
  HM.bind (α := Int) (HM.load1 (.int .i64) (Addr.add ⟨x1, 0, none⟩ 2)) fun (x24 : Int) =>
  HM.bind (α := Addr) (HM.idx x23.a x23.len x8.2.1 3) fun (x25 : Addr) =>
  HM.bind (α := Unit) (HM.store1 (Addr.add x25 2) (.int .i64 x24)) fun (_ : Unit) =>
  HM.pure (.inr (.inr (.inr (0, ()))))) (
  HM.pure (.inl (IntKind.wrap .i64 (x8.1 + 1), ()))))) (Sum.elim (fun (x11 : Int × Unit) =>
  HM.pure (.inl (x11.1, IntKind.wrap .i64 (x8.2.1 + 1), ()))) HM.pure)) (
  HM.pure (.inr (.inl (x8.1, x8.2.1, ()))))) (0, 0, ())) (Sum.elim (fun (x7 : Int × Int × Unit) =>
  HM.ite (decide (64 ≤ (x7.1 : Int))) (
  HM.pure (151, ())) (
  HM.bind (α := Bool × Slc × Int × Unit) (HM.loop (σ := Bool × Slc × Int × Unit) (τ := Bool × Slc × Int × Unit) (fun (x27 : Bool × Slc × Int × Unit) =>
  HM.bind (α := Addr) (HM.nonnil p0) fun (x28 : Addr) =>
  HM.bind (α := Slc) (HM.load1 .slc (Addr.add x28 0)) fun (x29 : Slc) =>
  HM.ite (decide (x27.2.2.1 < (((x29.len : Nat) : Int) : Int))) (
  HM.bind (α := Int × ByteArray × Int × Unit) (HM.loadN [.int .i64, .str, .int .i64] ⟨x1, 0, none⟩) fun (x30 : Int × ByteArray × Int × Unit) =>
  HM.bind (α := Addr) (HM.nonnil p0) fun (x31 : Addr) =>
  HM.bind (α := Slc) (HM.load1 .slc (Addr.add x31 0)) fun (x32 : Slc) =>
  HM.bind (α := Addr) (HM.idx x32.a x32.len x27.2.2.1 3) fun (x33 : Addr) =>
  HM.bind (α := Int × ByteArray × Int × Unit) (HM.loadN [.int .i64, .str, .int .i64] x33) fun (x34 : Int × ByteArray × Int × Unit) =>
  HM.bind (α := Bool) (HM.call1 Tryd.prog (.one .bool) 100 #[.agg #[.int .i64 x30.1, .string x30.2.1, .int .i64 x30.2.2.1], .agg #[.int .i64 x34.1, .string x34.2.1, .int .i64 x34.2.2.1]]) fun (x35 : Bool) =>
  HM.bind (α := Bool × Unit) (HM.ite x35 (
  HM.pure (!x27.1, ())) (
  HM.pure (false, ()))) fun (x36 : Bool × Unit) =>
  HM.bind (α := Slc × Bool × Unit) (HM.ite x36.1 (
  HM.bind (α := Int × ByteArray × Int × Unit) (HM.loadN [.int .i64, .str, .int .i64] ⟨x1, 0, none⟩) fun (x38 : Int × ByteArray × Int × Unit) =>
  HM.bind (α := Nat) (HM.new (.cells #[.int .i64 x38.1, .string x38.2.1, .int .i64 x38.2.2.1] 155)) fun (x39 : Nat) =>
  HM.bind (α := Slc) (HM.append 155 3 32 #[.int .i64 0, .string (ByteArray.mk #[]), .int .i64 0] x27.2.1 1 (srcSlc 3 (⟨some ⟨x39, 0, none⟩, 1, 1⟩))) fun (x40 : Slc) =>
  HM.pure (x40, true, ())) (
  HM.pure (x27.2.1, x27.1, ()))) fun (x37 : Slc × Bool × Unit) =>
  HM.bind (α := Addr) (HM.nonnil p0) fun (x41 : Addr) =>
  HM.bind (α := Slc) (HM.load1 .slc (Addr.add x41 0)) fun (x42 : Slc) =>
  HM.bind (α := Addr) (HM.idx x42.a x42.len x27.2.2.1 3) fun (x43 : Addr) =>
  HM.bind (α := Int × ByteArray × Int × Unit) (HM.loadN [.int .i64, .str, .int .i64] x43) fun (x44 : Int × ByteArray × Int × Unit) =>
  HM.bind (α := Nat) (HM.new (.cells #[.int .i64 x44.1, .string x44.2.1, .int .i64 x44.2.2.1] 155)) fun (x45 : Nat) =>
  HM.bind (α := Slc) (HM.append 155 3 32 #[.int .i64 0, .string (ByteArray.mk #[]), .int .i64 0] x37.1 1 (srcSlc 3 (⟨some ⟨x45, 0, none⟩, 1, 1⟩))) fun (x46 : Slc) =>
  HM.pure (.inl (x37.2.1, x46, IntKind.wrap .i64 (x27.2.2.1 + 1), ()))) (
  HM.pure (.inr (x27.1, x27.2.1, x27.2.2.1, ())))) (false, ⟨none, 0, 0⟩, 0, ())) fun (x26 : Bool × Slc × Int × Unit) =>
  HM.bind (α := Slc × Unit) (HM.ite (!x26.1) (
  HM.bind (α := Int × ByteArray × Int × Unit) (HM.loadN [.int .i64, .str, .int .i64] ⟨x1, 0, none⟩) fun (x48 : Int × ByteArray × Int × Unit) =>
  HM.bind (α := Nat) (HM.new (.cells #[.int .i64 x48.1, .string x48.2.1, .int .i64 x48.2.2.1] 155)) fun (x49 : Nat) =>
  HM.bind (α := Slc) (HM.append 155 3 32 #[.int .i64 0, .string (ByteArray.mk #[]), .int .i64 0] x26.2.1 1 (srcSlc 3 (⟨some ⟨x49, 0, none⟩, 1, 1⟩))) fun (x50 : Slc) =>
  HM.pure (x50, ())) (
  HM.pure (x26.2.1, ()))) fun (x47 : Slc × Unit) =>
  HM.bind (α := Addr) (HM.nonnil p0) fun (x51 : Addr) =>
  HM.bind (α := Unit) (HM.store1 (Addr.add x51 0) (.slice x47.1.a x47.1.len x47.1.cap)) fun (_ : Unit) =>
  HM.pure (0, ()))) HM.pure)))

theorem ref09_Add_den (p0 : Option Addr) (p1 : Int × ByteArray × Int × Unit) : denFn Tryd.prog [99, 100] 116 [0, 1, 3, 4, 5, 6, 7, 8, 9, 10, 11, 16, 24, 31, 44, 57, 68, 75, 91, 107] [0, 1, 3, 5, 6, 7, 8, 9, 10, 11, 16, 24, 31, 44, 57, 68, 75, 91, 107] Tryd.f66.results.toList [.one (.int .i64)] (bodyOf Tryd.f66) [Kind.val (.one .ptr) p0, Kind.val (.agg [.int .i64, .str, .int .i64]) p1] = ref09_Add p0 p1 := by kernel_rfl
theorem ref09_Add_calls (p0 : Option Addr) (p1 : Int × ByteArray × Int × Unit) (h : Heap) (Q : Value → Heap → Prop) (hh : ref09_Add p0 p1 h fun x h' => Q (.int .i64 x.1) h') :
    HCalls Tryd.prog 66 #[.pointer p0, .agg #[.int .i64 p1.1, .string p1.2.1, .int .i64 p1.2.2.1]] h Q := by
  rw [← ref09_Add_den] at hh
  exact calls_of_den Tryd.func66 (by kernel_rfl) Tryd.ntmps66 (by kernel_rfl) (fun f hf => by
      rcases List.mem_cons.1 hf with rfl | hf
      · exact Tryd.call99
      rcases List.mem_cons.1 hf with rfl | hf
      · exact Tryd.call100
      cases hf) orders hh

/-- aqueduct/topic.CheckName -/
def topic_CheckName (p0 : ByteArray) : HM (Int × Unit) :=
  HM.bind (α := Bool × Unit) (HM.bind (α := Bool) (HM.call1 Tryd.prog (.one .bool) 101 #[.string p0]) fun (x1 : Bool) =>
  HM.ite (!x1) (
  HM.pure (true, ())) (
  HM.bind (α := Bool) (HM.call1 Tryd.prog (.one .bool) 102 #[.string p0, .string (ByteArray.mk #[43])]) fun (x2 : Bool) =>
  HM.ite x2 (
  HM.pure (true, ())) (
  HM.bind (α := Bool) (HM.call1 Tryd.prog (.one .bool) 102 #[.string p0, .string (ByteArray.mk #[35])]) fun (x3 : Bool) =>
  HM.pure (x3, ())))) fun (x4 : Bool × Unit) =>
  HM.ite x4.1 (
  HM.pure (144, ())) (
  HM.pure (0, ()))

theorem topic_CheckName_den (p0 : ByteArray) : denFn Tryd.prog [101, 102] 14 [0, 2, 13] [0, 13] Tryd.f67.results.toList [.one (.int .u8)] (bodyOf Tryd.f67) [Kind.val (.one .str) p0] = topic_CheckName p0 := by kernel_rfl
theorem topic_CheckName_calls (p0 : ByteArray) (h : Heap) (Q : Value → Heap → Prop) (hh : topic_CheckName p0 h fun x h' => Q (.int .u8 x.1) h') :
    HCalls Tryd.prog 67 #[.string p0] h Q := by
  rw [← topic_CheckName_den] at hh
  exact calls_of_den Tryd.func67 (by kernel_rfl) Tryd.ntmps67 (by kernel_rfl) (fun f hf => by
      rcases List.mem_cons.1 hf with rfl | hf
      · exact Tryd.call101
      rcases List.mem_cons.1 hf with rfl | hf
      · exact Tryd.call102
      cases hf) orders hh

/-- (*aqueduct/trie.branch).match -/
def trie_branch_match (p0 : Option Addr) (p1 : Slc) (p2 : Slc) (p3 : Bool) (p4 : Slc) : HM (Slc × Unit) :=
  HM.ite (Option.isNone p0) (
  HM.pure (p4, ())) (
  HM.bind (α := Slc) (HM.call1 Tryd.prog (.one .slc) 103 #[.slice p1.a p1.len p1.cap]) fun (x1 : Slc) =>
  HM.bind (α := Addr) (HM.nonnil p0) fun (x2 : Addr) =>
  HM.bind (α := Option Nat) (HM.load1 .map (Addr.add x2 1)) fun (x3 : Option Nat) =>
  HM.bind (α := Option Addr × Bool) (HM.lookup (Instr.sameNow .string) (.pointer none) (.one .ptr) x3 (.string (ByteArray.mk #[35]))) fun (x4 : Option Addr × Bool) =>
  HM.bind (α := Bool × Unit) (HM.ite (!(Option.isNone x4.1)) (
  HM.pure (!p3, ())) (
  HM.pure (false, ()))) fun (x5 : Bool × Unit) =>
  HM.bind (α := Slc × Unit) (HM.ite x5.1 (
  HM.bind (α := Nat) (HM.new (.cells #[.string (ByteArray.mk #[35])] 9)) fun (x7 : Nat) =>
  HM.bind (α := Slc) (HM.append 9 1 16 #[.string (ByteArray.mk #[])] x1 1 (srcSlc 1 (⟨some ⟨x7, 0, none⟩, 1, 1⟩))) fun (x8 : Slc) =>
  HM.bind (α := Slc) (HM.call1 Tryd.prog (.one .slc) 104 #[.pointer x4.1, .slice x8.a x8.len x8.cap, .slice p4.a p4.len p4.cap]) fun (x9 : Slc) =>
  HM.pure (x9, ())) (
  HM.pure (p4, ()))) fun (x6 : Slc × Unit) =>
  HM.ite (((p2.len : Nat) : Int) == 0) (
  HM.bind (α := Slc) (HM.call1 Tryd.prog (.one .slc) 104 #[.pointer p0, .slice x1.a x1.len x1.cap, .slice x6.1.a x6.1.len x6.1.cap]) fun (x10 : Slc) =>
  HM.pure (x10, ())) (
  HM.bind (α := Slc × Unit) (HM.ite (!p3) (
  HM.bind (α := Addr) (HM.nonnil p0) fun (x12 : Addr) =>
  HM.bind (α := Option Nat) (HM.load1 .map (Addr.add x12 1)) fun (x13 : Option Nat) =>
  HM.bind (α := Option Addr × Bool) (HM.lookup (Instr.sameNow .string) (.pointer none) (.one .ptr) x13 (.string (ByteArray.mk #[43]))) fun (x14 : Option Addr × Bool) =>
  HM.bind (α := Slc) (HM.slice p2 (some 1) none none 1) fun (x15 : Slc) =>
  HM.bind (α := Nat) (HM.new (.cells #[.string (ByteArray.mk #[43])] 9)) fun (x16 : Nat) =>
  HM.bind (α := Option Addr × Bool) (HM.lookup (Instr.sameNow .string) (.pointer none) (.one .ptr) x13 (.string (ByteArray.mk #[43]))) fun (x17 : Option Addr × Bool) =>
  HM.req ((.pointer x17.1 : Value) = .pointer x14.1) <|
  HM.bind (α := Option Nat) (HM.load1 .map (Addr.add x12 1)) fun (x18 : Option Nat) =>
  HM.req ((.map x18 : Value) = .map x13) <|
  HM.bind (α := Slc) (HM.append 9 1 16 #[.string (ByteArray.mk #[])] x1 1 (srcSlc 1 (⟨some ⟨x16, 0, none⟩, 1, 1⟩))) fun (x19 : Slc) =>
  HM.bind (α := Option Addr × Bool) (HM.lookup (Instr.sameNow .string) (.pointer none) (.one .ptr) x13 (.string (ByteArray.mk #[43]))) fun (x20 : Option Addr × Bool) =>
  HM.req ((.pointer x20.1 : Value) = .pointer x14.1) <|
  HM.bind (α := Option Nat) (HM.load1 .map (Addr.add x12 1)) fun (x21 : Option Nat) =>
  HM.req ((.map x21 : Value) = .map x13) <|
  HM.bind (α := Slc) (HM.call1 Tryd.prog (.one .slc) 68 #[.pointer x14.1, .slice x19.a x19.len x19.cap, .slice x15.a x15.len x15.cap, .bool false, .slice x6.1.a x6.1.len x6.1.cap]) fun (x22 : Slc) =>
  HM.pure (x22, ())) (
  HM.pure (x6.1, ()))) fun (x11 : Slc × Unit) =>
  HM.bind (α := Addr) (HM.nonnil p0) fun (x23 : Addr) =>
  HM.bind (α := Option Nat) (HM.load1 .map (Addr.add x23 1)) fun (x24 : Option Nat) =>
  HM.bind (α := Addr) (HM.idx p2.a p2.len 0 1) fun (x25 : Addr) =>
  HM.bind (α := ByteArray) (HM.load1 .str x25) fun (x26 : ByteArray) =>
  HM.bind (α := Option Addr × Bool) (HM.lookup (Instr.sameNow .string) (.pointer none) (.one .ptr) x24 (.string x26)) fun (x27 : Option Addr × Bool) =>
  HM.bind (α := Addr) (HM.idx p2.a p2.len 0 1) fun (x28 : Addr) =>
  HM.bind (α := ByteArray) (HM.load1 .str x28) fun (x29 : ByteArray) =>
  HM.bind (α := Slc) (HM.slice p2 (some 1) none none 1) fun (x30 : Slc) =>
  HM.bind (α := Nat) (HM.new (.cells #[.string x29] 9)) fun (x31 : Nat) =>
  HM.bind (α := Option Addr × Bool) (HM.lookup (Instr.sameNow .string) (.pointer none) (.one .ptr) x24 (.string x26)) fun (x32 : Option Addr × Bool) =>
  HM.req ((.pointer x32.1 : Value) = .pointer x27.1) <|
  HM.bind (α := ByteArray) (HM.load1 .str x25) fun (x33 : ByteArray) =>
  HM.req ((.string x33 : Value) = .string x26) <|
  HM.bind (α := Option Nat) (HM.load1 .map (Addr.add x23 1)) fun (x34 : Option Nat) =>
  HM.req ((.map x34 : Value) = .map x24) <|
  HM.bind (α := Slc) (HM.append 9 1 16 #[.string (ByteArray.mk #[])] x1 1 (srcSlc 1 (⟨some ⟨x31, 0, none⟩, 1, 1⟩))) fun (x35 : Slc) =>
  HM.bind (α := Option Addr × Bool) (HM.lookup (Instr.sameNow .string) (.pointer none) (.one .ptr) x24 (.string x26)) fun (x36 : Option Addr × Bool) =>
  HM.req ((.pointer x36.1 : Value) = .pointer x27.1) <|
  HM.bind (α := ByteArray) (HM.load1 .str x25) fun (x37 : ByteArray) =>
  HM.req ((.string x37 : Value) = .string x26) <|
  HM.bind (α := Option Nat) (HM.load1 .map (Addr.add x23 1)) fun (x38 : Option Nat) =>
  HM.req ((.map x38 : Value) = .map x24) <|
  HM.bind (α := Slc) (HM.call1 Tryd.prog (.one .slc) 68 #[.pointer x27.1, .slice x35.a x35.len x35.cap, .slice x30.a x30.len x30.cap, .bool false, .slice x11.1.a x11.1.len x11.1.cap]) fun (x39 : Slc) =>
  HM.pure (x39, ())))

theorem trie_branch_match_den (p0 : Option Addr) (p1 : Slc) (p2 : Slc) (p3 : Bool) (p4 : Slc) : denFn Tryd.prog [103, 104, 68] 73 [0, 1, 2, 3, 4, 10, 11, 13, 27, 36, 42] [0, 1, 2, 3, 4, 11, 13, 27, 36, 42] Tryd.f68.results.toList [.one .slc] (bodyOf Tryd.f68) [Kind.val (.one .ptr) p0, Kind.val (.one .slc) p1, Kind.val (.one .slc) p2, Kind.val (.one .bool) p3, Kind.val (.one .slc) p4] = trie_branch_match p0 p1 p2 p3 p4 := by kernel_rfl
theorem trie_branch_match_calls (p0 : Option Addr) (p1 : Slc) (p2 : Slc) (p3 : Bool) (p4 : Slc) (h : Heap) (Q : Value → Heap → Prop) (hh : trie_branch_match p0 p1 p2 p3 p4 h fun x h' => Q (.slice x.1.a x.1.len x.1.cap) h') :
    HCalls Tryd.prog 68 #[.pointer p0, .slice p1.a p1.len p1.cap, .slice p2.a p2.len p2.cap, .bool p3, .slice p4.a p4.len p4.cap] h Q := by
  rw [← trie_branch_match_den] at hh
  exact calls_of_den Tryd.func68 (by kernel_rfl) Tryd.ntmps68 (by kernel_rfl) (fun f hf => by
      rcases List.mem_cons.1 hf with rfl | hf
      · exact Tryd.call103
      rcases List.mem_cons.1 hf with rfl | hf
      · exact Tryd.call104
      rcases List.mem_cons.1 hf with rfl | hf
      · exact Tryd.call68
      cases hf) orders hh

/-- aqueduct/topic.Levels -/
def topic_Levels (p0 : ByteArray) : HM (Slc × Unit) :=
  HM.bind (α := Slc) (HM.call1 Tryd.prog (.one .slc) 105 #[.string p0, .string (ByteArray.mk #[47])]) fun (x1 : Slc) =>
  HM.pure (x1, ())

theorem topic_Levels_den (p0 : ByteArray) : denFn Tryd.prog [105] 5 [0, 2] [0] Tryd.f69.results.toList [.one .slc] (bodyOf Tryd.f69) [Kind.val (.one .str) p0] = topic_Levels p0 := by kernel_rfl
theorem topic_Levels_calls (p0 : ByteArray) (h : Heap) (Q : Value → Heap → Prop) (hh : topic_Levels p0 h fun x h' => Q (.slice x.1.a x.1.len x.1.cap) h') :
    HCalls Tryd.prog 69 #[.string p0] h Q := by
  rw [← topic_Levels_den] at hh
  exact calls_of_den Tryd.func69 (by kernel_rfl) Tryd.ntmps69 (by kernel_rfl) (fun f hf => by
      rcases List.mem_cons.1 hf with rfl | hf
      · exact Tryd.call105
      cases hf) orders hh

/-- aqueduct/trie.order -/
def trie_order (p0 : Int × ByteArray × Int × Unit) (p1 : Int × ByteArray × Int × Unit) : HM (Int × Unit) :=
  HM.bind (α := Nat) (HM.new (.cells #[.int .i64 p0.1, .string p0.2.1, .int .i64 p0.2.2.1] 95)) fun (x1 : Nat) =>
  HM.bind (α := Nat) (HM.new (.cells #[.int .i64 p1.1, .string p1.2.1, .int .i64 p1.2.2.1] 95)) fun (x2 : Nat) =>
  HM.bind (α := Int) (HM.load1 (.int .i64) (Addr.add ⟨x1, 0, none⟩ 0)) fun (x3 : Int) =>
  HM.bind (α := Int) (HM.load1 (.int .i64) (Addr.add ⟨x2, 0, none⟩ 0)) fun (x4 : Int) =>
  HM.bind (α := ByteArray) (HM.load1 .str (Addr.add ⟨x1, 0, none⟩ 1)) fun (x5 : ByteArray) =>
  HM.bind (α := ByteArray) (HM.load1 .str (Addr.add ⟨x2, 0, none⟩ 1)) fun (x6 : ByteArray) =>
  HM.bind (α := Int) (HM.call1 Tryd.prog (.one (.int .i64)) 58 #[.int .i64 x3, .int .i64 x4]) fun (x7 : Int) =>
  HM.bind (α := ByteArray) (HM.load1 .str (Addr.add ⟨x2, 0, none⟩ 1)) fun (x8 : ByteArray) =>
  HM.req ((.string x8 : Value) = .string x6) <|
  HM.bind (α := ByteArray) (HM.load1 .str (Addr.add ⟨x1, 0, none⟩ 1)) fun (x9 : ByteArray) =>
  HM.req ((.string x9 : Value) = .string x5) <|
  HM.bind (α := Int) (HM.call1 Tryd.prog (.one (.int .i64)) 108 #[.string x5, .string x6]) fun (x10 : Int) =>
  HM.bind (α := Nat) (HM.new (.cells #[.int .i64 x7, .int .i64 x10] 3)) fun (x11 : Nat) =>
  HM.bind (α := Int) (HM.call1 Tryd.prog (.one (.int .i64)) 57 #[.slice (some ⟨x11, 0, none⟩) 2 2]) fun (x12 : Int) =>
  HM.pure (x12, ())

theorem trie_order_den (p0 : Int × ByteArray × Int × Unit) (p1 : Int × ByteArray × Int × Unit) : denFn Tryd.prog [58, 108, 57] 17 [0, 1, 2, 3, 4] [0, 1, 2, 3] Tryd.f71.results.toList [.one (.int .i64)] (bodyOf Tryd.f71) [Kind.val (.agg [.int .i64, .str, .int .i64]) p0, Kind.val (.agg [.int .i64, .str, .int .i64]) p1] = trie_order p0 p1 := by kernel_rfl
theorem trie_order_calls (p0 : Int × ByteArray × Int × Unit) (p1 : Int × ByteArray × Int × Unit) (h : Heap) (Q : Value → Heap → Prop) (hh : trie_order p0 p1 h fun x h' => Q (.int .i64 x.1) h') :
    HCalls Tryd.prog 71 #[.agg #[.int .i64 p0.1, .string p0.2.1, .int .i64 p0.2.2.1], .agg #[.int .i64 p1.1, .string p1.2.1, .int .i64 p1.2.2.1]] h Q := by
  rw [← trie_order_den] at hh
  exact calls_of_den Tryd.func71 (by kernel_rfl) Tryd.ntmps71 (by kernel_rfl) (fun f hf => by
      rcases List.mem_cons.1 hf with rfl | hf
      · exact Tryd.call58
      rcases List.mem_cons.1 hf with rfl | hf
      · exact Tryd.call108
      rcases List.mem_cons.1 hf with rfl | hf
      · exact Tryd.call57
      cases hf) orders hh

/-- cmp.Or[int] -/
def cmp_Or (p0 : Slc) : HM (Int × Unit) :=
  HM.bind (α := (Int × Unit) ⊕ (Int × Unit)) (HM.loop (σ := Int × Unit) (τ := (Int × Unit) ⊕ (Int × Unit)) (fun (x2 : Int × Unit) =>
  HM.ite (decide (x2.1 < (((p0.len : Nat) : Int) : Int))) (
  HM.bind (α := Addr) (HM.idx p0.a p0.len x2.1 1) fun (x3 : Addr) =>
  HM.bind (α := Int) (HM.load1 (.int .i64) x3) fun (x4 : Int) =>
  HM.ite (!(x4 == 0)) (
  HM.pure (.inr (.inr (x4, ())))) (
  HM.pure (.inl (IntKind.wrap .i64 (x2.1 + 1), ())))) (
  HM.pure (.inr (.inl (x2.1, ()))))) (0, ())) (Sum.elim (fun (x1 : Int × Unit) =>
  HM.pure (0, ())) HM.pure)

theorem cmp_Or_den (p0 : Slc) : denFn Tryd.prog [] 18 [0, 2, 3, 5, 6, 7, 8, 9, 14] [0, 3, 5, 6, 7, 8, 9, 14] Tryd.f57.results.toList [.one (.int .i64)] (bodyOf Tryd.f57) [Kind.val (.one .slc) p0] = cmp_Or p0 := by kernel_rfl
theorem cmp_Or_calls (p0 : Slc) (h : Heap) (Q : Value → Heap → Prop) (hh : cmp_Or p0 h fun x h' => Q (.int .i64 x.1) h') :
    HCalls Tryd.prog 57 #[.slice p0.a p0.len p0.cap] h Q := by
  rw [← cmp_Or_den] at hh
  exact calls_of_den Tryd.func57 (by kernel_rfl) Tryd.ntmps57 (by kernel_rfl) (fun f hf => by cases hf) orders hh

/-- cmp.Compare[int] -/
def cmp_Compare_int (p0 : Int) (p1 : Int) : HM (Int × Unit) :=
  HM.bind (α := Bool) (HM.call1 Tryd.prog (.one .bool) 94 #[.int .i64 p0]) fun (x1 : Bool) =>
  HM.bind (α := Bool) (HM.call1 Tryd.prog (.one .bool) 94 #[.int .i64 p1]) fun (x2 : Bool) =>
  HM.ite x1 (
  HM.ite x2 (
  HM.pure (0, ())) (
  HM.pure ((-1), ()))) (
  HM.ite x2 (
  HM.pure (1, ())) (
  HM.ite (decide (p0 < (p1 : Int))) (
  HM.pure ((-1), ())) (
  HM.ite (decide (p1 < (p0 : Int))) (
  HM.pure (1, ())) (
  HM.pure (0, ())))))

theorem cmp_Compare_int_den (p0 : Int) (p1 : Int) : denFn Tryd.prog [94] 20 [0, 1, 4, 5, 6, 11, 12, 13, 16, 19] [0, 1, 5, 6, 11, 12, 13, 16, 19] Tryd.f58.results.toList [.one (.int .i64)] (bodyOf Tryd.f58) [Kind.val (.one (.int .i64)) p0, Kind.val (.one (.int .i64)) p1] = cmp_Compare_int p0 p1 := by kernel_rfl
theorem cmp_Compare_int_calls (p0 : Int) (p1 : Int) (h : Heap) (Q : Value → Heap → Prop) (hh : cmp_Compare_int p0 p1 h fun x h' => Q (.int .i64 x.1) h') :
    HCalls Tryd.prog 58 #[.int .i64 p0, .int .i64 p1] h Q := by
  rw [← cmp_Compare_int_den] at hh
  exact calls_of_den Tryd.func58 (by kernel_rfl) Tryd.ntmps58 (by kernel_rfl) (fun f hf => by
      rcases List.mem_cons.1 hf with rfl | hf
      · exact Tryd.call94
      cases hf) orders hh

/-- aqueduct/aqueductref07.Match -/
def ref07_Match (p0 : ByteArray) (p1 : ByteArray) : HM (Bool × Unit) :=
  HM.bind (α := Int) (HM.call1 Tryd.prog (.one (.int .i64)) 99 #[.string p0]) fun (x1 : Int) =>
  HM.bind (α := Int) (HM.call1 Tryd.prog (.one (.int .i64)) 109 #[.string p1]) fun (x2 : Int) =>
  HM.bind (α := Bool × Unit) (HM.ite (!(x1 == 0)) (
  HM.pure (true, ())) (
  HM.pure (!(x2 == 0), ()))) fun (x3 : Bool × Unit) =>
  HM.ite x3.1 (
  HM.pure (false, ())) (
  HM.bind (α := Bool × Unit) (HM.bind (α := Int) (HM.strIdx p1 0) fun (x4 : Int) =>
  HM.ite (x4 == 36) (
  HM.bind (α := Int) (HM.strIdx p0 0) fun (x5 : Int) =>
  HM.ite (x5 == 43) (
  HM.pure (true, ())) (
  HM.bind (α := Int) (HM.strIdx p0 0) fun (x6 : Int) =>
  HM.pure (x6 == 35, ()))) (
  HM.pure (false, ()))) fun (x7 : Bool × Unit) =>
  HM.ite x7.1 (
  HM.pure (false, ())) (
  HM.bind (α := Slc) (HM.call1 Tryd.prog (.one .slc) 110 #[.string p0]) fun (x8 : Slc) =>
  HM.bind (α := Slc) (HM.call1 Tryd.prog (.one .slc) 110 #[.string p1]) fun (x9 : Slc) =>
  HM.bind (α := (Int × Unit) ⊕ (Bool × Unit)) (HM.loop (σ := Int × Unit) (τ := (Int × Unit) ⊕ (Bool × Unit)) (fun (x11 : Int × Unit) =>
  HM.ite (decide (x11.1 < (((x8.len : Nat) : Int) : Int))) (
  HM.bind (α := Addr) (HM.idx x8.a x8.len x11.1 1) fun (x12 : Addr) =>
  HM.bind (α := ByteArray) (HM.load1 .str x12) fun (x13 : ByteArray) =>
  HM.ite (decide (x13 = (ByteArray.mk #[35]))) (
  HM.pure (.inr (.inr (true, ())))) (
  HM.ite (decide (((x9.len : Nat) : Int) ≤ (x11.1 : Int))) (
  HM.pure (.inr (.inr (false, ())))) (
  HM.bind (α := Bool × Unit) (HM.bind (α := Addr) (HM.idx x8.a x8.len x11.1 1) fun (x14 : Addr) =>
  HM.bind (α := ByteArray) (HM.load1 .str x14) fun (x15 : ByteArray) =>
  HM.ite (!(decide (x15 = (ByteArray.mk #[43])))) (
  HM.bind (α := Addr) (HM.idx x8.a x8.len x11.1 1) fun (x16 : Addr) =>
  HM.bind (α := ByteArray) (HM.load1 .str x16) fun (x17 : ByteArray) =>
  HM.bind (α := Addr) (HM.idx x9.a x9.len x11.1 1) fun (x18 : Addr) =>
  HM.bind (α := ByteArray) (HM.load1 .str x18) fun (x19 : ByteArray) =>
  HM.pure (!(decide (x17 = x19)), ())) (
  HM.pure (false, ()))) fun (x20 : Bool × Unit) =>
  HM.ite x20.1 (
  HM.pure (.inr (.inr (false, ())))) (
  HM.pure (.inl (IntKind.wrap .i64 (x11.1 + 1), ())))))) (
  HM.pure (.inr (.inl (x11.1, ()))))) (0, ())) (Sum.elim (fun (x10 : Int × Unit) =>
  HM.pure (((x8.len : Nat) : Int) == ((x9.len : Nat) : Int), ())) HM.pure)))

theorem ref07_Match_den (p0 : ByteArray) (p1 : ByteArray) : denFn Tryd.prog [99, 109, 110] 73 [0, 1, 4, 5, 6, 7, 8, 9, 19, 32, 40, 47, 51, 67] [0, 1, 5, 6, 7, 8, 9, 19, 32, 40, 47, 51, 67] Tryd.f72.results.toList [.one .bool] (bodyOf Tryd.f72) [Kind.val (.one .str) p0, Kind.val (.one .str) p1] = ref07_Match p0 p1 := by kernel_rfl
theorem ref07_Match_calls (p0 : ByteArray) (p1 : ByteArray) (h : Heap) (Q : Value → Heap → Prop) (hh : ref07_Match p0 p1 h fun x h' => Q (.bool x.1) h') :
    HCalls Tryd.prog 72 #[.string p0, .string p1] h Q := by
  rw [← ref07_Match_den] at hh
  exact calls_of_den Tryd.func72 (by kernel_rfl) Tryd.ntmps72 (by kernel_rfl) (fun f hf => by
      rcases List.mem_cons.1 hf with rfl | hf
      · exact Tryd.call99
      rcases List.mem_cons.1 hf with rfl | hf
      · exact Tryd.call109
      rcases List.mem_cons.1 hf with rfl | hf
      · exact Tryd.call110
      cases hf) orders hh

/-- (*aqueduct/trie.branch).all -/
def trie_branch_all (p0 : Option Addr) (p1 : Slc) (p2 : Value) : HM (Unit) :=
  HM.bind (α := Slc) (HM.call1 Tryd.prog (.one .slc) 103 #[.slice p1.a p1.len p1.cap]) fun (x1 : Slc) =>
  HM.bind (α := Slc) (HM.call1 Tryd.prog (.one .slc) 104 #[.pointer p0, .slice x1.a x1.len x1.cap, .slice none 0 0]) fun (x2 : Slc) =>
  HM.bind (α := Int × Unit) (HM.loop (σ := Int × Unit) (τ := Int × Unit) (fun (x4 : Int × Unit) =>
  HM.ite (decide (x4.1 < (((x2.len : Nat) : Int) : Int))) (
  HM.bind (α := Addr) (HM.idx x2.a x2.len x4.1 3) fun (x5 : Addr) =>
  HM.bind (α := Int × ByteArray × Int × Unit) (HM.loadN [.int .i64, .str, .int .i64] x5) fun (x6 : Int × ByteArray × Int × Unit) =>
  HM.bind (α := Nat) (HM.new (.cells #[.int .i64 0, .string (ByteArray.mk #[]), .int .i64 0] 95)) fun (x7 : Nat) =>
  HM.bind (α := Unit) (HM.storeN ⟨x7, 0, none⟩ [.int .i64 x6.1, .string x6.2.1, .int .i64 x6.2.2.1]) fun (_ : Unit) =>
  HM.bind (α := Int × ByteArray × Int × Unit) (HM.loadN [.int .i64, .str, .int .i64] ⟨x7, 0, none⟩) fun (x8 : Int × ByteArray × Int × Unit) =>
  HM.bind (α := Unit) (HM.callVN Tryd.prog [] p2 #[.agg #[.int .i64 x8.1, .string x8.2.1, .int .i64 x8.2.2.1]]) fun (x9 : Unit) =>
  HM.pure (.inl (IntKind.wrap .i64 (x4.1 + 1), ()))) (
  HM.pure (.inr (x4.1, ())))) (0, ())) fun (x3 : Int × Unit) =>
  HM.bind (α := Addr) (HM.nonnil p0) fun (x10 : Addr) =>
  HM.bind (α := Option Nat) (HM.load1 .map (Addr.add x10 1)) fun (x11 : Option Nat) =>
  HM.bind (α := Nat) (HM.rangeM x11) fun (x12 : Nat) =>
  HM.bind (α := Unit) (HM.loop (σ := Unit) (τ := Unit) (fun (x14 : Unit) =>
  HM.bind (α := Option (Value × Value)) (HM.nextM x12) fun (x15 : Option (Value × Value)) =>
  HM.opt x15 (
  HM.ite false (
  HM.bind (α := ByteArray × Option Addr) (HM.entryM (.one .str) (.one .ptr) x12) fun (x17 : ByteArray × Option Addr) =>
  HM.bind (α := Nat) (HM.new (.cells #[.string x17.1] 9)) fun (x18 : Nat) =>
  HM.bind (α := Slc) (HM.append 9 1 16 #[.string (ByteArray.mk #[])] x1 1 (srcSlc 1 (⟨some ⟨x18, 0, none⟩, 1, 1⟩))) fun (x19 : Slc) =>
  HM.bind (α := Unit) (HM.callN Tryd.prog [] 73 #[.pointer x17.2, .slice x19.a x19.len x19.cap, p2]) fun (x20 : Unit) =>
  HM.pure (.inl ())) (
  HM.pure (.inr ()))) fun (x16 : Value × Value) =>
  HM.ite true (
  HM.bind (α := ByteArray × Option Addr) (HM.entryM (.one .str) (.one .ptr) x12) fun (x21 : ByteArray × Option Addr) =>
  HM.bind (α := Nat) (HM.new (.cells #[.string x21.1] 9)) fun (x22 : Nat) =>
  HM.bind (α := Slc) (HM.append 9 1 16 #[.string (ByteArray.mk #[])] x1 1 (srcSlc 1 (⟨some ⟨x22, 0, none⟩, 1, 1⟩))) fun (x23 : Slc) =>
  HM.bind (α := Unit) (HM.callN Tryd.prog [] 73 #[.pointer x21.2, .slice x23.a x23.len x23.cap, p2]) fun (x24 : Unit) =>
  HM.pure (.inl ())) (
  HM.pure (.inr ()))) ()) fun (x13 : Unit) =>
  HM.pure ()

theorem trie_branch_all_den (p0 : Option Addr) (p1 : Slc) (p2 : Value) : denFn Tryd.prog [103, 104, 73] 41 [0, 1, 2, 7, 8, 9, 14, 15, 16, 17, 28, 30] [0, 1, 2, 7, 8, 9, 14, 15, 16, 17, 28, 30] Tryd.f73.results.toList [] (bodyOf Tryd.f73) [Kind.val (.one .ptr) p0, Kind.val (.one .slc) p1, Kind.val (.one .any) p2] = trie_branch_all p0 p1 p2 := by kernel_rfl
theorem trie_branch_all_calls (p0 : Option Addr) (p1 : Slc) (p2 : Value) (h : Heap) (Q : Value → Heap → Prop) (hh : trie_branch_all p0 p1 p2 h fun x h' => Q (.tuple #[]) h') :
    HCalls Tryd.prog 73 #[.pointer p0, .slice p1.a p1.len p1.cap, p2] h Q := by
  rw [← trie_branch_all_den] at hh
  exact calls_of_den Tryd.func73 (by kernel_rfl) Tryd.ntmps73 (by kernel_rfl) (fun f hf => by
      rcases List.mem_cons.1 hf with rfl | hf
      · exact Tryd.call103
      rcases List.mem_cons.1 hf with rfl | hf
      · exact Tryd.call104
      rcases List.mem_cons.1 hf with rfl | hf
      · exact Tryd.call73
      cases hf) orders hh

/-- (*aqueduct/trie.Trie).For$1 -/
def trie_Trie_For_f1 (p0 : Int × ByteArray × Int × Unit) (p1 : Addr) (p2 : Addr) : HM (Unit) :=
  HM.bind (α := Nat) (HM.new (.cells #[.int .i64 p0.1, .string p0.2.1, .int .i64 p0.2.2.1] 95)) fun (x1 : Nat) =>
  HM.bind (α := Int) (HM.load1 (.int .i64) (Addr.add ⟨x1, 0, none⟩ 0)) fun (x2 : Int) =>
  HM.bind (α := Int) (HM.load1 (.int .i64) p1) fun (x3 : Int) =>
  HM.bind (α := Unit) (HM.ite (x2 == x3) (
  HM.bind (α := Slc) (HM.load1 .slc p2) fun (x5 : Slc) =>
  HM.bind (α := Int × ByteArray × Int × Unit) (HM.loadN [.int .i64, .str, .int .i64] ⟨x1, 0, none⟩) fun (x6 : Int × ByteArray × Int × Unit) =>
  HM.bind (α := Nat) (HM.new (.cells #[.int .i64 x6.1, .string x6.2.1, .int .i64 x6.2.2.1] 95)) fun (x7 : Nat) =>
  HM.bind (α := Slc) (HM.append 95 3 32 #[.int .i64 0, .string (ByteArray.mk #[]), .int .i64 0] x5 1 (srcSlc 3 (⟨some ⟨x7, 0, none⟩, 1, 1⟩))) fun (x8 : Slc) =>
  HM.bind (α := Unit) (HM.store1 p2 (.slice x8.a x8.len x8.cap)) fun (_ : Unit) =>
  HM.pure ()) (
  HM.pure ())) fun (x4 : Unit) =>
  HM.pure ()

theorem trie_Trie_For_f1_den (p0 : Int × ByteArray × Int × Unit) (p1 : Addr) (p2 : Addr) : denFn Tryd.prog [] 12 [0, 1, 2, 3, 7] [0, 1, 2, 3, 7] Tryd.f74.results.toList [] (bodyOf Tryd.f74) [Kind.val (.agg [.int .i64, .str, .int .i64]) p0, Value.pointer (some p1), Value.pointer (some p2)] = trie_Trie_For_f1 p0 p1 p2 := by kernel_rfl
theorem trie_Trie_For_f1_calls (p0 : Int × ByteArray × Int × Unit) (p1 : Addr) (p2 : Addr) (h : Heap) (Q : Value → Heap → Prop) (hh : trie_Trie_For_f1 p0 p1 p2 h fun x h' => Q (.tuple #[]) h') :
    HCalls Tryd.prog 74 #[.agg #[.int .i64 p0.1, .string p0.2.1, .int .i64 p0.2.2.1], .pointer (some p1), .pointer (some p2)] h Q := by
  rw [← trie_Trie_For_f1_den] at hh
  exact calls_of_den Tryd.func74 (by kernel_rfl) Tryd.ntmps74 (by kernel_rfl) (fun f hf => by cases hf) orders hh

/-- aqueduct/topic.CheckFilter -/
def topic_CheckFilter (p0 : ByteArray) : HM (Int × Unit) :=
  HM.bind (α := Bool) (HM.call1 Tryd.prog (.one .bool) 101 #[.string p0]) fun (x1 : Bool) =>
  HM.ite (!x1) (
  HM.pure (143, ())) (
  HM.bind (α := Slc) (HM.call1 Tryd.prog (.one .slc) 69 #[.string p0]) fun (x2 : Slc) =>
  HM.bind (α := (Int × Unit) ⊕ (Int × Unit)) (HM.loop (σ := Int × Unit) (τ := (Int × Unit) ⊕ (Int × Unit)) (fun (x4 : Int × Unit) =>
  HM.ite (decide (x4.1 < (((x2.len : Nat) : Int) : Int))) (
  HM.bind (α := Addr) (HM.idx x2.a x2.len x4.1 1) fun (x5 : Addr) =>
  HM.bind (α := ByteArray) (HM.load1 .str x5) fun (x6 : ByteArray) =>
  HM.bind (α := (Unit) ⊕ ((Int × Unit) ⊕ ((Int × Unit) ⊕ (Int × Unit)))) (HM.bind (α := (Unit) ⊕ ((Unit) ⊕ ((Int × Unit) ⊕ ((Int × Unit) ⊕ (Int × Unit))))) (HM.bind (α := (Unit) ⊕ ((Unit) ⊕ ((Unit) ⊕ ((Int × Unit) ⊕ ((Int × Unit) ⊕ (Int × Unit)))))) (HM.bind (α := Bool) (HM.call1 Tryd.prog (.one .bool) 102 #[.string x6, .string (ByteArray.mk #[35])]) fun (x10 : Bool) =>
  HM.ite x10 (
  HM.pure (.inl ())) (
  HM.bind (α := Bool) (HM.call1 Tryd.prog (.one .bool) 102 #[.string x6, .string (ByteArray.mk #[43])]) fun (x11 : Bool) =>
  HM.ite x11 (
  HM.pure (.inr (.inl ()))) (
  HM.pure (.inr (.inr (.inl ())))))) (Sum.elim (fun (x9 : Unit) =>
  HM.ite (decide (x4.1 < ((IntKind.wrap .i64 (((x2.len : Nat) : Int) - 1)) : Int))) (
  HM.pure (.inr (.inr (.inr (.inr (143, ())))))) (
  HM.pure (.inl ()))) HM.pure)) (Sum.elim (fun (x8 : Unit) =>
  HM.ite (decide (1 < (((ByteArray.size x6 : Nat) : Int) : Int))) (
  HM.pure (.inr (.inr (.inr (143, ()))))) (
  HM.pure (.inl ()))) HM.pure)) (Sum.elim (fun (x7 : Unit) =>
  HM.pure (.inl (IntKind.wrap .i64 (x4.1 + 1), ()))) HM.pure)) (
  HM.pure (.inr (.inl (x4.1, ()))))) (0, ())) (Sum.elim (fun (x3 : Int × Unit) =>
  HM.pure (0, ())) HM.pure))

theorem topic_CheckFilter_den (p0 : ByteArray) : denFn Tryd.prog [101, 69, 102] 33 [0, 2, 3, 4, 5, 8, 11, 12, 13, 14, 18, 21, 28, 31] [0, 3, 4, 5, 8, 11, 12, 13, 14, 18, 21, 28, 31] Tryd.f75.results.toList [.one (.int .u8)] (bodyOf Tryd.f75) [Kind.val (.one .str) p0] = topic_CheckFilter p0 := by kernel_rfl
theorem topic_CheckFilter_calls (p0 : ByteArray) (h : Heap) (Q : Value → Heap → Prop) (hh : topic_CheckFilter p0 h fun x h' => Q (.int .u8 x.1) h') :
    HCalls Tryd.prog 75 #[.string p0] h Q := by
  rw [← topic_CheckFilter_den] at hh
  exact calls_of_den Tryd.func75 (by kernel_rfl) Tryd.ntmps75 (by kernel_rfl) (fun f hf => by
      rcases List.mem_cons.1 hf with rfl | hf
      · exact Tryd.call101
      rcases List.mem_cons.1 hf with rfl | hf
      · exact Tryd.call69
      rcases List.mem_cons.1 hf with rfl | hf
      · exact Tryd.call102
      cases hf) orders hh

/-- slices.EqualFunc[[]string,[]string,string,string] -/
def slices_EqualFunc (p0 : Slc) (p1 : Slc) (p2 : Value) : HM (Bool × Unit) :=
  HM.ite (!(((p0.len : Nat) : Int) == ((p1.len : Nat) : Int))) (
  HM.pure (false, ())) (
  HM.bind (α := (Int × Unit) ⊕ (Bool × Unit)) (HM.loop (σ := Int × Unit) (τ := (Int × Unit) ⊕ (Bool × Unit)) (fun (x2 : Int × Unit) =>
  HM.ite (decide (x2.1 < (((p0.len : Nat) : Int) : Int))) (
  HM.bind (α := Addr) (HM.idx p0.a p0.len x2.1 1) fun (x3 : Addr) =>
  HM.bind (α := ByteArray) (HM.load1 .str x3) fun (x4 : ByteArray) =>
  HM.bind (α := Addr) (HM.idx p1.a p1.len x2.1 1) fun (x5 : Addr) =>
  HM.bind (α := ByteArray) (HM.load1 .str x5) fun (x6 : ByteArray) =>
  HM.bind (α := Bool) (HM.callV1 Tryd.prog (.one .bool) p2 #[.string x4, .string x6]) fun (x7 : Bool) =>
  HM.ite (!x7) (
  HM.pure (.inr (.inr (false, ())))) (
  HM.pure (.inl (IntKind.wrap .i64 (x2.1 + 1), ())))) (
  HM.pure (.inr (.inl (x2.1, ()))))) (0, ())) (Sum.elim (fun (x1 : Int × Unit) =>
  HM.pure (true, ())) HM.pure))

theorem slices_EqualFunc_den (p0 : Slc) (p1 : Slc) (p2 : Value) : denFn Tryd.prog [] 32 [0, 1, 2, 6, 7, 8, 9, 14, 15, 16, 17, 18, 30] [0, 1, 2, 7, 8, 9, 14, 15, 16, 17, 18, 30] Tryd.f76.results.toList [.one .bool] (bodyOf Tryd.f76) [Kind.val (.one .slc) p0, Kind.val (.one .slc) p1, Kind.val (.one .any) p2] = slices_EqualFunc p0 p1 p2 := by kernel_rfl
theorem slices_EqualFunc_calls (p0 : Slc) (p1 : Slc) (p2 : Value) (h : Heap) (Q : Value → Heap → Prop) (hh : slices_EqualFunc p0 p1 p2 h fun x h' => Q (.bool x.1) h') :
    HCalls Tryd.prog 76 #[.slice p0.a p0.len p0.cap, .slice p1.a p1.len p1.cap, p2] h Q := by
  rw [← slices_EqualFunc_den] at hh
  exact calls_of_den Tryd.func76 (by kernel_rfl) Tryd.ntmps76 (by kernel_rfl) (fun f hf => by cases hf) orders hh

/-- aqueduct/topic.Match$1 -/
def topic_Match_f1 (p0 : ByteArray) (p1 : ByteArray) : HM (Bool × Unit) :=
  HM.bind (α := Bool × Unit) (HM.ite (decide (p0 = (ByteArray.mk #[43]))) (
  HM.pure (true, ())) (
  HM.pure (decide (p0 = p1), ()))) fun (x1 : Bool × Unit) =>
  HM.pure (x1.1, ())

theorem topic_Match_f1_den (p0 : ByteArray) (p1 : ByteArray) : denFn Tryd.prog [] 12 [0, 1, 4] [0, 1] Tryd.f77.results.toList [.one .bool] (bodyOf Tryd.f77) [Kind.val (.one .str) p0, Kind.val (.one .str) p1] = topic_Match_f1 p0 p1 := by kernel_rfl
theorem topic_Match_f1_calls (p0 : ByteArray) (p1 : ByteArray) (h : Heap) (Q : Value → Heap → Prop) (hh : topic_Match_f1 p0 p1 h fun x h' => Q (.bool x.1) h') :
    HCalls Tryd.prog 77 #[.string p0, .string p1] h Q := by
  rw [← topic_Match_f1_den] at hh
  exact calls_of_den Tryd.func77 (by kernel_rfl) Tryd.ntmps77 (by kernel_rfl) (fun f hf => by cases hf) orders hh

/-- (*aqueduct/trie.Trie).find -/
def trie_Trie_find (p0 : Option Addr) (p1 : ByteArray) : HM (Option Addr × Unit) :=
  HM.bind (α := Addr) (HM.nonnil p0) fun (x1 : Addr) =>
  HM.bind (α := Option Addr) (HM.load1 .ptr (Addr.add x1 0)) fun (x2 : Option Addr) =>
  HM.bind (α := Slc) (HM.call1 Tryd.prog (.one .slc) 69 #[.string p1]) fun (x3 : Slc) =>
  HM.bind (α := (Option Addr × Int × Unit) ⊕ (Option Addr × Unit)) (HM.loop (σ := Option Addr × Int × Unit) (τ := (Option Addr × Int × Unit) ⊕ (Option Addr × Unit)) (fun (x5 : Option Addr × Int × Unit) =>
  HM.ite (decide (x5.2.1 < (((x3.len : Nat) : Int) : Int))) (
  HM.bind (α := Addr) (HM.idx x3.a x3.len x5.2.1 1) fun (x6 : Addr) =>
  HM.bind (α := ByteArray) (HM.load1 .str x6) fun (x7 : ByteArray) =>
  HM.bind (α := Addr) (HM.nonnil x5.1) fun (x8 : Addr) =>
  HM.bind (α := Option Nat) (HM.load1 .map (Addr.add x8 1)) fun (x9 : Option Nat) =>
  HM.bind (α := Option Addr × Bool) (HM.lookup (Instr.sameNow .string) (.pointer none) (.one .ptr) x9 (.string x7)) fun (x10 : Option Addr × Bool) =>
  HM.ite (Option.isNone x10.1) (
  HM.pure (.inr (.inr (none, ())))) (
  HM.pure (.inl (x10.1, IntKind.wrap .i64 (x5.2.1 + 1), ())))) (
  HM.pure (.inr (.inl (x5.1, x5.2.1, ()))))) (x2, 0, ())) (Sum.elim (fun (x4 : Option Addr × Int × Unit) =>
  HM.pure (x4.1, ())) HM.pure)

theorem trie_Trie_find_den (p0 : Option Addr) (p1 : ByteArray) : denFn Tryd.prog [69] 29 [0, 1, 4, 5, 7, 13, 14, 15, 16, 26] [0, 1, 5, 7, 13, 14, 15, 16, 26] Tryd.f78.results.toList [.one .ptr] (bodyOf Tryd.f78) [Kind.val (.one .ptr) p0, Kind.val (.one .str) p1] = trie_Trie_find p0 p1 := by kernel_rfl
theorem trie_Trie_find_calls (p0 : Option Addr) (p1 : ByteArray) (h : Heap) (Q : Value → Heap → Prop) (hh : trie_Trie_find p0 p1 h fun x h' => Q (.pointer x.1) h') :
    HCalls Tryd.prog 78 #[.pointer p0, .string p1] h Q := by
  rw [← trie_Trie_find_den] at hh
  exact calls_of_den Tryd.func78 (by kernel_rfl) Tryd.ntmps78 (by kernel_rfl) (fun f hf => by
      rcases List.mem_cons.1 hf with rfl | hf
      · exact Tryd.call69
      cases hf) orders hh

/-- aqueduct/trie.sprout -/
def trie_sprout : HM (Option Addr × Unit) :=
  HM.bind (α := Nat) (HM.new (.map #[] 0)) fun (x1 : Nat) =>
  HM.bind (α := Nat) (HM.new (.map #[] 0)) fun (x2 : Nat) =>
  HM.bind (α := Nat) (HM.new (.cells #[.map (some x1), .map (some x2)] 171)) fun (x3 : Nat) =>
  HM.pure (some ⟨x3, 0, none⟩, ())

theorem trie_sprout_den : denFn Tryd.prog [] 5 [0] [] Tryd.f79.results.toList [.one .ptr] (bodyOf Tryd.f79) [] = trie_sprout := by kernel_rfl
theorem trie_sprout_calls (h : Heap) (Q : Value → Heap → Prop) (hh : trie_sprout h fun x h' => Q (.pointer x.1) h') :
    HCalls Tryd.prog 79 #[] h Q := by
  rw [← trie_sprout_den] at hh
  exact calls_of_den Tryd.func79 (by kernel_rfl) Tryd.ntmps79 (by kernel_rfl) (fun f hf => by cases hf) orders hh

/-- (*aqueduct/trie.branch).prune -/
def trie_branch_prune (p0 : Option Addr) (p1 : Int) (p2 : Slc) : HM (Bool × Unit) :=
  HM.bind (α := Unit) (HM.ite (((p2.len : Nat) : Int) == 0) (
  HM.bind (α := Addr) (HM.nonnil p0) fun (x2 : Addr) =>
  HM.bind (α := Option Nat) (HM.load1 .map (Addr.add x2 0)) fun (x3 : Option Nat) =>
  HM.bind (α := Unit) (HM.mapDel (Instr.sameNow (.int .i64)) x3 (.int .i64 p1)) fun (_ : Unit) =>
  HM.pure ()) (
  HM.bind (α := Addr) (HM.nonnil p0) fun (x4 : Addr) =>
  HM.bind (α := Option Nat) (HM.load1 .map (Addr.add x4 1)) fun (x5 : Option Nat) =>
  HM.bind (α := Addr) (HM.idx p2.a p2.len 0 1) fun (x6 : Addr) =>
  HM.bind (α := ByteArray) (HM.load1 .str x6) fun (x7 : ByteArray) =>
  HM.bind (α := Option Addr × Bool) (HM.lookup (Instr.sameNow .string) (.pointer none) (.one .ptr) x5 (.string x7)) fun (x8 : Option Addr × Bool) =>
  HM.bind (α := Bool × Unit) (HM.ite (!(Option.isNone x8.1)) (
  HM.bind (α := Slc) (HM.slice p2 (some 1) none none 1) fun (x9 : Slc) =>
  HM.bind (α := Bool) (HM.call1 Tryd.prog (.one .bool) 80 #[.pointer x8.1, .int .i64 p1, .slice x9.a x9.len x9.cap]) fun (x10 : Bool) =>
  HM.pure (x10, ())) (
  HM.pure (false, ()))) fun (x11 : Bool × Unit) =>
  HM.bind (α := Unit) (HM.ite x11.1 (
  HM.bind (α := Addr) (HM.nonnil p0) fun (x13 : Addr) =>
  HM.bind (α := Option Nat) (HM.load1 .map (Addr.add x13 1)) fun (x14 : Option Nat) =>
  HM.bind (α := Addr) (HM.idx p2.a p2.len 0 1) fun (x15 : Addr) =>
  HM.bind (α := ByteArray) (HM.load1 .str x15) fun (x16 : ByteArray) =>
  HM.bind (α := Unit) (HM.mapDel (Instr.sameNow .string) x14 (.string x16)) fun (_ : Unit) =>
  HM.pure ()) (
  HM.pure ())) fun (x12 : Unit) =>
  HM.pure ())) fun (x1 : Unit) =>
  HM.bind (α := Bool × Unit) (HM.bind (α := Addr) (HM.nonnil p0) fun (x17 : Addr) =>
  HM.bind (α := Option Nat) (HM.load1 .map (Addr.add x17 0)) fun (x18 : Option Nat) =>
  HM.bind (α := Int) (HM.mapLen x18) fun (x19 : Int) =>
  HM.ite (x19 == 0) (
  HM.bind (α := Addr) (HM.nonnil p0) fun (x20 : Addr) =>
  HM.bind (α := Option Nat) (HM.load1 .map (Addr.add x20 1)) fun (x21 : Option Nat) =>
  HM.bind (α := Int) (HM.mapLen x21) fun (x22 : Int) =>
  HM.pure (x22 == 0, ())) (
  HM.pure (false, ()))) fun (x23 : Bool × Unit) =>
  HM.pure (x23.1, ())

theorem trie_branch_prune_den (p0 : Option Addr) (p1 : Int) (p2 : Slc) : denFn Tryd.prog [80] 54 [0, 1, 2, 6, 7, 10, 32] [0, 1, 2, 7, 10, 32] Tryd.f80.results.toList [.one .bool] (bodyOf Tryd.f80) [Kind.val (.one .ptr) p0, Kind.val (.one (.int .i64)) p1, Kind.val (.one .slc) p2] = trie_branch_prune p0 p1 p2 := by kernel_rfl
theorem trie_branch_prune_calls (p0 : Option Addr) (p1 : Int) (p2 : Slc) (h : Heap) (Q : Value → Heap → Prop) (hh : trie_branch_prune p0 p1 p2 h fun x h' => Q (.bool x.1) h') :
    HCalls Tryd.prog 80 #[.pointer p0, .int .i64 p1, .slice p2.a p2.len p2.cap] h Q := by
  rw [← trie_branch_prune_den] at hh
  exact calls_of_den Tryd.func80 (by kernel_rfl) Tryd.ntmps80 (by kernel_rfl) (fun f hf => by
      rcases List.mem_cons.1 hf with rfl | hf
      · exact Tryd.call80
      cases hf) orders hh

/-- (*aqueduct/trie.Trie).Filters$1 -/
def trie_Trie_Filters_f1 (p0 : Int × ByteArray × Int × Unit) (p1 : Addr) : HM (Unit) :=
  HM.bind (α := Nat) (HM.new (.cells #[.int .i64 p0.1, .string p0.2.1, .int .i64 p0.2.2.1] 95)) fun (x1 : Nat) =>
  HM.bind (α := Option Nat) (HM.load1 .map p1) fun (x2 : Option Nat) =>
  HM.bind (α := ByteArray) (HM.load1 .str (Addr.add ⟨x1, 0, none⟩ 1)) fun (x3 : ByteArray) =>
  HM.bind (α := Unit) (HM.mapSet (Instr.sameNow .string) x2 (.string x3) (.bool true)) fun (_ : Unit) =>
  HM.pure ()

theorem trie_Trie_Filters_f1_den (p0 : Int × ByteArray × Int × Unit) (p1 : Addr) : denFn Tryd.prog [] 6 [0, 1, 2] [0, 1, 2] Tryd.f81.results.toList [] (bodyOf Tryd.f81) [Kind.val (.agg [.int .i64, .str, .int .i64]) p0, Value.pointer (some p1)] = trie_Trie_Filters_f1 p0 p1 := by kernel_rfl
theorem trie_Trie_Filters_f1_calls (p0 : Int × ByteArray × Int × Unit) (p1 : Addr) (h : Heap) (Q : Value → Heap → Prop) (hh : trie_Trie_Filters_f1 p0 p1 h fun x h' => Q (.tuple #[]) h') :
    HCalls Tryd.prog 81 #[.agg #[.int .i64 p0.1, .string p0.2.1, .int .i64 p0.2.2.1], .pointer (some p1)] h Q := by
  rw [← trie_Trie_Filters_f1_den] at hh
  exact calls_of_den Tryd.func81 (by kernel_rfl) Tryd.ntmps81 (by kernel_rfl) (fun f hf => by cases hf) orders hh

/-- aqueduct/aqueductref07.CheckFilter -/
def ref07_CheckFilter (p0 : ByteArray) : HM (Int × Unit) :=
  HM.bind (α := Bool) (HM.call1 Tryd.prog (.one .bool) 125 #[.string p0]) fun (x1 : Bool) =>
  HM.ite (!x1) (
  HM.pure (143, ())) (
  HM.bind (α := Slc) (HM.call1 Tryd.prog (.one .slc) 110 #[.string p0]) fun (x2 : Slc) =>
  HM.bind (α := (Int × Unit) ⊕ (Int × Unit)) (HM.loop (σ := Int × Unit) (τ := (Int × Unit) ⊕ (Int × Unit)) (fun (x4 : Int × Unit) =>
  HM.ite (decide (x4.1 < (((x2.len : Nat) : Int) : Int))) (
  HM.bind (α := Addr) (HM.idx x2.a x2.len x4.1 1) fun (x5 : Addr) =>
  HM.bind (α := ByteArray) (HM.load1 .str x5) fun (x6 : ByteArray) =>
  HM.bind (α := Bool) (HM.call1 Tryd.prog (.one .bool) 126 #[.string x6, .int .u8 43]) fun (x7 : Bool) =>
  HM.bind (α := Addr) (HM.idx x2.a x2.len x4.1 1) fun (x8 : Addr) =>
  HM.bind (α := ByteArray) (HM.load1 .str x8) fun (x9 : ByteArray) =>
  HM.bind (α := Bool) (HM.call1 Tryd.prog (.one .bool) 126 #[.string x9, .int .u8 35]) fun (x10 : Bool) =>
  HM.bind (α := Bool × Unit) (HM.ite x7 (
  HM.bind (α := Addr) (HM.idx x2.a x2.len x4.1 1) fun (x11 : Addr) =>
  HM.bind (α := ByteArray) (HM.load1 .str x11) fun (x12 : ByteArray) =>
  HM.pure (!(decide (x12 = (ByteArray.mk #[43]))), ())) (
  HM.pure (false, ()))) fun (x13 : Bool × Unit) =>
  HM.ite x13.1 (
  HM.pure (.inr (.inr (143, ())))) (
  HM.bind (α := Bool × Unit) (HM.ite x10 (
  HM.bind (α := Addr) (HM.idx x2.a x2.len x4.1 1) fun (x14 : Addr) =>
  HM.bind (α := ByteArray) (HM.load1 .str x14) fun (x15 : ByteArray) =>
  HM.ite (!(decide (x15 = (ByteArray.mk #[35])))) (
  HM.pure (true, ())) (
  HM.pure (decide (x4.1 < ((IntKind.wrap .i64 (((x2.len : Nat) : Int) - 1)) : Int)), ()))) (
  HM.pure (false, ()))) fun (x16 : Bool × Unit) =>
  HM.ite x16.1 (
  HM.pure (.inr (.inr (143, ())))) (
  HM.pure (.inl (IntKind.wrap .i64 (x4.1 + 1), ()))))) (
  HM.pure (.inr (.inl (x4.1, ()))))) (0, ())) (Sum.elim (fun (x3 : Int × Unit) =>
  HM.pure (0, ())) HM.pure))

theorem ref07_CheckFilter_den (p0 : ByteArray) : denFn Tryd.prog [125, 110, 126] 53 [0, 2, 3, 4, 5, 6, 7, 11, 17, 37, 52] [0, 3, 4, 5, 6, 7, 11, 17, 37, 52] Tryd.f99.results.toList [.one (.int .i64)] (bodyOf Tryd.f99) [Kind.val (.one .str) p0] = ref07_CheckFilter p0 := by kernel_rfl
theorem ref07_CheckFilter_calls (p0 : ByteArray) (h : Heap) (Q : Value → Heap → Prop) (hh : ref07_CheckFilter p0 h fun x h' => Q (.int .i64 x.1) h') :
    HCalls Tryd.prog 99 #[.string p0] h Q := by
  rw [← ref07_CheckFilter_den] at hh
  exact calls_of_den Tryd.func99 (by kernel_rfl) Tryd.ntmps99 (by kernel_rfl) (fun f hf => by
      rcases List.mem_cons.1 hf with rfl | hf
      · exact Tryd.call125
      rcases List.mem_cons.1 hf with rfl | hf
      · exact Tryd.call110
      rcases List.mem_cons.1 hf with rfl | hf
      · exact Tryd.call126
      cases hf) orders hh

/-- aqueduct/aqueductref09.ahead -/
def ref09_ahead (p0 : Int × ByteArray × Int × Unit) (p1 : Int × ByteArray × Int × Unit) : HM (Bool × Unit) :=
  HM.bind (α := Nat) (HM.new (.cells #[.int .i64 p0.1, .string p0.2.1, .int .i64 p0.2.2.1] 155)) fun (x1 : Nat) =>
  HM.bind (α := Nat) (HM.new (.cells #[.int .i64 p1.1, .string p1.2.1, .int .i64 p1.2.2.1] 155)) fun (x2 : Nat) =>
  HM.bind (α := Bool × Unit) (HM.bind (α := Int) (HM.load1 (.int .i64) (Addr.add ⟨x1, 0, none⟩ 0)) fun (x3 : Int) =>
  HM.bind (α := Int) (HM.load1 (.int .i64) (Addr.add ⟨x2, 0, none⟩ 0)) fun (x4 : Int) =>
  HM.ite (decide (x3 < (x4 : Int))) (
  HM.pure (true, ())) (
  HM.bind (α := Int) (HM.load1 (.int .i64) (Addr.add ⟨x1, 0, none⟩ 0)) fun (x5 : Int) =>
  HM.bind (α := Int) (HM.load1 (.int .i64) (Addr.add ⟨x2, 0, none⟩ 0)) fun (x6 : Int) =>
  HM.ite (x5 == x6) (
  HM.bind (α := ByteArray) (HM.load1 .str (Addr.add ⟨x1, 0, none⟩ 1)) fun (x7 : ByteArray) =>
  HM.bind (α := ByteArray) (HM.load1 .str (Addr.add ⟨x2, 0, none⟩ 1)) fun (x8 : ByteArray) =>
  HM.pure (Op.bytesLess x7.toList x8.toList, ())) (
  HM.pure (false, ())))) fun (x9 : Bool × Unit) =>
  HM.pure (x9.1, ())

theorem ref09_ahead_den (p0 : Int × ByteArray × Int × Unit) (p1 : Int × ByteArray × Int × Unit) : denFn Tryd.prog [] 24 [0, 1, 2, 3, 4] [0, 1, 2, 3] Tryd.f100.results.toList [.one .bool] (bodyOf Tryd.f100) [Kind.val (.agg [.int .i64, .str, .int .i64]) p0, Kind.val (.agg [.int .i64, .str, .int .i64]) p1] = ref09_ahead p0 p1 := by kernel_rfl
theorem ref09_ahead_calls (p0 : Int × ByteArray × Int × Unit) (p1 : Int × ByteArray × Int × Unit) (h : Heap) (Q : Value → Heap → Prop) (hh : ref09_ahead p0 p1 h fun x h' => Q (.bool x.1) h') :
    HCalls Tryd.prog 100 #[.agg #[.int .i64 p0.1, .string p0.2.1, .int .i64 p0.2.2.1], .agg #[.int .i64 p1.1, .string p1.2.1, .int .i64 p1.2.2.1]] h Q := by
  rw [← ref09_ahead_den] at hh
  exact calls_of_den Tryd.func100 (by kernel_rfl) Tryd.ntmps100 (by kernel_rfl) (fun f hf => by cases hf) orders hh

/-- aqueduct/topic.sized -/
def topic_sized (p0 : ByteArray) : HM (Bool × Unit) :=
  HM.bind (α := Int × Bool × Unit) (HM.callN Tryd.prog [.one (.int .i64), .one .bool] 41 #[.string p0]) fun (x1 : Int × Bool × Unit) =>
  HM.bind (α := Bool × Unit) (HM.ite (!x1.2.1) (
  HM.ite (!(decide (p0 = (ByteArray.mk #[])))) (
  HM.ite (decide (((ByteArray.size p0 : Nat) : Int) ≤ (256 : Int))) (
  HM.bind (α := Int) (HM.call1 Tryd.prog (.one (.int .i64)) 127 #[.string p0, .string (ByteArray.mk #[47])]) fun (x2 : Int) =>
  HM.pure (decide (x2 < (32 : Int)), ())) (
  HM.pure (false, ()))) (
  HM.pure (false, ()))) (
  HM.pure (false, ()))) fun (x3 : Bool × Unit) =>
  HM.pure (x3.1, ())

theorem topic_sized_den (p0 : ByteArray) : denFn Tryd.prog [41, 127] 26 [0, 2, 4] [0, 4] Tryd.f101.results.toList [.one .bool] (bodyOf Tryd.f101) [Kind.val (.one .str) p0] = topic_sized p0 := by kernel_rfl
theorem topic_sized_calls (p0 : ByteArray) (h : Heap) (Q : Value → Heap → Prop) (hh : topic_sized p0 h fun x h' => Q (.bool x.1) h') :
    HCalls Tryd.prog 101 #[.string p0] h Q := by
  rw [← topic_sized_den] at hh
  exact calls_of_den Tryd.func101 (by kernel_rfl) Tryd.ntmps101 (by kernel_rfl) (fun f hf => by
      rcases List.mem_cons.1 hf with rfl | hf
      · exact Tryd.call41
      rcases List.mem_cons.1 hf with rfl | hf
      · exact Tryd.call127
      cases hf) orders hh

/-- slices.Clip[[]string,string] -/
def slices_Clip (p0 : Slc) : HM (Slc × Unit) :=
  HM.bind (α := Slc) (HM.slice p0 none (some ((p0.len : Nat) : Int)) (some ((p0.len : Nat) : Int)) 1) fun (x1 : Slc) =>
  HM.pure (x1, ())

theorem slices_Clip_den (p0 : Slc) : denFn Tryd.prog [] 9 [0, 2] [0] Tryd.f103.results.toList [.one .slc] (bodyOf Tryd.f103) [Kind.val (.one .slc) p0] = slices_Clip p0 := by kernel_rfl
theorem slices_Clip_calls (p0 : Slc) (h : Heap) (Q : Value → Heap → Prop) (hh : slices_Clip p0 h fun x h' => Q (.slice x.1.a x.1.len x.1.cap) h') :
    HCalls Tryd.prog 103 #[.slice p0.a p0.len p0.cap] h Q := by
  rw [← slices_Clip_den] at hh
  exact calls_of_den Tryd.func103 (by kernel_rfl) Tryd.ntmps103 (by kernel_rfl) (fun f hf => by cases hf) orders hh

/-- (*aqueduct/trie.branch).take -/
def trie_branch_take (p0 : Option Addr) (p1 : Slc) (p2 : Slc) : HM (Slc × Unit) :=
  HM.bind (α := Addr) (HM.nonnil p0) fun (x1 : Addr) =>
  HM.bind (α := Option Nat) (HM.load1 .map (Addr.add x1 0)) fun (x2 : Option Nat) =>
  HM.bind (α := Nat) (HM.rangeM x2) fun (x3 : Nat) =>
  HM.bind (α := Slc × Unit) (HM.loop (σ := Slc × Unit) (τ := Slc × Unit) (fun (x5 : Slc × Unit) =>
  HM.bind (α := Option (Value × Value)) (HM.nextM x3) fun (x6 : Option (Value × Value)) =>
  HM.opt x6 (
  HM.ite false (
  HM.bind (α := Int × Int) (HM.entryM (.one (.int .i64)) (.one (.int .i64)) x3) fun (x8 : Int × Int) =>
  HM.bind (α := ByteArray) (HM.call1 Tryd.prog (.one .str) 129 #[.slice p1.a p1.len p1.cap]) fun (x9 : ByteArray) =>
  HM.bind (α := Nat) (HM.new (.cells #[.int .i64 x8.1, .string x9, .int .i64 x8.2] 95)) fun (x10 : Nat) =>
  HM.bind (α := Slc) (HM.append 95 3 32 #[.int .i64 0, .string (ByteArray.mk #[]), .int .i64 0] x5.1 1 (srcSlc 3 (⟨some ⟨x10, 0, none⟩, 1, 1⟩))) fun (x11 : Slc) =>
  HM.pure (.inl (x11, ()))) (
  HM.pure (.inr (x5.1, ())))) fun (x7 : Value × Value) =>
  HM.ite true (
  HM.bind (α := Int × Int) (HM.entryM (.one (.int .i64)) (.one (.int .i64)) x3) fun (x12 : Int × Int) =>
  HM.bind (α := ByteArray) (HM.call1 Tryd.prog (.one .str) 129 #[.slice p1.a p1.len p1.cap]) fun (x13 : ByteArray) =>
  HM.bind (α := Nat) (HM.new (.cells #[.int .i64 x12.1, .string x13, .int .i64 x12.2] 95)) fun (x14 : Nat) =>
  HM.bind (α := Slc) (HM.append 95 3 32 #[.int .i64 0, .string (ByteArray.mk #[]), .int .i64 0] x5.1 1 (srcSlc 3 (⟨some ⟨x14, 0, none⟩, 1, 1⟩))) fun (x15 : Slc) =>
  HM.pure (.inl (x15, ()))) (
  HM.pure (.inr (x5.1, ())))) (p2, ())) fun (x4 : Slc × Unit) =>
  HM.pure (x4.1, ())

theorem trie_branch_take_den (p0 : Option Addr) (p1 : Slc) (p2 : Slc) : denFn Tryd.prog [129] 28 [0, 1, 2, 6, 7, 8, 13, 15] [0, 1, 2, 7, 8, 13, 15] Tryd.f104.results.toList [.one .slc] (bodyOf Tryd.f104) [Kind.val (.one .ptr) p0, Kind.val (.one .slc) p1, Kind.val (.one .slc) p2] = trie_branch_take p0 p1 p2 := by kernel_rfl
theorem trie_branch_take_calls (p0 : Option Addr) (p1 : Slc) (p2 : Slc) (h : Heap) (Q : Value → Heap → Prop) (hh : trie_branch_take p0 p1 p2 h fun x h' => Q (.slice x.1.a x.1.len x.1.cap) h') :
    HCalls Tryd.prog 104 #[.pointer p0, .slice p1.a p1.len p1.cap, .slice p2.a p2.len p2.cap] h Q := by
  rw [← trie_branch_take_den] at hh
  exact calls_of_den Tryd.func104 (by kernel_rfl) Tryd.ntmps104 (by kernel_rfl) (fun f hf => by
      rcases List.mem_cons.1 hf with rfl | hf
      · exact Tryd.call129
      cases hf) orders hh

/-- aqueduct/aqueductref07.CheckName -/
def ref07_CheckName (p0 : ByteArray) : HM (Int × Unit) :=
  HM.bind (α := Bool) (HM.call1 Tryd.prog (.one .bool) 125 #[.string p0]) fun (x1 : Bool) =>
  HM.bind (α := Bool) (HM.call1 Tryd.prog (.one .bool) 126 #[.string p0, .int .u8 43]) fun (x2 : Bool) =>
  HM.bind (α := Bool) (HM.call1 Tryd.prog (.one .bool) 126 #[.string p0, .int .u8 35]) fun (x3 : Bool) =>
  HM.bind (α := Bool × Unit) (HM.ite (!x1) (
  HM.pure (true, ())) (
  HM.ite x2 (
  HM.pure (true, ())) (
  HM.pure (x3, ())))) fun (x4 : Bool × Unit) =>
  HM.ite x4.1 (
  HM.pure (144, ())) (
  HM.pure (0, ()))

theorem ref07_CheckName_den (p0 : ByteArray) : denFn Tryd.prog [125, 126] 20 [0, 2, 3, 4, 5, 19] [0, 3, 4, 5, 19] Tryd.f109.results.toList [.one (.int .i64)] (bodyOf Tryd.f109) [Kind.val (.one .str) p0] = ref07_CheckName p0 := by kernel_rfl
theorem ref07_CheckName_calls (p0 : ByteArray) (h : Heap) (Q : Value → Heap → Prop) (hh : ref07_CheckName p0 h fun x h' => Q (.int .i64 x.1) h') :
    HCalls Tryd.prog 109 #[.string p0] h Q := by
  rw [← ref07_CheckName_den] at hh
  exact calls_of_den Tryd.func109 (by kernel_rfl) Tryd.ntmps109 (by kernel_rfl) (fun f hf => by
      rcases List.mem_cons.1 hf with rfl | hf
      · exact Tryd.call125
      rcases List.mem_cons.1 hf with rfl | hf
      · exact Tryd.call126
      cases hf) orders hh

/-- aqueduct/aqueductref07.Levels -/
def ref07_Levels (p0 : ByteArray) : HM (Slc × Unit) :=
  HM.bind (α := Slc × ByteArray × Int × Unit) (HM.loop (σ := Slc × ByteArray × Int × Unit) (τ := Slc × ByteArray × Int × Unit) (fun (x2 : Slc × ByteArray × Int × Unit) =>
  HM.ite (decide (x2.2.2.1 < (((ByteArray.size p0 : Nat) : Int) : Int))) (
  HM.bind (α := Slc × ByteArray × Unit) (HM.bind (α := Int) (HM.strIdx p0 x2.2.2.1) fun (x4 : Int) =>
  HM.ite (x4 == 47) (
  HM.bind (α := Nat) (HM.new (.cells #[.string x2.2.1] 9)) fun (x5 : Nat) =>
  HM.bind (α := Slc) (HM.append 9 1 16 #[.string (ByteArray.mk #[])] x2.1 1 (srcSlc 1 (⟨some ⟨x5, 0, none⟩, 1, 1⟩))) fun (x6 : Slc) =>
  HM.pure (x6, ByteArray.mk #[], ())) (
  HM.bind (α := ByteArray) (HM.substr p0 (some x2.2.2.1) (some (IntKind.wrap .i64 (x2.2.2.1 + 1)))) fun (x7 : ByteArray) =>
  HM.req (ByteArray.size x2.2.1 + ByteArray.size x7 ≤ 9223372036854775807) <|
  HM.pure (x2.1, x2.2.1 ++ x7, ()))) fun (x3 : Slc × ByteArray × Unit) =>
  HM.pure (.inl (x3.1, x3.2.1, IntKind.wrap .i64 (x2.2.2.1 + 1), ()))) (
  HM.pure (.inr (x2.1, x2.2.1, x2.2.2.1, ())))) (⟨none, 0, 0⟩, ByteArray.mk #[], 0, ())) fun (x1 : Slc × ByteArray × Int × Unit) =>
  HM.bind (α := Nat) (HM.new (.cells #[.string x1.2.1] 9)) fun (x8 : Nat) =>
  HM.bind (α := Slc) (HM.append 9 1 16 #[.string (ByteArray.mk #[])] x1.1 1 (srcSlc 1 (⟨some ⟨x8, 0, none⟩, 1, 1⟩))) fun (x9 : Slc) =>
  HM.pure (x9, ())

theorem ref07_Levels_den (p0 : ByteArray) : denFn Tryd.prog [] 31 [0, 2, 3, 4, 5, 9, 15] [0, 3, 4, 5, 9, 15] Tryd.f110.results.toList [.one .slc] (bodyOf Tryd.f110) [Kind.val (.one .str) p0] = ref07_Levels p0 := by kernel_rfl
theorem ref07_Levels_calls (p0 : ByteArray) (h : Heap) (Q : Value → Heap → Prop) (hh : ref07_Levels p0 h fun x h' => Q (.slice x.1.a x.1.len x.1.cap) h') :
    HCalls Tryd.prog 110 #[.string p0] h Q := by
  rw [← ref07_Levels_den] at hh
  exact calls_of_den Tryd.func110 (by kernel_rfl) Tryd.ntmps110 (by kernel_rfl) (fun f hf => by cases hf) orders hh

/-- aqueduct/aqueductref07.sized -/
def ref07_sized (p0 : ByteArray) : HM (Bool × Unit) :=
  HM.bind (α := Int × Bool × Unit) (HM.callN Tryd.prog [.one (.int .i64), .one .bool] 160 #[.string p0]) fun (x1 : Int × Bool × Unit) =>
  HM.bind (α := Bool × Unit) (HM.ite x1.2.1 (
  HM.pure (true, ())) (
  HM.ite (((ByteArray.size p0 : Nat) : Int) == 0) (
  HM.pure (true, ())) (
  HM.pure (decide (256 < (((ByteArray.size p0 : Nat) : Int) : Int)), ())))) fun (x2 : Bool × Unit) =>
  HM.ite x2.1 (
  HM.pure (false, ())) (
  HM.bind (α := Slc) (HM.call1 Tryd.prog (.one .slc) 110 #[.string p0]) fun (x3 : Slc) =>
  HM.pure (decide (((x3.len : Nat) : Int) ≤ (32 : Int)), ()))

theorem ref07_sized_den (p0 : ByteArray) : denFn Tryd.prog [160, 110] 27 [0, 2, 4, 5, 21] [0, 4, 5, 21] Tryd.f125.results.toList [.one .bool] (bodyOf Tryd.f125) [Kind.val (.one .str) p0] = ref07_sized p0 := by kernel_rfl
theorem ref07_sized_calls (p0 : ByteArray) (h : Heap) (Q : Value → Heap → Prop) (hh : ref07_sized p0 h fun x h' => Q (.bool x.1) h') :
    HCalls Tryd.prog 125 #[.string p0] h Q := by
  rw [← ref07_sized_den] at hh
  exact calls_of_den Tryd.func125 (by kernel_rfl) Tryd.ntmps125 (by kernel_rfl) (fun f hf => by
      rcases List.mem_cons.1 hf with rfl | hf
      · exact Tryd.call160
      rcases List.mem_cons.1 hf with rfl | hf
      · exact Tryd.call110
      cases hf) orders hh

/-- aqueduct/aqueductref07.has -/
def ref07_has (p0 : ByteArray) (p1 : Int) : HM (Bool × Unit) :=
  HM.bind (α := (Int × Unit) ⊕ (Bool × Unit)) (HM.loop (σ := Int × Unit) (τ := (Int × Unit) ⊕ (Bool × Unit)) (fun (x2 : Int × Unit) =>
  HM.ite (decide (x2.1 < (((ByteArray.size p0 : Nat) : Int) : Int))) (
  HM.bind (α := Int) (HM.strIdx p0 x2.1) fun (x3 : Int) =>
  HM.ite (x3 == p1) (
  HM.pure (.inr (.inr (true, ())))) (
  HM.pure (.inl (IntKind.wrap .i64 (x2.1 + 1), ())))) (
  HM.pure (.inr (.inl (x2.1, ()))))) (0, ())) (Sum.elim (fun (x1 : Int × Unit) =>
  HM.pure (false, ())) HM.pure)

theorem ref07_has_den (p0 : ByteArray) (p1 : Int) : denFn Tryd.prog [] 17 [0, 1, 4, 5, 9, 16] [0, 1, 5, 9, 16] Tryd.f126.results.toList [.one .bool] (bodyOf Tryd.f126) [Kind.val (.one .str) p0, Kind.val (.one (.int .u8)) p1] = ref07_has p0 p1 := by kernel_rfl
theorem ref07_has_calls (p0 : ByteArray) (p1 : Int) (h : Heap) (Q : Value → Heap → Prop) (hh : ref07_has p0 p1 h fun x h' => Q (.bool x.1) h') :
    HCalls Tryd.prog 126 #[.string p0, .int .u8 p1] h Q := by
  rw [← ref07_has_den] at hh
  exact calls_of_den Tryd.func126 (by kernel_rfl) Tryd.ntmps126 (by kernel_rfl) (fun f hf => by cases hf) orders hh

/-- aqueduct/topic.Join -/
def topic_Join (p0 : Slc) : HM (ByteArray × Unit) :=
  HM.bind (α := ByteArray) (HM.call1 Tryd.prog (.one .str) 88 #[.slice p0.a p0.len p0.cap, .string (ByteArray.mk #[47])]) fun (x1 : ByteArray) =>
  HM.pure (x1, ())

theorem topic_Join_den (p0 : Slc) : denFn Tryd.prog [88] 5 [0, 2] [0] Tryd.f129.results.toList [.one .str] (bodyOf Tryd.f129) [Kind.val (.one .slc) p0] = topic_Join p0 := by kernel_rfl
theorem topic_Join_calls (p0 : Slc) (h : Heap) (Q : Value → Heap → Prop) (hh : topic_Join p0 h fun x h' => Q (.string x.1) h') :
    HCalls Tryd.prog 129 #[.slice p0.a p0.len p0.cap] h Q := by
  rw [← topic_Join_den] at hh
  exact calls_of_den Tryd.func129 (by kernel_rfl) Tryd.ntmps129 (by kernel_rfl) (fun f hf => by
      rcases List.mem_cons.1 hf with rfl | hf
      · exact Tryd.call88
      cases hf) orders hh

/-- aqueduct/aqueductref02.Fault -/
def ref02_Fault (p0 : ByteArray) : HM (Int × Bool × Unit) :=
  HM.bind (α := (Int × Unit) ⊕ (Int × Bool × Unit)) (HM.loop (σ := Int × Unit) (τ := (Int × Unit) ⊕ (Int × Bool × Unit)) (fun (x2 : Int × Unit) =>
  HM.ite (decide (x2.1 < (((ByteArray.size p0 : Nat) : Int) : Int))) (
  HM.bind (α := Int) (HM.call1 Tryd.prog (.one (.int .i64)) 190 #[.string p0, .int .i64 x2.1]) fun (x3 : Int) =>
  HM.ite (x3 == 0) (
  HM.pure (.inr (.inr (x2.1, true, ())))) (
  HM.pure (.inl (IntKind.wrap .i64 (x2.1 + x3), ())))) (
  HM.pure (.inr (.inl (x2.1, ()))))) (0, ())) (Sum.elim (fun (x1 : Int × Unit) =>
  HM.pure (0, false, ())) HM.pure)

theorem ref02_Fault_den (p0 : ByteArray) : denFn Tryd.prog [190] 19 [0, 2, 3, 4, 5, 9, 14] [0, 4, 5, 9, 14] Tryd.f160.results.toList [.one (.int .i64), .one .bool] (bodyOf Tryd.f160) [Kind.val (.one .str) p0] = ref02_Fault p0 := by kernel_rfl
theorem ref02_Fault_calls (p0 : ByteArray) (h : Heap) (Q : Value → Heap → Prop) (hh : ref02_Fault p0 h fun x h' => Q (.tuple #[.int .i64 x.1, .bool x.2.1]) h') :
    HCalls Tryd.prog 160 #[.string p0] h Q := by
  rw [← ref02_Fault_den] at hh
  exact calls_of_den Tryd.func160 (by kernel_rfl) Tryd.ntmps160 (by kernel_rfl) (fun f hf => by
      rcases List.mem_cons.1 hf with rfl | hf
      · exact Tryd.call190
      cases hf) orders hh

/-- aqueduct/aqueductref02.Char -/
def ref02_Char (p0 : ByteArray) (p1 : Int) : HM (Int × Unit) :=
  HM.bind (α := Int) (HM.strIdx p0 p1) fun (x1 : Int) =>
  HM.bind (α := Bool × Unit) (HM.ite (decide (1 ≤ ((IntKind.wrap .i64 x1) : Int))) (
  HM.pure (decide ((IntKind.wrap .i64 x1) ≤ (127 : Int)), ())) (
  HM.pure (false, ()))) fun (x2 : Bool × Unit) =>
  HM.ite x2.1 (
  HM.pure (1, ())) (
  HM.bind (α := Bool) (HM.call1 Tryd.prog (.one .bool) 204 #[.string p0, .int .i64 (IntKind.wrap .i64 (p1 + 1)), .int .i64 128, .int .i64 191]) fun (x3 : Bool) =>
  HM.bind (α := Bool) (HM.call1 Tryd.prog (.one .bool) 204 #[.string p0, .int .i64 (IntKind.wrap .i64 (p1 + 2)), .int .i64 128, .int .i64 191]) fun (x4 : Bool) =>
  HM.bind (α := Bool) (HM.call1 Tryd.prog (.one .bool) 204 #[.string p0, .int .i64 (IntKind.wrap .i64 (p1 + 3)), .int .i64 128, .int .i64 191]) fun (x5 : Bool) =>
  HM.bind (α := Bool × Unit) (HM.ite (decide (194 ≤ ((IntKind.wrap .i64 x1) : Int))) (
  HM.ite (decide ((IntKind.wrap .i64 x1) ≤ (223 : Int))) (
  HM.pure (x3, ())) (
  HM.pure (false, ()))) (
  HM.pure (false, ()))) fun (x6 : Bool × Unit) =>
  HM.ite x6.1 (
  HM.pure (2, ())) (
  HM.bind (α := Bool × Unit) (HM.ite (decide (224 ≤ ((IntKind.wrap .i64 x1) : Int))) (
  HM.ite (decide ((IntKind.wrap .i64 x1) ≤ (239 : Int))) (
  HM.ite x3 (
  HM.pure (x4, ())) (
  HM.pure (false, ()))) (
  HM.pure (false, ()))) (
  HM.pure (false, ()))) fun (x7 : Bool × Unit) =>
  HM.ite x7.1 (
  HM.bind (α := Bool) (HM.call1 Tryd.prog (.one .bool) 204 #[.string p0, .int .i64 (IntKind.wrap .i64 (p1 + 1)), .int .i64 160, .int .i64 191]) fun (x8 : Bool) =>
  HM.bind (α := Bool) (HM.call1 Tryd.prog (.one .bool) 204 #[.string p0, .int .i64 (IntKind.wrap .i64 (p1 + 1)), .int .i64 128, .int .i64 159]) fun (x9 : Bool) =>
  HM.bind (α := Bool × Unit) (HM.ite ((IntKind.wrap .i64 x1) == 224) (
  HM.ite (!x8) (
  HM.pure (true, ())) (
  HM.ite ((IntKind.wrap .i64 x1) == 237) (
  HM.pure (!x9, ())) (
  HM.pure (false, ())))) (
  HM.ite ((IntKind.wrap .i64 x1) == 237) (
  HM.pure (!x9, ())) (
  HM.pure (false, ())))) fun (x10 : Bool × Unit) =>
  HM.ite x10.1 (
  HM.pure (0, ())) (
  HM.pure (3, ()))) (
  HM.bind (α := Bool × Unit) (HM.ite (decide (240 ≤ ((IntKind.wrap .i64 x1) : Int))) (
  HM.ite (decide ((IntKind.wrap .i64 x1) ≤ (244 : Int))) (
  HM.ite x3 (
  HM.ite x4 (
  HM.pure (x5, ())) (
  HM.pure (false, ()))) (
  HM.pure (false, ()))) (
  HM.pure (false, ()))) (
  HM.pure (false, ()))) fun (x11 : Bool × Unit) =>
  HM.ite x11.1 (
  HM.bind (α := Bool) (HM.call1 Tryd.prog (.one .bool) 204 #[.string p0, .int .i64 (IntKind.wrap .i64 (p1 + 1)), .int .i64 144, .int .i64 191]) fun (x12 : Bool) =>
  HM.bind (α := Bool) (HM.call1 Tryd.prog (.one .bool) 204 #[.string p0, .int .i64 (IntKind.wrap .i64 (p1 + 1)), .int .i64 128, .int .i64 143]) fun (x13 : Bool) =>
  HM.bind (α := Bool × Unit) (HM.ite ((IntKind.wrap .i64 x1) == 240) (
  HM.ite (!x12) (
  HM.pure (true, ())) (
  HM.ite ((IntKind.wrap .i64 x1) == 244) (
  HM.pure (!x13, ())) (
  HM.pure (false, ())))) (
  HM.ite ((IntKind.wrap .i64 x1) == 244) (
  HM.pure (!x13, ())) (
  HM.pure (false, ())))) fun (x14 : Bool × Unit) =>
  HM.ite x14.1 (
  HM.pure (0, ())) (
  HM.pure (4, ()))) (
  HM.pure (0, ())))))

theorem ref02_Char_den (p0 : ByteArray) (p1 : Int) : denFn Tryd.prog [204] 115 [0, 1, 4, 5, 6, 7, 8, 9, 10, 11, 12, 22, 43, 55, 77, 92, 114] [0, 1, 5, 6, 7, 8, 9, 10, 11, 12, 22, 43, 55, 77, 92, 114] Tryd.f190.results.toList [.one (.int .i64)] (bodyOf Tryd.f190) [Kind.val (.one .str) p0, Kind.val (.one (.int .i64)) p1] = ref02_Char p0 p1 := by kernel_rfl
theorem ref02_Char_calls (p0 : ByteArray) (p1 : Int) (h : Heap) (Q : Value → Heap → Prop) (hh : ref02_Char p0 p1 h fun x h' => Q (.int .i64 x.1) h') :
    HCalls Tryd.prog 190 #[.string p0, .int .i64 p1] h Q := by
  rw [← ref02_Char_den] at hh
  exact calls_of_den Tryd.func190 (by kernel_rfl) Tryd.ntmps190 (by kernel_rfl) (fun f hf => by
      rcases List.mem_cons.1 hf with rfl | hf
      · exact Tryd.call204
      cases hf) orders hh

/-- aqueduct/aqueductref02.tail -/
def ref02_tail (p0 : ByteArray) (p1 : Int) (p2 : Int) (p3 : Int) : HM (Bool × Unit) :=
  HM.bind (α := Bool × Unit) (HM.ite (decide (p1 < (((ByteArray.size p0 : Nat) : Int) : Int))) (
  HM.bind (α := Int) (HM.strIdx p0 p1) fun (x1 : Int) =>
  HM.ite (decide (p2 ≤ ((IntKind.wrap .i64 x1) : Int))) (
  HM.bind (α := Int) (HM.strIdx p0 p1) fun (x2 : Int) =>
  HM.pure (decide ((IntKind.wrap .i64 x2) ≤ (p3 : Int)), ())) (
  HM.pure (false, ()))) (
  HM.pure (false, ()))) fun (x3 : Bool × Unit) =>
  HM.pure (x3.1, ())

theorem ref02_tail_den (p0 : ByteArray) (p1 : Int) (p2 : Int) (p3 : Int) : denFn Tryd.prog [] 29 [0, 1, 2, 3, 8] [0, 1, 2, 3] Tryd.f204.results.toList [.one .bool] (bodyOf Tryd.f204) [Kind.val (.one .str) p0, Kind.val (.one (.int .i64)) p1, Kind.val (.one (.int .i64)) p2, Kind.val (.one (.int .i64)) p3] = ref02_tail p0 p1 p2 p3 := by kernel_rfl
theorem ref02_tail_calls (p0 : ByteArray) (p1 : Int) (p2 : Int) (p3 : Int) (h : Heap) (Q : Value → Heap → Prop) (hh : ref02_tail p0 p1 p2 p3 h fun x h' => Q (.bool x.1) h') :
    HCalls Tryd.prog 204 #[.string p0, .int .i64 p1, .int .i64 p2, .int .i64 p3] h Q := by
  rw [← ref02_tail_den] at hh
  exact calls_of_den Tryd.func204 (by kernel_rfl) Tryd.ntmps204 (by kernel_rfl) (fun f hf => by cases hf) orders hh

end Go.Proofs.YtnmighfcpeifeaaDoor
