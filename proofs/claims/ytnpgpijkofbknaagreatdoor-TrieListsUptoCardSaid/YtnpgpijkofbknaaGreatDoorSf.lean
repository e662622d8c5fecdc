/-
  The shallow forms of functions of the program, written by gen.py; each is held against the program by the kernel.
-/
import Derived.Test.YtnpgpijkofbknaaGreatDoorHA
import Derived.Test.YtnpgpijkofbknaaGreatDoorProg
import Derived.KernelRfl
namespace Go.Proofs.YtnpgpijkofbknaaGreatDoor
open Go.H Go.Proofs
set_option linter.unusedVariables false
set_option linter.unusedSimpArgs false
set_option maxRecDepth 100000
set_option maxHeartbeats 4000000

theorem orders : Tryz.prog.follows .mixedOrders = true := by kernel_rfl
theorem CN {P : Program} : ∀ f, f ∈ ([] : List Nat) → CallOK P f := fun f hf => by cases hf
theorem CC {P : Program} {a : Nat} {l : List Nat} (h : CallOK P a) (hl : ∀ f, f ∈ l → CallOK P f) : ∀ f, f ∈ a :: l → CallOK P f := fun f hf => by
  rcases List.mem_cons.1 hf with rfl | hf
  · exact h
  · exact hl f hf

/-- aqueduct/aqueductlaw09.TrieLists -/
def law09_TrieLists (p0 : Slc) (p1 : Int) : HM (Bool × Unit) :=
  HM.bind (α := Option Addr × Option Addr × Bool × Unit) (HM.callN Tryz.prog [.one .ptr, .one .ptr, .one .bool] 5 #[.slice p0.a p0.len p0.cap]) fun x1 =>
  HM.bind (α := Bool × Unit) (HM.bind (α := Bool) (HM.call1 Tryz.prog (.one .bool) 6 #[]) fun x2 =>
  HM.ite (!x2) (
  HM.pure (true, ())) (
  HM.ite (!x1.2.2.1) (
  HM.pure (true, ())) (
  HM.bind (α := Slc) (HM.call1 Tryz.prog (.one .slc) 8 #[.pointer x1.1, .int .i64 p1]) fun x3 =>
  HM.bind (α := Slc) (HM.call1 Tryz.prog (.one .slc) 9 #[.pointer x1.2.1, .int .i64 p1]) fun x4 =>
  HM.bind (α := Bool) (HM.call1 Tryz.prog (.one .bool) 7 #[.slice x3.a x3.len x3.cap, .slice x4.a x4.len x4.cap]) fun x5 =>
  HM.pure (!x5, ())))) fun x6 =>
  HM.ite x6.1 (
  HM.pure (false, ())) (
  HM.bind (α := Slc) (HM.slice p0 none (some (if 20 < (((p0.len : Nat) : Int) : Int) then 20 else ((p0.len : Nat) : Int))) none 4) fun x7 =>
  HM.bind (α := (Int × Unit) ⊕ (Bool × Unit)) (HM.loop (σ := Int × Unit) (τ := (Int × Unit) ⊕ (Bool × Unit)) (fun x9 =>
  HM.ite (decide (x9.1 < (((x7.len : Nat) : Int) : Int))) (
  HM.bind (α := Addr) (HM.idx x7.a x7.len x9.1 4) fun x10 =>
  HM.bind (α := Int × Int × ByteArray × Int × Unit) (HM.loadN [.int .i64, .int .i64, .str, .int .i64] x10) fun x11 =>
  HM.bind (α := Nat) (HM.new (.cells #[.int .i64 0, .int .i64 0, .string (ByteArray.mk #[]), .int .i64 0] 36)) fun x12 =>
  HM.bind (α := Unit) (HM.storeN ⟨x12, 0, none⟩ [.int .i64 x11.1, .int .i64 x11.2.1, .string x11.2.2.1, .int .i64 x11.2.2.2.1]) fun _ =>
  HM.bind (α := Int) (HM.load1 (.int .i64) (Addr.add (Addr.add ⟨x12, 0, none⟩ 1) 0)) fun x13 =>
  HM.bind (α := Int) (HM.load1 (.int .i64) (Addr.add (Addr.add ⟨x12, 0, none⟩ 1) 0)) fun x14 =>
  HM.bind (α := Slc) (HM.call1 Tryz.prog (.one .slc) 8 #[.pointer x1.1, .int .i64 x13]) fun x15 =>
  HM.bind (α := Int) (HM.load1 (.int .i64) (Addr.add (Addr.add ⟨x12, 0, none⟩ 1) 0)) fun x16 =>
  HM.req ((.int .i64 x16 : Value) = .int .i64 x14) <|
  HM.bind (α := Slc) (HM.call1 Tryz.prog (.one .slc) 9 #[.pointer x1.2.1, .int .i64 x14]) fun x17 =>
  HM.bind (α := Bool) (HM.call1 Tryz.prog (.one .bool) 7 #[.slice x15.a x15.len x15.cap, .slice x17.a x17.len x17.cap]) fun x18 =>
  HM.ite (!x18) (
  HM.pure (.inr (.inr (false, ())))) (
  HM.pure (.inl (IntKind.wrap .i64 (x9.1 + 1), ())))) (
  HM.pure (.inr (.inl (x9.1, ()))))) (0, ())) (Sum.elim (fun x8 =>
  HM.bind (α := Slc) (HM.call1 Tryz.prog (.one .slc) 10 #[.pointer x1.1]) fun x19 =>
  HM.bind (α := Slc) (HM.call1 Tryz.prog (.one .slc) 11 #[.pointer x1.2.1]) fun x20 =>
  HM.ite (!(((x19.len : Nat) : Int) == ((x20.len : Nat) : Int))) (
  HM.pure (false, ())) (
  HM.bind (α := (Int × Unit) ⊕ (Bool × Unit)) (HM.loop (σ := Int × Unit) (τ := (Int × Unit) ⊕ (Bool × Unit)) (fun x22 =>
  HM.ite (decide (x22.1 < (((x19.len : Nat) : Int) : Int))) (
  HM.bind (α := Addr) (HM.idx x19.a x19.len x22.1 1) fun x23 =>
  HM.bind (α := ByteArray) (HM.load1 .str x23) fun x24 =>
  HM.bind (α := Addr) (HM.idx x20.a x20.len x22.1 1) fun x25 =>
  HM.bind (α := ByteArray) (HM.load1 .str x25) fun x26 =>
  HM.ite (!(decide (x24 = x26))) (
  HM.pure (.inr (.inr (false, ())))) (
  HM.pure (.inl (IntKind.wrap .i64 (x22.1 + 1), ())))) (
  HM.pure (.inr (.inl (x22.1, ()))))) (0, ())) (Sum.elim (fun x21 =>
  HM.pure (true, ())) HM.pure))) HM.pure))

theorem law09_TrieLists_den (p0 : Slc) (p1 : Int) : denFn Tryz.prog [5, 6, 8, 9, 7, 10, 11] 82 [0, 1, 4, 5, 6, 7, 9, 10, 11, 12, 34, 39, 40, 41, 42, 56, 66, 68, 69, 70, 80] [0, 1, 5, 6, 7, 9, 10, 11, 12, 34, 39, 40, 41, 42, 56, 66, 68, 69, 70, 80] Tryz.f3.results.toList [.one .bool] (bodyOf Tryz.f3) [Kind.val (.one .slc) p0, Kind.val (.one (.int .i64)) p1] = law09_TrieLists p0 p1 := by kernel_rfl
theorem law09_TrieLists_calls (p0 : Slc) (p1 : Int) (h : Heap) (Q : Value → Heap → Prop) (hh : law09_TrieLists p0 p1 h fun x h' => Q (.bool x.1) h') :
    HCalls Tryz.prog 3 #[.slice p0.a p0.len p0.cap, .int .i64 p1] h Q := by
  rw [← law09_TrieLists_den] at hh
  exact calls_of_den Tryz.func3 (by kernel_rfl) Tryz.ntmps3 (by kernel_rfl) (CC Tryz.call5 (CC Tryz.call6 (CC Tryz.call8 (CC Tryz.call9 (CC Tryz.call7 (CC Tryz.call10 (CC Tryz.call11 CN))))))) orders hh

/-- aqueduct/aqueductlaw09.TrieForgets -/
def law09_TrieForgets (p0 : Slc) (p1 : Int × ByteArray × Int × Unit) (p2 : Slc) : HM (Bool × Unit) :=
  HM.bind (α := Nat) (HM.new (.cells #[.int .i64 p1.1, .string p1.2.1, .int .i64 p1.2.2.1] 34)) fun x1 =>
  HM.bind (α := Option Addr × Option Addr × Bool × Unit) (HM.callN Tryz.prog [.one .ptr, .one .ptr, .one .bool] 5 #[.slice p0.a p0.len p0.cap]) fun x2 =>
  HM.bind (α := Int) (HM.load1 (.int .i64) (Addr.add ⟨x1, 0, none⟩ 0)) fun x3 =>
  HM.bind (α := Slc) (HM.call1 Tryz.prog (.one .slc) 8 #[.pointer x2.1, .int .i64 x3]) fun x4 =>
  HM.bind (α := (Int × Unit) ⊕ (Bool × Unit)) (HM.loop (σ := Int × Unit) (τ := (Int × Unit) ⊕ (Bool × Unit)) (fun x6 =>
  HM.ite (decide (x6.1 < (((x4.len : Nat) : Int) : Int))) (
  HM.bind (α := Addr) (HM.idx x4.a x4.len x6.1 3) fun x7 =>
  HM.bind (α := Int × ByteArray × Int × Unit) (HM.loadN [.int .i64, .str, .int .i64] x7) fun x8 =>
  HM.bind (α := Nat) (HM.new (.cells #[.int .i64 0, .string (ByteArray.mk #[]), .int .i64 0] 41)) fun x9 =>
  HM.bind (α := Unit) (HM.storeN ⟨x9, 0, none⟩ [.int .i64 x8.1, .string x8.2.1, .int .i64 x8.2.2.1]) fun _ =>
  HM.bind (α := ByteArray) (HM.load1 .str (Addr.add ⟨x9, 0, none⟩ 1)) fun x10 =>
  HM.bind (α := ByteArray) (HM.load1 .str (Addr.add ⟨x1, 0, none⟩ 1)) fun x11 =>
  HM.ite (decide (x10 = x11)) (
  HM.bind (α := Bool) (HM.call1 Tryz.prog (.one .bool) 6 #[]) fun x12 =>
  HM.pure (.inr (.inr (x12, ())))) (
  HM.pure (.inl (IntKind.wrap .i64 (x6.1 + 1), ())))) (
  HM.pure (.inr (.inl (x6.1, ()))))) (0, ())) (Sum.elim (fun x5 =>
  HM.bind (α := Slc) (HM.call1 Tryz.prog (.one .slc) 10 #[.pointer x2.1]) fun x13 =>
  HM.bind (α := Slc) (HM.slice p2 none (some (if 10 < (((p2.len : Nat) : Int) : Int) then 10 else ((p2.len : Nat) : Int))) none 1) fun x14 =>
  HM.bind (α := Slc × Int × Unit) (HM.loop (σ := Slc × Int × Unit) (τ := Slc × Int × Unit) (fun x16 =>
  HM.ite (decide (x16.2.1 < (((x14.len : Nat) : Int) : Int))) (
  HM.bind (α := Addr) (HM.idx x14.a x14.len x16.2.1 1) fun x17 =>
  HM.bind (α := ByteArray) (HM.load1 .str x17) fun x18 =>
  HM.bind (α := Slc) (HM.call1 Tryz.prog (.one .slc) 12 #[.pointer x2.1, .string x18]) fun x19 =>
  HM.bind (α := Nat) (HM.new (.cells #[.slice x19.a x19.len x19.cap] 29)) fun x20 =>
  HM.bind (α := Slc) (HM.append 29 1 24 #[.slice none 0 0] x16.1 1 (srcSlc 1 (⟨some ⟨x20, 0, none⟩, 1, 1⟩))) fun x21 =>
  HM.pure (.inl (x21, IntKind.wrap .i64 (x16.2.1 + 1), ()))) (
  HM.pure (.inr (x16.1, x16.2.1, ())))) (⟨none, 0, 0⟩, 0, ())) fun x15 =>
  HM.bind (α := Int × ByteArray × Int × Unit) (HM.loadN [.int .i64, .str, .int .i64] ⟨x1, 0, none⟩) fun x22 =>
  HM.bind (α := Int) (HM.call1 Tryz.prog (.one (.int .u8)) 13 #[.pointer x2.1, .agg #[.int .i64 x22.1, .string x22.2.1, .int .i64 x22.2.2.1]]) fun x23 =>
  HM.bind (α := Bool × Unit) (HM.bind (α := Bool) (HM.call1 Tryz.prog (.one .bool) 6 #[]) fun x24 =>
  HM.ite (!x24) (
  HM.pure (true, ())) (
  HM.bind (α := Int) (HM.load1 (.int .i64) (Addr.add ⟨x1, 0, none⟩ 0)) fun x25 =>
  HM.bind (α := ByteArray) (HM.load1 .str (Addr.add ⟨x1, 0, none⟩ 1)) fun x26 =>
  HM.bind (α := Bool) (HM.call1 Tryz.prog (.one .bool) 14 #[.pointer x2.1, .int .i64 x25, .string x26]) fun x27 =>
  HM.ite (!(x27 == (x23 == 0))) (
  HM.pure (true, ())) (
  HM.bind (α := Slc) (HM.call1 Tryz.prog (.one .slc) 10 #[.pointer x2.1]) fun x28 =>
  HM.pure (!(((x28.len : Nat) : Int) == ((x13.len : Nat) : Int)), ())))) fun x29 =>
  HM.ite x29.1 (
  HM.pure (false, ())) (
  HM.bind (α := (Int × Unit) ⊕ (Bool × Unit)) (HM.loop (σ := Int × Unit) (τ := (Int × Unit) ⊕ (Bool × Unit)) (fun x31 =>
  HM.ite (decide (x31.1 < (((x14.len : Nat) : Int) : Int))) (
  HM.bind (α := Addr) (HM.idx x14.a x14.len x31.1 1) fun x32 =>
  HM.bind (α := ByteArray) (HM.load1 .str x32) fun x33 =>
  HM.bind (α := Slc) (HM.call1 Tryz.prog (.one .slc) 12 #[.pointer x2.1, .string x33]) fun x34 =>
  HM.bind (α := Addr) (HM.idx x15.1.a x15.1.len x31.1 1) fun x35 =>
  HM.bind (α := Slc) (HM.load1 .slc x35) fun x36 =>
  HM.ite (!(((x34.len : Nat) : Int) == ((x36.len : Nat) : Int))) (
  HM.pure (.inr (.inr (false, ())))) (
  HM.bind (α := (Int × Unit) ⊕ ((Int × Unit) ⊕ ((Int × Unit) ⊕ (Bool × Unit)))) (HM.loop (σ := Int × Unit) (τ := (Int × Unit) ⊕ ((Int × Unit) ⊕ ((Int × Unit) ⊕ (Bool × Unit)))) (fun x38 =>
  HM.ite (decide (x38.1 < (((x34.len : Nat) : Int) : Int))) (
  HM.bind (α := Addr) (HM.idx x34.a x34.len x38.1 3) fun x39 =>
  HM.bind (α := Int × ByteArray × Int × Unit) (HM.loadN [.int .i64, .str, .int .i64] x39) fun x40 =>
  HM.bind (α := Addr) (HM.idx x15.1.a x15.1.len x31.1 1) fun x41 =>
  HM.bind (α := Slc) (HM.load1 .slc x41) fun x42 =>
  HM.bind (α := Addr) (HM.idx x42.a x42.len x38.1 3) fun x43 =>
  HM.bind (α := Int × ByteArray × Int × Unit) (HM.loadN [.int .i64, .str, .int .i64] x43) fun x44 =>
  HM.ite (!((x40.1 == x44.1) && ((decide (x40.2.1 = x44.2.1)) && ((x40.2.2.1 == x44.2.2.1) && true)))) (
  HM.pure (.inr (.inr (.inr (.inr (false, ())))))) (
  HM.pure (.inl (IntKind.wrap .i64 (x38.1 + 1), ())))) (
  HM.pure (.inr (.inl (x38.1, ()))))) (0, ())) (Sum.elim (fun x37 =>
  HM.pure (.inl (IntKind.wrap .i64 (x31.1 + 1), ()))) HM.pure))) (
  HM.pure (.inr (.inl (x31.1, ()))))) (0, ())) (Sum.elim (fun x30 =>
  HM.pure (true, ())) HM.pure))) HM.pure)

theorem law09_TrieForgets_den (p0 : Slc) (p1 : Int × ByteArray × Int × Unit) (p2 : Slc) : denFn Tryz.prog [5, 8, 6, 10, 12, 13, 14] 124 [0, 1, 2, 4, 6, 7, 11, 12, 13, 15, 16, 17, 18, 19, 20, 30, 31, 32, 33, 40, 50, 51, 52, 53, 86, 87, 88, 89, 90, 104, 106, 107, 108, 121] [0, 1, 2, 4, 7, 11, 12, 13, 15, 16, 17, 18, 19, 20, 30, 31, 32, 33, 40, 50, 51, 52, 53, 86, 87, 88, 89, 90, 104, 106, 107, 108, 121] Tryz.f4.results.toList [.one .bool] (bodyOf Tryz.f4) [Kind.val (.one .slc) p0, Kind.val (.agg [.int .i64, .str, .int .i64]) p1, Kind.val (.one .slc) p2] = law09_TrieForgets p0 p1 p2 := by kernel_rfl
theorem law09_TrieForgets_calls (p0 : Slc) (p1 : Int × ByteArray × Int × Unit) (p2 : Slc) (h : Heap) (Q : Value → Heap → Prop) (hh : law09_TrieForgets p0 p1 p2 h fun x h' => Q (.bool x.1) h') :
    HCalls Tryz.prog 4 #[.slice p0.a p0.len p0.cap, .agg #[.int .i64 p1.1, .string p1.2.1, .int .i64 p1.2.2.1], .slice p2.a p2.len p2.cap] h Q := by
  rw [← law09_TrieForgets_den] at hh
  exact calls_of_den Tryz.func4 (by kernel_rfl) Tryz.ntmps4 (by kernel_rfl) (CC Tryz.call5 (CC Tryz.call8 (CC Tryz.call6 (CC Tryz.call10 (CC Tryz.call12 (CC Tryz.call13 (CC Tryz.call14 CN))))))) orders hh

/-- aqueduct/aqueductlaw09.run -/
def law09_run (p0 : Slc) : HM (Option Addr × Option Addr × Bool × Unit) :=
  HM.bind (α := Option Addr) (HM.call1 Tryz.prog (.one .ptr) 15 #[]) fun x1 =>
  HM.bind (α := Nat) (HM.new (.cells #[.slice none 0 0] 50)) fun x2 =>
  HM.bind (α := Slc) (HM.slice p0 none (some (if 100 < (((p0.len : Nat) : Int) : Int) then 100 else ((p0.len : Nat) : Int))) none 4) fun x3 =>
  HM.bind (α := Bool × Int × Unit) (HM.loop (σ := Bool × Int × Unit) (τ := Bool × Int × Unit) (fun x5 =>
  HM.ite (decide (x5.2.1 < (((x3.len : Nat) : Int) : Int))) (
  HM.bind (α := Addr) (HM.idx x3.a x3.len x5.2.1 4) fun x6 =>
  HM.bind (α := Int × Int × ByteArray × Int × Unit) (HM.loadN [.int .i64, .int .i64, .str, .int .i64] x6) fun x7 =>
  HM.bind (α := Nat) (HM.new (.cells #[.int .i64 0, .int .i64 0, .string (ByteArray.mk #[]), .int .i64 0] 36)) fun x8 =>
  HM.bind (α := Unit) (HM.storeN ⟨x8, 0, none⟩ [.int .i64 x7.1, .int .i64 x7.2.1, .string x7.2.2.1, .int .i64 x7.2.2.2.1]) fun _ =>
  HM.bind (α := Int) (HM.load1 (.int .i64) (Addr.add ⟨x8, 0, none⟩ 0)) fun x9 =>
  HM.req (5 ≠ (0 : Int)) <|
  HM.bind (α := Bool × Unit) (HM.ite ((Int.tmod x9 5) == 1) (
  HM.pure ((Int.tmod x9 5) == 1, ())) (
  HM.pure ((Int.tmod x9 5) == (-1), ()))) fun x10 =>
  HM.bind (α := Bool × Unit) (HM.ite x10.1 (
  HM.bind (α := Bool × Unit) (HM.ite x5.1 (
  HM.bind (α := Int) (HM.load1 (.int .i64) (Addr.add (Addr.add ⟨x8, 0, none⟩ 1) 0)) fun x12 =>
  HM.bind (α := ByteArray) (HM.load1 .str (Addr.add (Addr.add ⟨x8, 0, none⟩ 1) 1)) fun x13 =>
  HM.bind (α := Int) (HM.load1 (.int .i64) (Addr.add (Addr.add ⟨x8, 0, none⟩ 1) 0)) fun x14 =>
  HM.bind (α := ByteArray) (HM.load1 .str (Addr.add (Addr.add ⟨x8, 0, none⟩ 1) 1)) fun x15 =>
  HM.bind (α := Bool) (HM.call1 Tryz.prog (.one .bool) 14 #[.pointer x1, .int .i64 x12, .string x13]) fun x16 =>
  HM.bind (α := ByteArray) (HM.load1 .str (Addr.add (Addr.add ⟨x8, 0, none⟩ 1) 1)) fun x17 =>
  HM.req ((.string x17 : Value) = .string x15) <|
  HM.bind (α := Int) (HM.load1 (.int .i64) (Addr.add (Addr.add ⟨x8, 0, none⟩ 1) 0)) fun x18 =>
  HM.req ((.int .i64 x18 : Value) = .int .i64 x14) <|
  HM.bind (α := Bool) (HM.call1 Tryz.prog (.one .bool) 16 #[.pointer (some ⟨x2, 0, none⟩), .int .i64 x14, .string x15]) fun x19 =>
  HM.pure (x16 == x19, ())) (
  HM.pure (false, ()))) fun x20 =>
  HM.pure (x20.1, ())) (
  HM.bind (α := Bool × Unit) (HM.ite ((Int.tmod x9 5) == 2) (
  HM.pure ((Int.tmod x9 5) == 2, ())) (
  HM.pure ((Int.tmod x9 5) == (-2), ()))) fun x21 =>
  HM.bind (α := Bool × Unit) (HM.ite x21.1 (
  HM.bind (α := Bool × Unit) (HM.ite x5.1 (
  HM.bind (α := Int) (HM.load1 (.int .i64) (Addr.add (Addr.add ⟨x8, 0, none⟩ 1) 0)) fun x23 =>
  HM.bind (α := Int) (HM.load1 (.int .i64) (Addr.add (Addr.add ⟨x8, 0, none⟩ 1) 0)) fun x24 =>
  HM.bind (α := Int) (HM.call1 Tryz.prog (.one (.int .i64)) 17 #[.pointer x1, .int .i64 x23]) fun x25 =>
  HM.bind (α := Int) (HM.load1 (.int .i64) (Addr.add (Addr.add ⟨x8, 0, none⟩ 1) 0)) fun x26 =>
  HM.req ((.int .i64 x26 : Value) = .int .i64 x24) <|
  HM.bind (α := Int) (HM.call1 Tryz.prog (.one (.int .i64)) 18 #[.pointer (some ⟨x2, 0, none⟩), .int .i64 x24]) fun x27 =>
  HM.pure (x25 == x27, ())) (
  HM.pure (false, ()))) fun x28 =>
  HM.pure (x28.1, ())) (
  HM.bind (α := Bool × Unit) (HM.ite x5.1 (
  HM.bind (α := Int × ByteArray × Int × Unit) (HM.loadN [.int .i64, .str, .int .i64] (Addr.add ⟨x8, 0, none⟩ 1)) fun x29 =>
  HM.bind (α := Int × ByteArray × Int × Unit) (HM.loadN [.int .i64, .str, .int .i64] (Addr.add ⟨x8, 0, none⟩ 1)) fun x30 =>
  HM.bind (α := Int) (HM.call1 Tryz.prog (.one (.int .u8)) 13 #[.pointer x1, .agg #[.int .i64 x29.1, .string x29.2.1, .int .i64 x29.2.2.1]]) fun x31 =>
  HM.bind (α := Int × ByteArray × Int × Unit) (HM.loadN [.int .i64, .str, .int .i64] (Addr.add ⟨x8, 0, none⟩ 1)) fun x32 =>
  HM.req ((.agg #[.int .i64 x32.1, .string x32.2.1, .int .i64 x32.2.2.1] : Value) = .agg #[.int .i64 x30.1, .string x30.2.1, .int .i64 x30.2.2.1]) <|
  HM.bind (α := Int) (HM.call1 Tryz.prog (.one (.int .i64)) 19 #[.pointer (some ⟨x2, 0, none⟩), .agg #[.int .i64 x30.1, .string x30.2.1, .int .i64 x30.2.2.1]]) fun x33 =>
  HM.pure ((IntKind.wrap .i64 x31) == x33, ())) (
  HM.pure (false, ()))) fun x34 =>
  HM.pure (x34.1, ()))) fun x22 =>
  HM.pure (x22.1, ()))) fun x11 =>
  HM.pure (.inl (x11.1, IntKind.wrap .i64 (x5.2.1 + 1), ()))) (
  HM.pure (.inr (x5.1, x5.2.1, ())))) (true, 0, ())) fun x4 =>
  HM.pure (x1, some ⟨x2, 0, none⟩, x4.1, ())

theorem law09_run_den (p0 : Slc) : denFn Tryz.prog [15, 14, 16, 17, 18, 13, 19] 83 [0, 2, 3, 4, 5, 6, 7, 9, 17, 18, 19, 20, 25, 39, 62] [0, 5, 6, 7, 9, 17, 18, 19, 20, 25, 39, 62] Tryz.f5.results.toList [.one .ptr, .one .ptr, .one .bool] (bodyOf Tryz.f5) [Kind.val (.one .slc) p0] = law09_run p0 := by kernel_rfl
theorem law09_run_calls (p0 : Slc) (h : Heap) (Q : Value → Heap → Prop) (hh : law09_run p0 h fun x h' => Q (.tuple #[.pointer x.1, .pointer x.2.1, .bool x.2.2.1]) h') :
    HCalls Tryz.prog 5 #[.slice p0.a p0.len p0.cap] h Q := by
  rw [← law09_run_den] at hh
  exact calls_of_den Tryz.func5 (by kernel_rfl) Tryz.ntmps5 (by kernel_rfl) (CC Tryz.call15 (CC Tryz.call14 (CC Tryz.call16 (CC Tryz.call17 (CC Tryz.call18 (CC Tryz.call13 (CC Tryz.call19 CN))))))) orders hh

/-- aqueduct/aqueductlaw09.wakes -/
def law09_wakes : HM (Bool × Unit) :=
  HM.bind (α := Option Addr) (HM.call1 Tryz.prog (.one .ptr) 15 #[]) fun x1 =>
  HM.bind (α := Nat) (HM.new (.cells #[.int .i64 1, .string (ByteArray.mk #[97, 47, 43]), .int .i64 0, .int .i64 2, .string (ByteArray.mk #[97, 47, 98]), .int .i64 1, .int .i64 1, .string (ByteArray.mk #[35]), .int .i64 2] 41)) fun x2 =>
  HM.bind (α := (Int × Unit) ⊕ (Bool × Unit)) (HM.loop (σ := Int × Unit) (τ := (Int × Unit) ⊕ (Bool × Unit)) (fun x4 =>
  HM.ite (decide (x4.1 < (((3 : Nat) : Int) : Int))) (
  HM.bind (α := Addr) (HM.idx (some ⟨x2, 0, none⟩) 3 x4.1 3) fun x5 =>
  HM.bind (α := Int × ByteArray × Int × Unit) (HM.loadN [.int .i64, .str, .int .i64] x5) fun x6 =>
  HM.bind (α := Nat) (HM.new (.cells #[.int .i64 0, .string (ByteArray.mk #[]), .int .i64 0] 41)) fun x7 =>
  HM.bind (α := Unit) (HM.storeN ⟨x7, 0, none⟩ [.int .i64 x6.1, .string x6.2.1, .int .i64 x6.2.2.1]) fun _ =>
  HM.bind (α := Int × ByteArray × Int × Unit) (HM.loadN [.int .i64, .str, .int .i64] ⟨x7, 0, none⟩) fun x8 =>
  HM.bind (α := Int) (HM.call1 Tryz.prog (.one (.int .u8)) 13 #[.pointer x1, .agg #[.int .i64 x8.1, .string x8.2.1, .int .i64 x8.2.2.1]]) fun x9 =>
  HM.ite (!(x9 == 0)) (
  HM.pure (.inr (.inr (false, ())))) (
  HM.pure (.inl (IntKind.wrap .i64 (x4.1 + 1), ())))) (
  HM.pure (.inr (.inl (x4.1, ()))))) (0, ())) (Sum.elim (fun x3 =>
  HM.bind (α := Slc) (HM.call1 Tryz.prog (.one .slc) 12 #[.pointer x1, .string (ByteArray.mk #[97, 47, 98])]) fun x10 =>
  HM.bind (α := Bool × Unit) (HM.ite (((x10.len : Nat) : Int) == 3) (
  HM.bind (α := Addr) (HM.idx x10.a x10.len 0 3) fun x11 =>
  HM.bind (α := Int × ByteArray × Int × Unit) (HM.loadN [.int .i64, .str, .int .i64] x11) fun x12 =>
  HM.ite ((x12.1 == 1) && ((decide (x12.2.1 = (ByteArray.mk #[35]))) && ((x12.2.2.1 == 2) && true))) (
  HM.bind (α := Addr) (HM.idx x10.a x10.len 2 3) fun x13 =>
  HM.bind (α := Int) (HM.load1 (.int .i64) (Addr.add x13 0)) fun x14 =>
  HM.pure (x14 == 2, ())) (
  HM.pure (false, ()))) (
  HM.pure (false, ()))) fun x15 =>
  HM.pure (x15.1, ())) HM.pure)

theorem law09_wakes_den : denFn Tryz.prog [15, 13, 12] 39 [0, 1, 3, 4, 9, 10, 11, 12, 18] [1, 3, 4, 9, 10, 11, 12, 18] Tryz.f6.results.toList [.one .bool] (bodyOf Tryz.f6) [] = law09_wakes := by kernel_rfl
theorem law09_wakes_calls (h : Heap) (Q : Value → Heap → Prop) (hh : law09_wakes h fun x h' => Q (.bool x.1) h') :
    HCalls Tryz.prog 6 #[] h Q := by
  rw [← law09_wakes_den] at hh
  exact calls_of_den Tryz.func6 (by kernel_rfl) Tryz.ntmps6 (by kernel_rfl) (CC Tryz.call15 (CC Tryz.call13 (CC Tryz.call12 CN))) orders hh

/-- aqueduct/aqueductlaw09.same -/
def law09_same (p0 : Slc) (p1 : Slc) : HM (Bool × Unit) :=
  HM.ite (!(((p0.len : Nat) : Int) == ((p1.len : Nat) : Int))) (
  HM.pure (false, ())) (
  HM.bind (α := (Int × Unit) ⊕ (Bool × Unit)) (HM.loop (σ := Int × Unit) (τ := (Int × Unit) ⊕ (Bool × Unit)) (fun x2 =>
  HM.ite (decide (x2.1 < (((p0.len : Nat) : Int) : Int))) (
  HM.bind (α := Addr) (HM.idx p0.a p0.len x2.1 3) fun x3 =>
  HM.bind (α := Int × ByteArray × Int × Unit) (HM.loadN [.int .i64, .str, .int .i64] x3) fun x4 =>
  HM.bind (α := Addr) (HM.idx p1.a p1.len x2.1 3) fun x5 =>
  HM.bind (α := Int × ByteArray × Int × Unit) (HM.loadN [.int .i64, .str, .int .i64] x5) fun x6 =>
  HM.ite (!((x4.1 == x6.1) && ((decide (x4.2.1 = x6.2.1)) && ((x4.2.2.1 == x6.2.2.1) && true)))) (
  HM.pure (.inr (.inr (false, ())))) (
  HM.pure (.inl (IntKind.wrap .i64 (x2.1 + 1), ())))) (
  HM.pure (.inr (.inl (x2.1, ()))))) (0, ())) (Sum.elim (fun x1 =>
  HM.pure (true, ())) HM.pure))

theorem law09_same_den (p0 : Slc) (p1 : Slc) : denFn Tryz.prog [] 26 [0, 1, 4, 5, 10, 12, 13, 14, 24] [0, 1, 5, 10, 12, 13, 14, 24] Tryz.f7.results.toList [.one .bool] (bodyOf Tryz.f7) [Kind.val (.one .slc) p0, Kind.val (.one .slc) p1] = law09_same p0 p1 := by kernel_rfl
theorem law09_same_calls (p0 : Slc) (p1 : Slc) (h : Heap) (Q : Value → Heap → Prop) (hh : law09_same p0 p1 h fun x h' => Q (.bool x.1) h') :
    HCalls Tryz.prog 7 #[.slice p0.a p0.len p0.cap, .slice p1.a p1.len p1.cap] h Q := by
  rw [← law09_same_den] at hh
  exact calls_of_den Tryz.func7 (by kernel_rfl) Tryz.ntmps7 (by kernel_rfl) CN orders hh

/-- (*aqueduct/trie.Trie).For -/
def trie_Trie_For (p0 : Option Addr) (p1 : Int) : HM (Slc × Unit) :=
  HM.bind (α := Nat) (HM.new (.cells #[.int .i64 p1] 3)) fun x1 =>
  HM.ite (Option.isNone p0) (
  HM.pure (⟨none, 0, 0⟩, ())) (
  HM.bind (α := Nat) (HM.new (.cells #[.slice none 0 0] 29)) fun x2 =>
  HM.bind (α := Addr) (HM.nonnil p0) fun x3 =>
  HM.bind (α := Option Addr) (HM.load1 .ptr (Addr.add x3 0)) fun x4 =>
  HM.bind (α := Unit) (HM.callN Tryz.prog [] 20 #[.pointer x4, .slice none 0 0, .func (.func 21) #[] #[.pointer (some ⟨x1, 0, none⟩), .pointer (some ⟨x2, 0, none⟩)]]) fun x5 =>
  HM.bind (α := Slc) (HM.load1 .slc ⟨x2, 0, none⟩) fun x6 =>
  HM.bind (α := Unit) (HM.callN Tryz.prog [] 22 #[.slice x6.a x6.len x6.cap, .func (.func 23) #[] #[]]) fun x7 =>
  HM.bind (α := Slc) (HM.load1 .slc ⟨x2, 0, none⟩) fun x8 =>
  HM.pure (x8, ()))

theorem trie_Trie_For_den (p0 : Option Addr) (p1 : Int) : denFn Tryz.prog [20, 22] 17 [0, 1, 3, 4, 5, 7] [0, 1, 3, 5, 7] Tryz.f8.results.toList [.one .slc] (bodyOf Tryz.f8) [Kind.val (.one .ptr) p0, Kind.val (.one (.int .i64)) p1] = trie_Trie_For p0 p1 := by kernel_rfl
theorem trie_Trie_For_calls (p0 : Option Addr) (p1 : Int) (h : Heap) (Q : Value → Heap → Prop) (hh : trie_Trie_For p0 p1 h fun x h' => Q (.slice x.1.a x.1.len x.1.cap) h') :
    HCalls Tryz.prog 8 #[.pointer p0, .int .i64 p1] h Q := by
  rw [← trie_Trie_For_den] at hh
  exact calls_of_den Tryz.func8 (by kernel_rfl) Tryz.ntmps8 (by kernel_rfl) (CC Tryz.call20 (CC Tryz.call22 CN)) orders hh

/-- aqueduct/aqueductref09.For -/
def ref09_For (p0 : Option Addr) (p1 : Int) : HM (Slc × Unit) :=
  HM.bind (α := Slc × Int × Unit) (HM.loop (σ := Slc × Int × Unit) (τ := Slc × Int × Unit) (fun x2 =>
  HM.bind (α := Addr) (HM.nonnil p0) fun x3 =>
  HM.bind (α := Slc) (HM.load1 .slc (Addr.add x3 0)) fun x4 =>
  HM.ite (decide (x2.2.1 < (((x4.len : Nat) : Int) : Int))) (
  HM.bind (α := Addr) (HM.nonnil p0) fun x5 =>
  HM.bind (α := Slc) (HM.load1 .slc (Addr.add x5 0)) fun x6 =>
  HM.bind (α := Addr) (HM.idx x6.a x6.len x2.2.1 3) fun x7 =>
  HM.bind (α := Int) (HM.load1 (.int .i64) (Addr.add x7 0)) fun x8 =>
  HM.bind (α := Slc × Unit) (HM.ite (x8 == p1) (
  HM.bind (α := Addr) (HM.nonnil p0) fun x10 =>
  HM.bind (α := Slc) (HM.load1 .slc (Addr.add x10 0)) fun x11 =>
  HM.bind (α := Addr) (HM.idx x11.a x11.len x2.2.1 3) fun x12 =>
  HM.bind (α := Int × ByteArray × Int × Unit) (HM.loadN [.int .i64, .str, .int .i64] x12) fun x13 =>
  HM.bind (α := Nat) (HM.new (.cells #[.int .i64 x13.1, .string x13.2.1, .int .i64 x13.2.2.1] 55)) fun x14 =>
  HM.bind (α := Slc) (HM.append 55 3 32 #[.int .i64 0, .string (ByteArray.mk #[]), .int .i64 0] x2.1 1 (srcSlc 3 (⟨some ⟨x14, 0, none⟩, 1, 1⟩))) fun x15 =>
  HM.pure (x15, ())) (
  HM.pure (x2.1, ()))) fun x9 =>
  HM.pure (.inl (x9.1, IntKind.wrap .i64 (x2.2.1 + 1), ()))) (
  HM.pure (.inr (x2.1, x2.2.1, ())))) (⟨none, 0, 0⟩, 0, ())) fun x1 =>
  HM.pure (x1.1, ())

theorem ref09_For_den (p0 : Option Addr) (p1 : Int) : denFn Tryz.prog [] 37 [0, 1, 4, 5, 6, 13, 25] [0, 1, 5, 6, 13, 25] Tryz.f9.results.toList [.one .slc] (bodyOf Tryz.f9) [Kind.val (.one .ptr) p0, Kind.val (.one (.int .i64)) p1] = ref09_For p0 p1 := by kernel_rfl
theorem ref09_For_calls (p0 : Option Addr) (p1 : Int) (h : Heap) (Q : Value → Heap → Prop) (hh : ref09_For p0 p1 h fun x h' => Q (.slice x.1.a x.1.len x.1.cap) h') :
    HCalls Tryz.prog 9 #[.pointer p0, .int .i64 p1] h Q := by
  rw [← ref09_For_den] at hh
  exact calls_of_den Tryz.func9 (by kernel_rfl) Tryz.ntmps9 (by kernel_rfl) CN orders hh

/-- (*aqueduct/trie.Trie).Filters -/
def trie_Trie_Filters (p0 : Option Addr) : HM (Slc × Unit) :=
  HM.ite (Option.isNone p0) (
  HM.pure (⟨none, 0, 0⟩, ())) (
  HM.bind (α := Nat) (HM.new (.map #[] 0)) fun x1 =>
  HM.bind (α := Nat) (HM.new (.cells #[.map none] 64)) fun x2 =>
  HM.bind (α := Unit) (HM.store1 ⟨x2, 0, none⟩ (.map (some x1))) fun _ =>
  HM.bind (α := Addr) (HM.nonnil p0) fun x3 =>
  HM.bind (α := Option Addr) (HM.load1 .ptr (Addr.add x3 0)) fun x4 =>
  HM.bind (α := Unit) (HM.callN Tryz.prog [] 20 #[.pointer x4, .slice none 0 0, .func (.func 24) #[] #[.pointer (some ⟨x2, 0, none⟩)]]) fun x5 =>
  HM.bind (α := Option Nat) (HM.load1 .map ⟨x2, 0, none⟩) fun x6 =>
  HM.bind (α := Value) (HM.call1 Tryz.prog (.one .any) 26 #[.map x6]) fun x7 =>
  HM.bind (α := Slc) (HM.call1 Tryz.prog (.one .slc) 25 #[x7]) fun x8 =>
  HM.pure (x8, ()))

theorem trie_Trie_Filters_den (p0 : Option Addr) : denFn Tryz.prog [20, 26, 25] 16 [0, 2, 3, 5] [0, 3, 5] Tryz.f10.results.toList [.one .slc] (bodyOf Tryz.f10) [Kind.val (.one .ptr) p0] = trie_Trie_Filters p0 := by kernel_rfl
theorem trie_Trie_Filters_calls (p0 : Option Addr) (h : Heap) (Q : Value → Heap → Prop) (hh : trie_Trie_Filters p0 h fun x h' => Q (.slice x.1.a x.1.len x.1.cap) h') :
    HCalls Tryz.prog 10 #[.pointer p0] h Q := by
  rw [← trie_Trie_Filters_den] at hh
  exact calls_of_den Tryz.func10 (by kernel_rfl) Tryz.ntmps10 (by kernel_rfl) (CC Tryz.call20 (CC Tryz.call26 (CC Tryz.call25 CN))) orders hh

/-- aqueduct/aqueductref09.Filters -/
def ref09_Filters (p0 : Option Addr) : HM (Slc × Unit) :=
  HM.bind (α := Slc × Int × Unit) (HM.loop (σ := Slc × Int × Unit) (τ := Slc × Int × Unit) (fun x2 =>
  HM.bind (α := Addr) (HM.nonnil p0) fun x3 =>
  HM.bind (α := Slc) (HM.load1 .slc (Addr.add x3 0)) fun x4 =>
  HM.ite (decide (x2.2.1 < (((x4.len : Nat) : Int) : Int))) (
  HM.bind (α := Addr) (HM.nonnil p0) fun x5 =>
  HM.bind (α := Slc) (HM.load1 .slc (Addr.add x5 0)) fun x6 =>
  HM.bind (α := Addr) (HM.idx x6.a x6.len x2.2.1 3) fun x7 =>
  HM.bind (α := ByteArray) (HM.load1 .str (Addr.add x7 1)) fun x8 =>
  HM.bind (α := Bool × Slc × Int × Unit) (HM.loop (σ := Bool × Slc × Int × Unit) (τ := Bool × Slc × Int × Unit) (fun x10 =>
  HM.ite (decide (x10.2.2.1 < (((x2.1.len : Nat) : Int) : Int))) (
  HM.bind (α := Addr) (HM.idx x2.1.a x2.1.len x10.2.2.1 1) fun x11 =>
  HM.bind (α := ByteArray) (HM.load1 .str x11) fun x12 =>
  HM.bind (α := Bool × Unit) (HM.ite (decide (x12 = x8)) (
  HM.pure (true, ())) (
  HM.pure (x10.1, ()))) fun x13 =>
  HM.bind (α := Bool × Unit) (HM.ite (!x13.1) (
  HM.bind (α := Addr) (HM.idx x2.1.a x2.1.len x10.2.2.1 1) fun x14 =>
  HM.bind (α := ByteArray) (HM.load1 .str x14) fun x15 =>
  HM.pure (Op.bytesLess x8.toList x15.toList, ())) (
  HM.pure (false, ()))) fun x16 =>
  HM.bind (α := Slc × Bool × Unit) (HM.ite x16.1 (
  HM.bind (α := Nat) (HM.new (.cells #[.string x8] 9)) fun x18 =>
  HM.bind (α := Slc) (HM.append 9 1 16 #[.string (ByteArray.mk #[])] x10.2.1 1 (srcSlc 1 (⟨some ⟨x18, 0, none⟩, 1, 1⟩))) fun x19 =>
  HM.pure (x19, true, ())) (
  HM.pure (x10.2.1, x13.1, ()))) fun x17 =>
  HM.bind (α := Addr) (HM.idx x2.1.a x2.1.len x10.2.2.1 1) fun x20 =>
  HM.bind (α := ByteArray) (HM.load1 .str x20) fun x21 =>
  HM.bind (α := Nat) (HM.new (.cells #[.string x21] 9)) fun x22 =>
  HM.bind (α := Slc) (HM.append 9 1 16 #[.string (ByteArray.mk #[])] x17.1 1 (srcSlc 1 (⟨some ⟨x22, 0, none⟩, 1, 1⟩))) fun x23 =>
  HM.pure (.inl (x17.2.1, x23, IntKind.wrap .i64 (x10.2.2.1 + 1), ()))) (
  HM.pure (.inr (x10.1, x10.2.1, x10.2.2.1, ())))) (false, ⟨none, 0, 0⟩, 0, ())) fun x9 =>
  HM.bind (α := Slc × Unit) (HM.ite (!x9.1) (
  HM.bind (α := Nat) (HM.new (.cells #[.string x8] 9)) fun x25 =>
  HM.bind (α := Slc) (HM.append 9 1 16 #[.string (ByteArray.mk #[])] x9.2.1 1 (srcSlc 1 (⟨some ⟨x25, 0, none⟩, 1, 1⟩))) fun x26 =>
  HM.pure (x26, ())) (
  HM.pure (x9.2.1, ()))) fun x24 =>
  HM.pure (.inl (x24.1, IntKind.wrap .i64 (x2.2.1 + 1), ()))) (
  HM.pure (.inr (x2.1, x2.2.1, ())))) (⟨none, 0, 0⟩, 0, ())) fun x1 =>
  HM.pure (x1.1, ())

theorem ref09_Filters_den (p0 : Option Addr) : denFn Tryz.prog [] 67 [0, 2, 3, 4, 5, 6, 7, 8, 15, 29, 37, 47, 60] [0, 3, 4, 5, 6, 7, 8, 15, 29, 37, 47, 60] Tryz.f11.results.toList [.one .slc] (bodyOf Tryz.f11) [Kind.val (.one .ptr) p0] = ref09_Filters p0 := by kernel_rfl
theorem ref09_Filters_calls (p0 : Option Addr) (h : Heap) (Q : Value → Heap → Prop) (hh : ref09_Filters p0 h fun x h' => Q (.slice x.1.a x.1.len x.1.cap) h') :
    HCalls Tryz.prog 11 #[.pointer p0] h Q := by
  rw [← ref09_Filters_den] at hh
  exact calls_of_den Tryz.func11 (by kernel_rfl) Tryz.ntmps11 (by kernel_rfl) CN orders hh

/-- (*aqueduct/trie.Trie).Match -/
def trie_Trie_Match (p0 : Option Addr) (p1 : ByteArray) : HM (Slc × Unit) :=
  HM.bind (α := Bool × Unit) (HM.ite (Option.isNone p0) (
  HM.pure (true, ())) (
  HM.bind (α := Int) (HM.call1 Tryz.prog (.one (.int .u8)) 27 #[.string p1]) fun x1 =>
  HM.pure (!(x1 == 0), ()))) fun x2 =>
  HM.ite x2.1 (
  HM.pure (⟨none, 0, 0⟩, ())) (
  HM.bind (α := Addr) (HM.nonnil p0) fun x3 =>
  HM.bind (α := Option Addr) (HM.load1 .ptr (Addr.add x3 0)) fun x4 =>
  HM.bind (α := Int) (HM.strIdx p1 0) fun x5 =>
  HM.bind (α := Slc) (HM.call1 Tryz.prog (.one .slc) 29 #[.string p1]) fun x6 =>
  HM.bind (α := Option Addr) (HM.load1 .ptr (Addr.add x3 0)) fun x7 =>
  HM.req ((.pointer x7 : Value) = .pointer x4) <|
  HM.bind (α := Slc) (HM.call1 Tryz.prog (.one .slc) 28 #[.pointer x4, .slice none 0 0, .slice x6.a x6.len x6.cap, .bool (x5 == 36), .slice none 0 0]) fun x8 =>
  HM.bind (α := Unit) (HM.callN Tryz.prog [] 22 #[.slice x8.a x8.len x8.cap, .func (.func 23) #[] #[]]) fun x9 =>
  HM.pure (x8, ()))

theorem trie_Trie_Match_den (p0 : Option Addr) (p1 : ByteArray) : denFn Tryz.prog [27, 29, 28, 22] 26 [0, 1, 4, 5, 12] [0, 1, 5, 12] Tryz.f12.results.toList [.one .slc] (bodyOf Tryz.f12) [Kind.val (.one .ptr) p0, Kind.val (.one .str) p1] = trie_Trie_Match p0 p1 := by kernel_rfl
theorem trie_Trie_Match_calls (p0 : Option Addr) (p1 : ByteArray) (h : Heap) (Q : Value → Heap → Prop) (hh : trie_Trie_Match p0 p1 h fun x h' => Q (.slice x.1.a x.1.len x.1.cap) h') :
    HCalls Tryz.prog 12 #[.pointer p0, .string p1] h Q := by
  rw [← trie_Trie_Match_den] at hh
  exact calls_of_den Tryz.func12 (by kernel_rfl) Tryz.ntmps12 (by kernel_rfl) (CC Tryz.call27 (CC Tryz.call29 (CC Tryz.call28 (CC Tryz.call22 CN)))) orders hh

/-- (*aqueduct/trie.Trie).Add -/
def trie_Trie_Add (p0 : Option Addr) (p1 : Int × ByteArray × Int × Unit) : HM (Int × Unit) :=
  HM.bind (α := Nat) (HM.new (.cells #[.int .i64 p1.1, .string p1.2.1, .int .i64 p1.2.2.1] 41)) fun x1 =>
  HM.ite (Option.isNone p0) (
  HM.pure (128, ())) (
  HM.bind (α := ByteArray) (HM.load1 .str (Addr.add ⟨x1, 0, none⟩ 1)) fun x2 =>
  HM.bind (α := Int) (HM.call1 Tryz.prog (.one (.int .u8)) 30 #[.string x2]) fun x3 =>
  HM.ite (!(x3 == 0)) (
  HM.pure (143, ())) (
  HM.bind (α := Bool × Unit) (HM.bind (α := Int) (HM.load1 (.int .i64) (Addr.add ⟨x1, 0, none⟩ 2)) fun x4 =>
  HM.ite (decide (x4 < (0 : Int))) (
  HM.pure (true, ())) (
  HM.bind (α := Int) (HM.load1 (.int .i64) (Addr.add ⟨x1, 0, none⟩ 2)) fun x5 =>
  HM.pure (decide (2 < (x5 : Int)), ()))) fun x6 =>
  HM.ite x6.1 (
  HM.pure (155, ())) (
  HM.bind (α := ByteArray) (HM.load1 .str (Addr.add ⟨x1, 0, none⟩ 1)) fun x7 =>
  HM.bind (α := Option Addr) (HM.call1 Tryz.prog (.one .ptr) 31 #[.pointer p0, .string x7]) fun x8 =>
  HM.bind (α := (Unit) ⊕ (Int × Unit)) (HM.ite (!(Option.isNone x8)) (
  HM.bind (α := Addr) (HM.nonnil x8) fun x10 =>
  HM.bind (α := Option Nat) (HM.load1 .map (Addr.add x10 0)) fun x11 =>
  HM.bind (α := Int) (HM.load1 (.int .i64) (Addr.add ⟨x1, 0, none⟩ 0)) fun x12 =>
  HM.bind (α := Int × Bool) (HM.lookup (Instr.sameNow (.int .i64)) (.int .i64 0) (.one (.int .i64)) x11 (.int .i64 x12)) fun x13 =>
  HM.ite x13.2 (
  HM.bind (α := Addr) (HM.nonnil x8) fun x14 =>
  HM.bind (α := Option Nat) (HM.load1 .map (Addr.add x14 0)) fun x15 =>
  HM.bind (α := Int) (HM.load1 (.int .i64) (Addr.add ⟨x1, 0, none⟩ 0)) fun x16 =>
  HM.bind (α := Int) (HM.load1 (.int .i64) (Addr.add ⟨x1, 0, none⟩ 2)) fun x17 =>
  HM.bind (α := Unit) (HM.mapSet (Instr.sameNow (.int .i64)) x15 (.int .i64 x16) (.int .i64 x17)) fun _ =>
  HM.pure (.inr (0, ()))) (
  HM.pure (.inl ()))) (
  HM.pure (.inl ()))) (Sum.elim (fun x9 =>
  HM.bind (α := Addr) (HM.nonnil p0) fun x18 =>
  HM.bind (α := Option Nat) (HM.load1 .map (Addr.add x18 1)) fun x19 =>
  HM.bind (α := Int) (HM.load1 (.int .i64) (Addr.add ⟨x1, 0, none⟩ 0)) fun x20 =>
  HM.bind (α := Int × Bool) (HM.lookup (Instr.sameNow (.int .i64)) (.int .i64 0) (.one (.int .i64)) x19 (.int .i64 x20)) fun x21 =>
  HM.ite (decide (64 ≤ (x21.1 : Int))) (
  HM.pure (151, ())) (
  HM.bind (α := Addr) (HM.nonnil p0) fun x22 =>
  HM.bind (α := Option Addr) (HM.load1 .ptr (Addr.add x22 0)) fun x23 =>
  HM.bind (α := ByteArray) (HM.load1 .str (Addr.add ⟨x1, 0, none⟩ 1)) fun x24 =>
  HM.bind (α := Slc) (HM.call1 Tryz.prog (.one .slc) 29 #[.string x24]) fun x25 =>
  HM.bind (α := Option Addr × Int × Unit) (HM.loop (σ := Option Addr × Int × Unit) (τ := Option Addr × Int × Unit) (fun x27 =>
  HM.ite (decide (x27.2.1 < (((x25.len : Nat) : Int) : Int))) (
  HM.bind (α := Addr) (HM.idx x25.a x25.len x27.2.1 1) fun x28 =>
  HM.bind (α := ByteArray) (HM.load1 .str x28) fun x29 =>
  HM.bind (α := Addr) (HM.nonnil x27.1) fun x30 =>
  HM.bind (α := Option Nat) (HM.load1 .map (Addr.add x30 1)) fun x31 =>
  HM.bind (α := Option Addr × Bool) (HM.lookup (Instr.sameNow .string) (.pointer none) (.one .ptr) x31 (.string x29)) fun x32 =>
  HM.bind (α := Unit) (HM.ite (Option.isNone x32.1) (
  HM.bind (α := Addr) (HM.nonnil x27.1) fun x34 =>
  HM.bind (α := Option Nat) (HM.load1 .map (Addr.add x34 1)) fun x35 =>
  HM.bind (α := Option Addr) (HM.call1 Tryz.prog (.one .ptr) 32 #[]) fun x36 =>
  HM.bind (α := Option Nat) (HM.load1 .map (Addr.add x34 1)) fun x37 =>
  HM.req ((.map x37 : Value) = .map x35) <|
  HM.bind (α := Unit) (HM.mapSet (Instr.sameNow .string) x35 (.string x29) (.pointer x36)) fun _ =>
  HM.pure ()) (
  HM.pure ())) fun x33 =>
  HM.bind (α := Addr) (HM.nonnil x27.1) fun x38 =>
  HM.bind (α := Option Nat) (HM.load1 .map (Addr.add x38 1)) fun x39 =>
  HM.bind (α := Option Addr × Bool) (HM.lookup (Instr.sameNow .string) (.pointer none) (.one .ptr) x39 (.string x29)) fun x40 =>
  HM.pure (.inl (x40.1, IntKind.wrap .i64 (x27.2.1 + 1), ()))) (
  HM.pure (.inr (x27.1, x27.2.1, ())))) (x23, 0, ())) fun x26 =>
  HM.bind (α := Addr) (HM.nonnil x26.1) fun x41 =>
  HM.bind (α := Option Nat) (HM.load1 .map (Addr.add x41 0)) fun x42 =>
  HM.bind (α := Int) (HM.load1 (.int .i64) (Addr.add ⟨x1, 0, none⟩ 0)) fun x43 =>
  HM.bind (α := Int) (HM.load1 (.int .i64) (Addr.add ⟨x1, 0, none⟩ 2)) fun x44 =>
  HM.bind (α := Unit) (HM.mapSet (Instr.sameNow (.int .i64)) x42 (.int .i64 x43) (.int .i64 x44)) fun _ =>
  HM.bind (α := Addr) (HM.nonnil p0) fun x45 =>
  HM.bind (α := Option Nat) (HM.load1 .map (Addr.add x45 1)) fun x46 =>
  HM.bind (α := Int) (HM.load1 (.int .i64) (Addr.add ⟨x1, 0, none⟩ 0)) fun x47 =>
  HM.bind (α := Int × Bool) (HM.lookup (Instr.sameNow (.int .i64)) (.int .i64 0) (.one (.int .i64)) x46 (.int .i64 x47)) fun x48 =>
  HM.bind (α := Unit) (HM.mapSet (Instr.sameNow (.int .i64)) x46 (.int .i64 x47) (.int .i64 (IntKind.wrap .i64 (x48.1 + 1)))) fun _ =>
  HM.pure (0, ()))) HM.pure))))

theorem trie_Trie_Add_den (p0 : Option Addr) (p1 : Int × ByteArray × Int × Unit) : denFn Tryz.prog [30, 31, 29, 32] 109 [0, 1, 3, 4, 5, 7, 8, 10, 11, 14, 19, 33, 44, 60, 67, 68, 69, 70, 79] [0, 1, 3, 5, 7, 8, 10, 11, 14, 19, 33, 44, 60, 67, 68, 69, 70, 79] Tryz.f13.results.toList [.one (.int .u8)] (bodyOf Tryz.f13) [Kind.val (.one .ptr) p0, Kind.val (.agg [.int .i64, .str, .int .i64]) p1] = trie_Trie_Add p0 p1 := by kernel_rfl
theorem trie_Trie_Add_calls (p0 : Option Addr) (p1 : Int × ByteArray × Int × Unit) (h : Heap) (Q : Value → Heap → Prop) (hh : trie_Trie_Add p0 p1 h fun x h' => Q (.int .u8 x.1) h') :
    HCalls Tryz.prog 13 #[.pointer p0, .agg #[.int .i64 p1.1, .string p1.2.1, .int .i64 p1.2.2.1]] h Q := by
  rw [← trie_Trie_Add_den] at hh
  exact calls_of_den Tryz.func13 (by kernel_rfl) Tryz.ntmps13 (by kernel_rfl) (CC Tryz.call30 (CC Tryz.call31 (CC Tryz.call29 (CC Tryz.call32 CN)))) orders hh

/-- (*aqueduct/trie.Trie).Remove -/
def trie_Trie_Remove (p0 : Option Addr) (p1 : Int) (p2 : ByteArray) : HM (Bool × Unit) :=
  HM.ite (Option.isNone p0) (
  HM.pure (false, ())) (
  HM.bind (α := Option Addr) (HM.call1 Tryz.prog (.one .ptr) 31 #[.pointer p0, .string p2]) fun x1 =>
  HM.ite (Option.isNone x1) (
  HM.pure (false, ())) (
  HM.bind (α := Addr) (HM.nonnil x1) fun x2 =>
  HM.bind (α := Option Nat) (HM.load1 .map (Addr.add x2 0)) fun x3 =>
  HM.bind (α := Int × Bool) (HM.lookup (Instr.sameNow (.int .i64)) (.int .i64 0) (.one (.int .i64)) x3 (.int .i64 p1)) fun x4 =>
  HM.ite (!x4.2) (
  HM.pure (false, ())) (
  HM.bind (α := Addr) (HM.nonnil p0) fun x5 =>
  HM.bind (α := Option Addr) (HM.load1 .ptr (Addr.add x5 0)) fun x6 =>
  HM.bind (α := Slc) (HM.call1 Tryz.prog (.one .slc) 29 #[.string p2]) fun x7 =>
  HM.bind (α := Option Addr) (HM.load1 .ptr (Addr.add x5 0)) fun x8 =>
  HM.req ((.pointer x8 : Value) = .pointer x6) <|
  HM.bind (α := Bool) (HM.call1 Tryz.prog (.one .bool) 33 #[.pointer x6, .int .i64 p1, .slice x7.a x7.len x7.cap]) fun x9 =>
  HM.bind (α := Addr) (HM.nonnil p0) fun x10 =>
  HM.bind (α := Option Nat) (HM.load1 .map (Addr.add x10 1)) fun x11 =>
  HM.bind (α := Int × Bool) (HM.lookup (Instr.sameNow (.int .i64)) (.int .i64 0) (.one (.int .i64)) x11 (.int .i64 p1)) fun x12 =>
  HM.bind (α := Unit) (HM.mapSet (Instr.sameNow (.int .i64)) x11 (.int .i64 p1) (.int .i64 (IntKind.wrap .i64 (x12.1 - 1)))) fun _ =>
  HM.bind (α := Addr) (HM.nonnil p0) fun x13 =>
  HM.bind (α := Option Nat) (HM.load1 .map (Addr.add x13 1)) fun x14 =>
  HM.bind (α := Int × Bool) (HM.lookup (Instr.sameNow (.int .i64)) (.int .i64 0) (.one (.int .i64)) x14 (.int .i64 p1)) fun x15 =>
  HM.bind (α := Unit) (HM.ite (x15.1 == 0) (
  HM.bind (α := Addr) (HM.nonnil p0) fun x17 =>
  HM.bind (α := Option Nat) (HM.load1 .map (Addr.add x17 1)) fun x18 =>
  HM.bind (α := Unit) (HM.mapDel (Instr.sameNow (.int .i64)) x18 (.int .i64 p1)) fun _ =>
  HM.pure ()) (
  HM.pure ())) fun x16 =>
  HM.pure (true, ()))))

theorem trie_Trie_Remove_den (p0 : Option Addr) (p1 : Int) (p2 : ByteArray) : denFn Tryz.prog [31, 29, 33] 55 [0, 1, 2, 6, 7, 9, 11, 16, 27, 49] [0, 1, 2, 7, 9, 11, 16, 27, 49] Tryz.f14.results.toList [.one .bool] (bodyOf Tryz.f14) [Kind.val (.one .ptr) p0, Kind.val (.one (.int .i64)) p1, Kind.val (.one .str) p2] = trie_Trie_Remove p0 p1 p2 := by kernel_rfl
theorem trie_Trie_Remove_calls (p0 : Option Addr) (p1 : Int) (p2 : ByteArray) (h : Heap) (Q : Value → Heap → Prop) (hh : trie_Trie_Remove p0 p1 p2 h fun x h' => Q (.bool x.1) h') :
    HCalls Tryz.prog 14 #[.pointer p0, .int .i64 p1, .string p2] h Q := by
  rw [← trie_Trie_Remove_den] at hh
  exact calls_of_den Tryz.func14 (by kernel_rfl) Tryz.ntmps14 (by kernel_rfl) (CC Tryz.call31 (CC Tryz.call29 (CC Tryz.call33 CN))) orders hh

/-- aqueduct/trie.New -/
def trie_New : HM (Option Addr × Unit) :=
  HM.bind (α := Option Addr) (HM.call1 Tryz.prog (.one .ptr) 32 #[]) fun x1 =>
  HM.bind (α := Nat) (HM.new (.map #[] 0)) fun x2 =>
  HM.bind (α := Nat) (HM.new (.cells #[.pointer x1, .map (some x2)] 59)) fun x3 =>
  HM.pure (some ⟨x3, 0, none⟩, ())

theorem trie_New_den : denFn Tryz.prog [32] 5 [0] [] Tryz.f15.results.toList [.one .ptr] (bodyOf Tryz.f15) [] = trie_New := by kernel_rfl
theorem trie_New_calls (h : Heap) (Q : Value → Heap → Prop) (hh : trie_New h fun x h' => Q (.pointer x.1) h') :
    HCalls Tryz.prog 15 #[] h Q := by
  rw [← trie_New_den] at hh
  exact calls_of_den Tryz.func15 (by kernel_rfl) Tryz.ntmps15 (by kernel_rfl) (CC Tryz.call32 CN) orders hh

/-- aqueduct/aqueductref09.Remove -/
def ref09_Remove (p0 : Option Addr) (p1 : Int) (p2 : ByteArray) : HM (Bool × Unit) :=
  HM.bind (α := Slc × Int × Unit) (HM.loop (σ := Slc × Int × Unit) (τ := Slc × Int × Unit) (fun x2 =>
  HM.bind (α := Addr) (HM.nonnil p0) fun x3 =>
  HM.bind (α := Slc) (HM.load1 .slc (Addr.add x3 0)) fun x4 =>
  HM.ite (decide (x2.2.1 < (((x4.len : Nat) : Int) : Int))) (
  HM.bind (α := Bool × Unit) (HM.bind (α := Addr) (HM.nonnil p0) fun x5 =>
  HM.bind (α := Slc) (HM.load1 .slc (Addr.add x5 0)) fun x6 =>
  HM.bind (α := Addr) (HM.idx x6.a x6.len x2.2.1 3) fun x7 =>
  HM.bind (α := Int) (HM.load1 (.int .i64) (Addr.add x7 0)) fun x8 =>
  HM.ite (!(x8 == p1)) (
  HM.pure (true, ())) (
  HM.bind (α := Addr) (HM.nonnil p0) fun x9 =>
  HM.bind (α := Slc) (HM.load1 .slc (Addr.add x9 0)) fun x10 =>
  HM.bind (α := Addr) (HM.idx x10.a x10.len x2.2.1 3) fun x11 =>
  HM.bind (α := ByteArray) (HM.load1 .str (Addr.add x11 1)) fun x12 =>
  HM.pure (!(decide (x12 = p2)), ()))) fun x13 =>
  HM.bind (α := Slc × Unit) (HM.ite x13.1 (
  HM.bind (α := Addr) (HM.nonnil p0) fun x15 =>
  HM.bind (α := Slc) (HM.load1 .slc (Addr.add x15 0)) fun x16 =>
  HM.bind (α := Addr) (HM.idx x16.a x16.len x2.2.1 3) fun x17 =>
  HM.bind (α := Int × ByteArray × Int × Unit) (HM.loadN [.int .i64, .str, .int .i64] x17) fun x18 =>
  HM.bind (α := Nat) (HM.new (.cells #[.int .i64 x18.1, .string x18.2.1, .int .i64 x18.2.2.1] 55)) fun x19 =>
  HM.bind (α := Slc) (HM.append 55 3 32 #[.int .i64 0, .string (ByteArray.mk #[]), .int .i64 0] x2.1 1 (srcSlc 3 (⟨some ⟨x19, 0, none⟩, 1, 1⟩))) fun x20 =>
  HM.pure (x20, ())) (
  HM.pure (x2.1, ()))) fun x14 =>
  HM.pure (.inl (x14.1, IntKind.wrap .i64 (x2.2.1 + 1), ()))) (
  HM.pure (.inr (x2.1, x2.2.1, ())))) (⟨none, 0, 0⟩, 0, ())) fun x1 =>
  HM.bind (α := Addr) (HM.nonnil p0) fun x21 =>
  HM.bind (α := Slc) (HM.load1 .slc (Addr.add x21 0)) fun x22 =>
  HM.bind (α := Addr) (HM.nonnil p0) fun x23 =>
  HM.bind (α := Unit) (HM.store1 (Addr.add x23 0) (.slice x1.1.a x1.1.len x1.1.cap)) fun _ =>
  HM.pure (decide (((x1.1.len : Nat) : Int) < (((x22.len : Nat) : Int) : Int)), ())

theorem ref09_Remove_den (p0 : Option Addr) (p1 : Int) (p2 : ByteArray) : denFn Tryz.prog [] 64 [0, 1, 2, 6, 7, 8, 9, 16, 40] [0, 1, 2, 7, 8, 9, 16, 40] Tryz.f16.results.toList [.one .bool] (bodyOf Tryz.f16) [Kind.val (.one .ptr) p0, Kind.val (.one (.int .i64)) p1, Kind.val (.one .str) p2] = ref09_Remove p0 p1 p2 := by kernel_rfl
theorem ref09_Remove_calls (p0 : Option Addr) (p1 : Int) (p2 : ByteArray) (h : Heap) (Q : Value → Heap → Prop) (hh : ref09_Remove p0 p1 p2 h fun x h' => Q (.bool x.1) h') :
    HCalls Tryz.prog 16 #[.pointer p0, .int .i64 p1, .string p2] h Q := by
  rw [← ref09_Remove_den] at hh
  exact calls_of_den Tryz.func16 (by kernel_rfl) Tryz.ntmps16 (by kernel_rfl) CN orders hh

/-- (*aqueduct/trie.Trie).Drop -/
def trie_Trie_Drop (p0 : Option Addr) (p1 : Int) : HM (Int × Unit) :=
  HM.bind (α := Slc) (HM.call1 Tryz.prog (.one .slc) 8 #[.pointer p0, .int .i64 p1]) fun x1 =>
  HM.bind (α := Int × Unit) (HM.loop (σ := Int × Unit) (τ := Int × Unit) (fun x3 =>
  HM.ite (decide (x3.1 < (((x1.len : Nat) : Int) : Int))) (
  HM.bind (α := Addr) (HM.idx x1.a x1.len x3.1 3) fun x4 =>
  HM.bind (α := Int × ByteArray × Int × Unit) (HM.loadN [.int .i64, .str, .int .i64] x4) fun x5 =>
  HM.bind (α := Nat) (HM.new (.cells #[.int .i64 0, .string (ByteArray.mk #[]), .int .i64 0] 41)) fun x6 =>
  HM.bind (α := Unit) (HM.storeN ⟨x6, 0, none⟩ [.int .i64 x5.1, .string x5.2.1, .int .i64 x5.2.2.1]) fun _ =>
  HM.bind (α := ByteArray) (HM.load1 .str (Addr.add ⟨x6, 0, none⟩ 1)) fun x7 =>
  HM.bind (α := Bool) (HM.call1 Tryz.prog (.one .bool) 14 #[.pointer p0, .int .i64 p1, .string x7]) fun x8 =>
  HM.pure (.inl (IntKind.wrap .i64 (x3.1 + 1), ()))) (
  HM.pure (.inr (x3.1, ())))) (0, ())) fun x2 =>
  HM.pure (((x1.len : Nat) : Int), ())

theorem trie_Trie_Drop_den (p0 : Option Addr) (p1 : Int) : denFn Tryz.prog [8, 14] 25 [0, 1, 4, 5, 7, 11, 12, 13, 14] [0, 1, 5, 7, 11, 12, 13, 14] Tryz.f17.results.toList [.one (.int .i64)] (bodyOf Tryz.f17) [Kind.val (.one .ptr) p0, Kind.val (.one (.int .i64)) p1] = trie_Trie_Drop p0 p1 := by kernel_rfl
theorem trie_Trie_Drop_calls (p0 : Option Addr) (p1 : Int) (h : Heap) (Q : Value → Heap → Prop) (hh : trie_Trie_Drop p0 p1 h fun x h' => Q (.int .i64 x.1) h') :
    HCalls Tryz.prog 17 #[.pointer p0, .int .i64 p1] h Q := by
  rw [← trie_Trie_Drop_den] at hh
  exact calls_of_den Tryz.func17 (by kernel_rfl) Tryz.ntmps17 (by kernel_rfl) (CC Tryz.call8 (CC Tryz.call14 CN)) orders hh

/-- aqueduct/aqueductref09.Drop -/
def ref09_Drop (p0 : Option Addr) (p1 : Int) : HM (Int × Unit) :=
  HM.bind (α := Slc × Int × Unit) (HM.loop (σ := Slc × Int × Unit) (τ := Slc × Int × Unit) (fun x2 =>
  HM.bind (α := Addr) (HM.nonnil p0) fun x3 =>
  HM.bind (α := Slc) (HM.load1 .slc (Addr.add x3 0)) fun x4 =>
  HM.ite (decide (x2.2.1 < (((x4.len : Nat) : Int) : Int))) (
  HM.bind (α := Addr) (HM.nonnil p0) fun x5 =>
  HM.bind (α := Slc) (HM.load1 .slc (Addr.add x5 0)) fun x6 =>
  HM.bind (α := Addr) (HM.idx x6.a x6.len x2.2.1 3) fun x7 =>
  HM.bind (α := Int) (HM.load1 (.int .i64) (Addr.add x7 0)) fun x8 =>
  HM.bind (α := Slc × Unit) (HM.ite (!(x8 == p1)) (
  HM.bind (α := Addr) (HM.nonnil p0) fun x10 =>
  HM.bind (α := Slc) (HM.load1 .slc (Addr.add x10 0)) fun x11 =>
  HM.bind (α := Addr) (HM.idx x11.a x11.len x2.2.1 3) fun x12 =>
  HM.bind (α := Int × ByteArray × Int × Unit) (HM.loadN [.int .i64, .str, .int .i64] x12) fun x13 =>
  HM.bind (α := Nat) (HM.new (.cells #[.int .i64 x13.1, .string x13.2.1, .int .i64 x13.2.2.1] 55)) fun x14 =>
  HM.bind (α := Slc) (HM.append 55 3 32 #[.int .i64 0, .string (ByteArray.mk #[]), .int .i64 0] x2.1 1 (srcSlc 3 (⟨some ⟨x14, 0, none⟩, 1, 1⟩))) fun x15 =>
  HM.pure (x15, ())) (
  HM.pure (x2.1, ()))) fun x9 =>
  HM.pure (.inl (x9.1, IntKind.wrap .i64 (x2.2.1 + 1), ()))) (
  HM.pure (.inr (x2.1, x2.2.1, ())))) (⟨none, 0, 0⟩, 0, ())) fun x1 =>
  HM.bind (α := Addr) (HM.nonnil p0) fun x16 =>
  HM.bind (α := Slc) (HM.load1 .slc (Addr.add x16 0)) fun x17 =>
  HM.bind (α := Addr) (HM.nonnil p0) fun x18 =>
  HM.bind (α := Unit) (HM.store1 (Addr.add x18 0) (.slice x1.1.a x1.1.len x1.1.cap)) fun _ =>
  HM.pure (IntKind.wrap .i64 (((x17.len : Nat) : Int) - ((x1.1.len : Nat) : Int)), ())

theorem ref09_Drop_den (p0 : Option Addr) (p1 : Int) : denFn Tryz.prog [] 50 [0, 1, 4, 5, 6, 7, 14, 26] [0, 1, 5, 6, 7, 14, 26] Tryz.f18.results.toList [.one (.int .i64)] (bodyOf Tryz.f18) [Kind.val (.one .ptr) p0, Kind.val (.one (.int .i64)) p1] = ref09_Drop p0 p1 := by kernel_rfl
theorem ref09_Drop_calls (p0 : Option Addr) (p1 : Int) (h : Heap) (Q : Value → Heap → Prop) (hh : ref09_Drop p0 p1 h fun x h' => Q (.int .i64 x.1) h') :
    HCalls Tryz.prog 18 #[.pointer p0, .int .i64 p1] h Q := by
  rw [← ref09_Drop_den] at hh
  exact calls_of_den Tryz.func18 (by kernel_rfl) Tryz.ntmps18 (by kernel_rfl) CN orders hh

/-- aqueduct/aqueductref09.Add -/
def ref09_Add (p0 : Option Addr) (p1 : Int × ByteArray × Int × Unit) : HM (Int × Unit) :=
  HM.bind (α := Nat) (HM.new (.cells #[.int .i64 p1.1, .string p1.2.1, .int .i64 p1.2.2.1] 55)) fun x1 =>
  HM.bind (α := ByteArray) (HM.load1 .str (Addr.add ⟨x1, 0, none⟩ 1)) fun x2 =>
  HM.bind (α := Int) (HM.call1 Tryz.prog (.one (.int .i64)) 34 #[.string x2]) fun x3 =>
  HM.ite (!(x3 == 0)) (
  HM.pure (143, ())) (
  HM.bind (α := Bool × Unit) (HM.bind (α := Int) (HM.load1 (.int .i64) (Addr.add ⟨x1, 0, none⟩ 2)) fun x4 =>
  HM.ite (decide (x4 < (0 : Int))) (
  HM.pure (true, ())) (
  HM.bind (α := Int) (HM.load1 (.int .i64) (Addr.add ⟨x1, 0, none⟩ 2)) fun x5 =>
  HM.pure (decide (2 < (x5 : Int)), ()))) fun x6 =>
  HM.ite x6.1 (
  HM.pure (155, ())) (
  HM.bind (α := (Int × Int × Unit) ⊕ (Int × Unit)) (HM.loop (σ := Int × Int × Unit) (τ := (Int × Int × Unit) ⊕ (Int × Unit)) (fun x8 =>
  HM.bind (α := Addr) (HM.nonnil p0) fun x9 =>
  HM.bind (α := Slc) (HM.load1 .slc (Addr.add x9 0)) fun x10 =>
  HM.ite (decide (x8.2.1 < (((x10.len : Nat) : Int) : Int))) (
  HM.bind (α := (Int × Unit) ⊕ ((Int × Int × Unit) ⊕ ((Int × Int × Unit) ⊕ (Int × Unit)))) (HM.bind (α := Addr) (HM.nonnil p0) fun x12 =>
  HM.bind (α := Slc) (HM.load1 .slc (Addr.add x12 0)) fun x13 =>
  HM.bind (α := Addr) (HM.idx x13.a x13.len x8.2.1 3) fun x14 =>
  HM.bind (α := Int) (HM.load1 (.int .i64) (Addr.add x14 0)) fun x15 =>
  HM.bind (α := Int) (HM.load1 (.int .i64) (Addr.add ⟨x1, 0, none⟩ 0)) fun x16 =>
  HM.ite (!(x15 == x16)) (
  HM.pure (.inl (x8.1, ()))) (
  HM.bind (α := Addr) (HM.nonnil p0) fun x17 =>
  HM.bind (α := Slc) (HM.load1 .slc (Addr.add x17 0)) fun x18 =>
  HM.bind (α := Addr) (HM.idx x18.a x18.len x8.2.1 3) fun x19 =>
  HM.bind (α := ByteArray) (HM.load1 .str (Addr.add x19 1)) fun x20 =>
  HM.bind (α := ByteArray) (HM.load1 .str (Addr.add ⟨x1, 0, none⟩ 1)) fun x21 =>
  HM.ite (decide (x20 = x21)) (
  HM.bind (α := Addr) (HM.nonnil p0) fun x22 =>
  HM.bind (α := Slc) (HM.load1 .slc (Addr.add x22 0)) fun x23 =>
  HM.bind (α := Int) (HM.load1 (.int .i64) (Addr.add ⟨x1, 0, none⟩ 2)) fun x24 =>
  HM.bind (α := Addr) (HM.idx x23.a x23.len x8.2.1 3) fun x25 =>
  HM.bind (α := Unit) (HM.store1 (Addr.add x25 2) (.int .i64 x24)) fun _ =>
  HM.pure (.inr (.inr (.inr (0, ()))))) (
  HM.pure (.inl (IntKind.wrap .i64 (x8.1 + 1), ()))))) (Sum.elim (fun x11 =>
  HM.pure (.inl (x11.1, IntKind.wrap .i64 (x8.2.1 + 1), ()))) HM.pure)) (
  HM.pure (.inr (.inl (x8.1, x8.2.1, ()))))) (0, 0, ())) (Sum.elim (fun x7 =>
  HM.ite (decide (64 ≤ (x7.1 : Int))) (
  HM.pure (151, ())) (
  HM.bind (α := Bool × Slc × Int × Unit) (HM.loop (σ := Bool × Slc × Int × Unit) (τ := Bool × Slc × Int × Unit) (fun x27 =>
  HM.bind (α := Addr) (HM.nonnil p0) fun x28 =>
  HM.bind (α := Slc) (HM.load1 .slc (Addr.add x28 0)) fun x29 =>
  HM.ite (decide (x27.2.2.1 < (((x29.len : Nat) : Int) : Int))) (
  HM.bind (α := Int × ByteArray × Int × Unit) (HM.loadN [.int .i64, .str, .int .i64] ⟨x1, 0, none⟩) fun x30 =>
  HM.bind (α := Addr) (HM.nonnil p0) fun x31 =>
  HM.bind (α := Slc) (HM.load1 .slc (Addr.add x31 0)) fun x32 =>
  HM.bind (α := Addr) (HM.idx x32.a x32.len x27.2.2.1 3) fun x33 =>
  HM.bind (α := Int × ByteArray × Int × Unit) (HM.loadN [.int .i64, .str, .int .i64] x33) fun x34 =>
  HM.bind (α := Bool) (HM.call1 Tryz.prog (.one .bool) 35 #[.agg #[.int .i64 x30.1, .string x30.2.1, .int .i64 x30.2.2.1], .agg #[.int .i64 x34.1, .string x34.2.1, .int .i64 x34.2.2.1]]) fun x35 =>
  HM.bind (α := Bool × Unit) (HM.ite x35 (
  HM.pure (!x27.1, ())) (
  HM.pure (false, ()))) fun x36 =>
  HM.bind (α := Slc × Bool × Unit) (HM.ite x36.1 (
  HM.bind (α := Int × ByteArray × Int × Unit) (HM.loadN [.int .i64, .str, .int .i64] ⟨x1, 0, none⟩) fun x38 =>
  HM.bind (α := Nat) (HM.new (.cells #[.int .i64 x38.1, .string x38.2.1, .int .i64 x38.2.2.1] 55)) fun x39 =>
  HM.bind (α := Slc) (HM.append 55 3 32 #[.int .i64 0, .string (ByteArray.mk #[]), .int .i64 0] x27.2.1 1 (srcSlc 3 (⟨some ⟨x39, 0, none⟩, 1, 1⟩))) fun x40 =>
  HM.pure (x40, true, ())) (
  HM.pure (x27.2.1, x27.1, ()))) fun x37 =>
  HM.bind (α := Addr) (HM.nonnil p0) fun x41 =>
  HM.bind (α := Slc) (HM.load1 .slc (Addr.add x41 0)) fun x42 =>
  HM.bind (α := Addr) (HM.idx x42.a x42.len x27.2.2.1 3) fun x43 =>
  HM.bind (α := Int × ByteArray × Int × Unit) (HM.loadN [.int .i64, .str, .int .i64] x43) fun x44 =>
  HM.bind (α := Nat) (HM.new (.cells #[.int .i64 x44.1, .string x44.2.1, .int .i64 x44.2.2.1] 55)) fun x45 =>
  HM.bind (α := Slc) (HM.append 55 3 32 #[.int .i64 0, .string (ByteArray.mk #[]), .int .i64 0] x37.1 1 (srcSlc 3 (⟨some ⟨x45, 0, none⟩, 1, 1⟩))) fun x46 =>
  HM.pure (.inl (x37.2.1, x46, IntKind.wrap .i64 (x27.2.2.1 + 1), ()))) (
  HM.pure (.inr (x27.1, x27.2.1, x27.2.2.1, ())))) (false, ⟨none, 0, 0⟩, 0, ())) fun x26 =>
  HM.bind (α := Slc × Unit) (HM.ite (!x26.1) (
  HM.bind (α := Int × ByteArray × Int × Unit) (HM.loadN [.int .i64, .str, .int .i64] ⟨x1, 0, none⟩) fun x48 =>
  HM.bind (α := Nat) (HM.new (.cells #[.int .i64 x48.1, .string x48.2.1, .int .i64 x48.2.2.1] 55)) fun x49 =>
  HM.bind (α := Slc) (HM.append 55 3 32 #[.int .i64 0, .string (ByteArray.mk #[]), .int .i64 0] x26.2.1 1 (srcSlc 3 (⟨some ⟨x49, 0, none⟩, 1, 1⟩))) fun x50 =>
  HM.pure (x50, ())) (
  HM.pure (x26.2.1, ()))) fun x47 =>
  HM.bind (α := Addr) (HM.nonnil p0) fun x51 =>
  HM.bind (α := Unit) (HM.store1 (Addr.add x51 0) (.slice x47.1.a x47.1.len x47.1.cap)) fun _ =>
  HM.pure (0, ()))) HM.pure)))

theorem ref09_Add_den (p0 : Option Addr) (p1 : Int × ByteArray × Int × Unit) : denFn Tryz.prog [34, 35] 116 [0, 1, 3, 4, 5, 6, 7, 8, 9, 10, 11, 16, 24, 31, 44, 57, 68, 75, 91, 107] [0, 1, 3, 5, 6, 7, 8, 9, 10, 11, 16, 24, 31, 44, 57, 68, 75, 91, 107] Tryz.f19.results.toList [.one (.int .i64)] (bodyOf Tryz.f19) [Kind.val (.one .ptr) p0, Kind.val (.agg [.int .i64, .str, .int .i64]) p1] = ref09_Add p0 p1 := by kernel_rfl
theorem ref09_Add_calls (p0 : Option Addr) (p1 : Int × ByteArray × Int × Unit) (h : Heap) (Q : Value → Heap → Prop) (hh : ref09_Add p0 p1 h fun x h' => Q (.int .i64 x.1) h') :
    HCalls Tryz.prog 19 #[.pointer p0, .agg #[.int .i64 p1.1, .string p1.2.1, .int .i64 p1.2.2.1]] h Q := by
  rw [← ref09_Add_den] at hh
  exact calls_of_den Tryz.func19 (by kernel_rfl) Tryz.ntmps19 (by kernel_rfl) (CC Tryz.call34 (CC Tryz.call35 CN)) orders hh

/-- (*aqueduct/trie.branch).all -/
def trie_branch_all (p0 : Option Addr) (p1 : Slc) (p2 : Value) : HM (Unit) :=
  HM.bind (α := Slc) (HM.call1 Tryz.prog (.one .slc) 36 #[.slice p1.a p1.len p1.cap]) fun x1 =>
  HM.bind (α := Slc) (HM.call1 Tryz.prog (.one .slc) 37 #[.pointer p0, .slice x1.a x1.len x1.cap, .slice none 0 0]) fun x2 =>
  HM.bind (α := Int × Unit) (HM.loop (σ := Int × Unit) (τ := Int × Unit) (fun x4 =>
  HM.ite (decide (x4.1 < (((x2.len : Nat) : Int) : Int))) (
  HM.bind (α := Addr) (HM.idx x2.a x2.len x4.1 3) fun x5 =>
  HM.bind (α := Int × ByteArray × Int × Unit) (HM.loadN [.int .i64, .str, .int .i64] x5) fun x6 =>
  HM.bind (α := Nat) (HM.new (.cells #[.int .i64 0, .string (ByteArray.mk #[]), .int .i64 0] 41)) fun x7 =>
  HM.bind (α := Unit) (HM.storeN ⟨x7, 0, none⟩ [.int .i64 x6.1, .string x6.2.1, .int .i64 x6.2.2.1]) fun _ =>
  HM.bind (α := Int × ByteArray × Int × Unit) (HM.loadN [.int .i64, .str, .int .i64] ⟨x7, 0, none⟩) fun x8 =>
  HM.bind (α := Unit) (HM.callVN Tryz.prog [] p2 #[.agg #[.int .i64 x8.1, .string x8.2.1, .int .i64 x8.2.2.1]]) fun x9 =>
  HM.pure (.inl (IntKind.wrap .i64 (x4.1 + 1), ()))) (
  HM.pure (.inr (x4.1, ())))) (0, ())) fun x3 =>
  HM.bind (α := Addr) (HM.nonnil p0) fun x10 =>
  HM.bind (α := Option Nat) (HM.load1 .map (Addr.add x10 1)) fun x11 =>
  HM.bind (α := Nat) (HM.rangeM x11) fun x12 =>
  HM.bind (α := Unit) (HM.loop (σ := Unit) (τ := Unit) (fun x14 =>
  HM.bind (α := Option (Value × Value)) (HM.nextM x12) fun x15 =>
  HM.opt x15 (
  HM.ite false (
  HM.bind (α := ByteArray × Option Addr) (HM.entryM (.one .str) (.one .ptr) x12) fun x17 =>
  HM.bind (α := Nat) (HM.new (.cells #[.string x17.1] 9)) fun x18 =>
  HM.bind (α := Slc) (HM.append 9 1 16 #[.string (ByteArray.mk #[])] x1 1 (srcSlc 1 (⟨some ⟨x18, 0, none⟩, 1, 1⟩))) fun x19 =>
  HM.bind (α := Unit) (HM.callN Tryz.prog [] 20 #[.pointer x17.2, .slice x19.a x19.len x19.cap, p2]) fun x20 =>
  HM.pure (.inl ())) (
  HM.pure (.inr ()))) fun (x16 : Value × Value) =>
  HM.ite true (
  HM.bind (α := ByteArray × Option Addr) (HM.entryM (.one .str) (.one .ptr) x12) fun x21 =>
  HM.bind (α := Nat) (HM.new (.cells #[.string x21.1] 9)) fun x22 =>
  HM.bind (α := Slc) (HM.append 9 1 16 #[.string (ByteArray.mk #[])] x1 1 (srcSlc 1 (⟨some ⟨x22, 0, none⟩, 1, 1⟩))) fun x23 =>
  HM.bind (α := Unit) (HM.callN Tryz.prog [] 20 #[.pointer x21.2, .slice x23.a x23.len x23.cap, p2]) fun x24 =>
  HM.pure (.inl ())) (
  HM.pure (.inr ()))) ()) fun x13 =>
  HM.pure ()

theorem trie_branch_all_den (p0 : Option Addr) (p1 : Slc) (p2 : Value) : denFn Tryz.prog [36, 37, 20] 41 [0, 1, 2, 7, 8, 9, 14, 15, 16, 17, 28, 30] [0, 1, 2, 7, 8, 9, 14, 15, 16, 17, 28, 30] Tryz.f20.results.toList [] (bodyOf Tryz.f20) [Kind.val (.one .ptr) p0, Kind.val (.one .slc) p1, Kind.val (.one .any) p2] = trie_branch_all p0 p1 p2 := by kernel_rfl
theorem trie_branch_all_calls (p0 : Option Addr) (p1 : Slc) (p2 : Value) (h : Heap) (Q : Value → Heap → Prop) (hh : trie_branch_all p0 p1 p2 h fun x h' => Q (.tuple #[]) h') :
    HCalls Tryz.prog 20 #[.pointer p0, .slice p1.a p1.len p1.cap, p2] h Q := by
  rw [← trie_branch_all_den] at hh
  exact calls_of_den Tryz.func20 (by kernel_rfl) Tryz.ntmps20 (by kernel_rfl) (CC Tryz.call36 (CC Tryz.call37 (CC Tryz.call20 CN))) orders hh

/-- (*aqueduct/trie.Trie).For$1 -/
def trie_Trie_For_f1 (p0 : Int × ByteArray × Int × Unit) (p1 : Addr) (p2 : Addr) : HM (Unit) :=
  HM.bind (α := Nat) (HM.new (.cells #[.int .i64 p0.1, .string p0.2.1, .int .i64 p0.2.2.1] 41)) fun x1 =>
  HM.bind (α := Int) (HM.load1 (.int .i64) (Addr.add ⟨x1, 0, none⟩ 0)) fun x2 =>
  HM.bind (α := Int) (HM.load1 (.int .i64) p1) fun x3 =>
  HM.bind (α := Unit) (HM.ite (x2 == x3) (
  HM.bind (α := Slc) (HM.load1 .slc p2) fun x5 =>
  HM.bind (α := Int × ByteArray × Int × Unit) (HM.loadN [.int .i64, .str, .int .i64] ⟨x1, 0, none⟩) fun x6 =>
  HM.bind (α := Nat) (HM.new (.cells #[.int .i64 x6.1, .string x6.2.1, .int .i64 x6.2.2.1] 41)) fun x7 =>
  HM.bind (α := Slc) (HM.append 41 3 32 #[.int .i64 0, .string (ByteArray.mk #[]), .int .i64 0] x5 1 (srcSlc 3 (⟨some ⟨x7, 0, none⟩, 1, 1⟩))) fun x8 =>
  HM.bind (α := Unit) (HM.store1 p2 (.slice x8.a x8.len x8.cap)) fun _ =>
  HM.pure ()) (
  HM.pure ())) fun x4 =>
  HM.pure ()

theorem trie_Trie_For_f1_den (p0 : Int × ByteArray × Int × Unit) (p1 : Addr) (p2 : Addr) : denFn Tryz.prog [] 12 [0, 1, 2, 3, 7] [0, 1, 2, 3, 7] Tryz.f21.results.toList [] (bodyOf Tryz.f21) [Kind.val (.agg [.int .i64, .str, .int .i64]) p0, Value.pointer (some p1), Value.pointer (some p2)] = trie_Trie_For_f1 p0 p1 p2 := by kernel_rfl
theorem trie_Trie_For_f1_calls (p0 : Int × ByteArray × Int × Unit) (p1 : Addr) (p2 : Addr) (h : Heap) (Q : Value → Heap → Prop) (hh : trie_Trie_For_f1 p0 p1 p2 h fun x h' => Q (.tuple #[]) h') :
    HCalls Tryz.prog 21 #[.agg #[.int .i64 p0.1, .string p0.2.1, .int .i64 p0.2.2.1], .pointer (some p1), .pointer (some p2)] h Q := by
  rw [← trie_Trie_For_f1_den] at hh
  exact calls_of_den Tryz.func21 (by kernel_rfl) Tryz.ntmps21 (by kernel_rfl) CN orders hh

/-- aqueduct/trie.order -/
def trie_order (p0 : Int × ByteArray × Int × Unit) (p1 : Int × ByteArray × Int × Unit) : HM (Int × Unit) :=
  HM.bind (α := Nat) (HM.new (.cells #[.int .i64 p0.1, .string p0.2.1, .int .i64 p0.2.2.1] 41)) fun x1 =>
  HM.bind (α := Nat) (HM.new (.cells #[.int .i64 p1.1, .string p1.2.1, .int .i64 p1.2.2.1] 41)) fun x2 =>
  HM.bind (α := Int) (HM.load1 (.int .i64) (Addr.add ⟨x1, 0, none⟩ 0)) fun x3 =>
  HM.bind (α := Int) (HM.load1 (.int .i64) (Addr.add ⟨x2, 0, none⟩ 0)) fun x4 =>
  HM.bind (α := ByteArray) (HM.load1 .str (Addr.add ⟨x1, 0, none⟩ 1)) fun x5 =>
  HM.bind (α := ByteArray) (HM.load1 .str (Addr.add ⟨x2, 0, none⟩ 1)) fun x6 =>
  HM.bind (α := Int) (HM.call1 Tryz.prog (.one (.int .i64)) 41 #[.int .i64 x3, .int .i64 x4]) fun x7 =>
  HM.bind (α := ByteArray) (HM.load1 .str (Addr.add ⟨x2, 0, none⟩ 1)) fun x8 =>
  HM.req ((.string x8 : Value) = .string x6) <|
  HM.bind (α := ByteArray) (HM.load1 .str (Addr.add ⟨x1, 0, none⟩ 1)) fun x9 =>
  HM.req ((.string x9 : Value) = .string x5) <|
  HM.bind (α := Int) (HM.call1 Tryz.prog (.one (.int .i64)) 42 #[.string x5, .string x6]) fun x10 =>
  HM.bind (α := Nat) (HM.new (.cells #[.int .i64 x7, .int .i64 x10] 3)) fun x11 =>
  HM.bind (α := Int) (HM.call1 Tryz.prog (.one (.int .i64)) 40 #[.slice (some ⟨x11, 0, none⟩) 2 2]) fun x12 =>
  HM.pure (x12, ())

theorem trie_order_den (p0 : Int × ByteArray × Int × Unit) (p1 : Int × ByteArray × Int × Unit) : denFn Tryz.prog [41, 42, 40] 17 [0, 1, 2, 3, 4] [0, 1, 2, 3] Tryz.f23.results.toList [.one (.int .i64)] (bodyOf Tryz.f23) [Kind.val (.agg [.int .i64, .str, .int .i64]) p0, Kind.val (.agg [.int .i64, .str, .int .i64]) p1] = trie_order p0 p1 := by kernel_rfl
theorem trie_order_calls (p0 : Int × ByteArray × Int × Unit) (p1 : Int × ByteArray × Int × Unit) (h : Heap) (Q : Value → Heap → Prop) (hh : trie_order p0 p1 h fun x h' => Q (.int .i64 x.1) h') :
    HCalls Tryz.prog 23 #[.agg #[.int .i64 p0.1, .string p0.2.1, .int .i64 p0.2.2.1], .agg #[.int .i64 p1.1, .string p1.2.1, .int .i64 p1.2.2.1]] h Q := by
  rw [← trie_order_den] at hh
  exact calls_of_den Tryz.func23 (by kernel_rfl) Tryz.ntmps23 (by kernel_rfl) (CC Tryz.call41 (CC Tryz.call42 (CC Tryz.call40 CN))) orders hh

/-- (*aqueduct/trie.Trie).Filters$1 -/
def trie_Trie_Filters_f1 (p0 : Int × ByteArray × Int × Unit) (p1 : Addr) : HM (Unit) :=
  HM.bind (α := Nat) (HM.new (.cells #[.int .i64 p0.1, .string p0.2.1, .int .i64 p0.2.2.1] 41)) fun x1 =>
  HM.bind (α := Option Nat) (HM.load1 .map p1) fun x2 =>
  HM.bind (α := ByteArray) (HM.load1 .str (Addr.add ⟨x1, 0, none⟩ 1)) fun x3 =>
  HM.bind (α := Unit) (HM.mapSet (Instr.sameNow .string) x2 (.string x3) (.bool true)) fun _ =>
  HM.pure ()

theorem trie_Trie_Filters_f1_den (p0 : Int × ByteArray × Int × Unit) (p1 : Addr) : denFn Tryz.prog [] 6 [0, 1, 2] [0, 1, 2] Tryz.f24.results.toList [] (bodyOf Tryz.f24) [Kind.val (.agg [.int .i64, .str, .int .i64]) p0, Value.pointer (some p1)] = trie_Trie_Filters_f1 p0 p1 := by kernel_rfl
theorem trie_Trie_Filters_f1_calls (p0 : Int × ByteArray × Int × Unit) (p1 : Addr) (h : Heap) (Q : Value → Heap → Prop) (hh : trie_Trie_Filters_f1 p0 p1 h fun x h' => Q (.tuple #[]) h') :
    HCalls Tryz.prog 24 #[.agg #[.int .i64 p0.1, .string p0.2.1, .int .i64 p0.2.2.1], .pointer (some p1)] h Q := by
  rw [← trie_Trie_Filters_f1_den] at hh
  exact calls_of_den Tryz.func24 (by kernel_rfl) Tryz.ntmps24 (by kernel_rfl) CN orders hh

/-- aqueduct/topic.CheckName -/
def topic_CheckName (p0 : ByteArray) : HM (Int × Unit) :=
  HM.bind (α := Bool × Unit) (HM.bind (α := Bool) (HM.call1 Tryz.prog (.one .bool) 46 #[.string p0]) fun x1 =>
  HM.ite (!x1) (
  HM.pure (true, ())) (
  HM.bind (α := Bool) (HM.call1 Tryz.prog (.one .bool) 47 #[.string p0, .string (ByteArray.mk #[43])]) fun x2 =>
  HM.ite x2 (
  HM.pure (true, ())) (
  HM.bind (α := Bool) (HM.call1 Tryz.prog (.one .bool) 47 #[.string p0, .string (ByteArray.mk #[35])]) fun x3 =>
  HM.pure (x3, ())))) fun x4 =>
  HM.ite x4.1 (
  HM.pure (144, ())) (
  HM.pure (0, ()))

theorem topic_CheckName_den (p0 : ByteArray) : denFn Tryz.prog [46, 47] 14 [0, 2, 13] [0, 13] Tryz.f27.results.toList [.one (.int .u8)] (bodyOf Tryz.f27) [Kind.val (.one .str) p0] = topic_CheckName p0 := by kernel_rfl
theorem topic_CheckName_calls (p0 : ByteArray) (h : Heap) (Q : Value → Heap → Prop) (hh : topic_CheckName p0 h fun x h' => Q (.int .u8 x.1) h') :
    HCalls Tryz.prog 27 #[.string p0] h Q := by
  rw [← topic_CheckName_den] at hh
  exact calls_of_den Tryz.func27 (by kernel_rfl) Tryz.ntmps27 (by kernel_rfl) (CC Tryz.call46 (CC Tryz.call47 CN)) orders hh

/-- (*aqueduct/trie.branch).match -/
def trie_branch_match (p0 : Option Addr) (p1 : Slc) (p2 : Slc) (p3 : Bool) (p4 : Slc) : HM (Slc × Unit) :=
  HM.ite (Option.isNone p0) (
  HM.pure (p4, ())) (
  HM.bind (α := Slc) (HM.call1 Tryz.prog (.one .slc) 36 #[.slice p1.a p1.len p1.cap]) fun x1 =>
  HM.bind (α := Addr) (HM.nonnil p0) fun x2 =>
  HM.bind (α := Option Nat) (HM.load1 .map (Addr.add x2 1)) fun x3 =>
  HM.bind (α := Option Addr × Bool) (HM.lookup (Instr.sameNow .string) (.pointer none) (.one .ptr) x3 (.string (ByteArray.mk #[35]))) fun x4 =>
  HM.bind (α := Bool × Unit) (HM.ite (!(Option.isNone x4.1)) (
  HM.pure (!p3, ())) (
  HM.pure (false, ()))) fun x5 =>
  HM.bind (α := Slc × Unit) (HM.ite x5.1 (
  HM.bind (α := Nat) (HM.new (.cells #[.string (ByteArray.mk #[35])] 9)) fun x7 =>
  HM.bind (α := Slc) (HM.append 9 1 16 #[.string (ByteArray.mk #[])] x1 1 (srcSlc 1 (⟨some ⟨x7, 0, none⟩, 1, 1⟩))) fun x8 =>
  HM.bind (α := Slc) (HM.call1 Tryz.prog (.one .slc) 37 #[.pointer x4.1, .slice x8.a x8.len x8.cap, .slice p4.a p4.len p4.cap]) fun x9 =>
  HM.pure (x9, ())) (
  HM.pure (p4, ()))) fun x6 =>
  HM.ite (((p2.len : Nat) : Int) == 0) (
  HM.bind (α := Slc) (HM.call1 Tryz.prog (.one .slc) 37 #[.pointer p0, .slice x1.a x1.len x1.cap, .slice x6.1.a x6.1.len x6.1.cap]) fun x10 =>
  HM.pure (x10, ())) (
  HM.bind (α := Slc × Unit) (HM.ite (!p3) (
  HM.bind (α := Addr) (HM.nonnil p0) fun x12 =>
  HM.bind (α := Option Nat) (HM.load1 .map (Addr.add x12 1)) fun x13 =>
  HM.bind (α := Option Addr × Bool) (HM.lookup (Instr.sameNow .string) (.pointer none) (.one .ptr) x13 (.string (ByteArray.mk #[43]))) fun x14 =>
  HM.bind (α := Slc) (HM.slice p2 (some 1) none none 1) fun x15 =>
  HM.bind (α := Nat) (HM.new (.cells #[.string (ByteArray.mk #[43])] 9)) fun x16 =>
  HM.bind (α := Option Addr × Bool) (HM.lookup (Instr.sameNow .string) (.pointer none) (.one .ptr) x13 (.string (ByteArray.mk #[43]))) fun x17 =>
  HM.req ((.pointer x17.1 : Value) = .pointer x14.1) <|
  HM.bind (α := Option Nat) (HM.load1 .map (Addr.add x12 1)) fun x18 =>
  HM.req ((.map x18 : Value) = .map x13) <|
  HM.bind (α := Slc) (HM.append 9 1 16 #[.string (ByteArray.mk #[])] x1 1 (srcSlc 1 (⟨some ⟨x16, 0, none⟩, 1, 1⟩))) fun x19 =>
  HM.bind (α := Option Addr × Bool) (HM.lookup (Instr.sameNow .string) (.pointer none) (.one .ptr) x13 (.string (ByteArray.mk #[43]))) fun x20 =>
  HM.req ((.pointer x20.1 : Value) = .pointer x14.1) <|
  HM.bind (α := Option Nat) (HM.load1 .map (Addr.add x12 1)) fun x21 =>
  HM.req ((.map x21 : Value) = .map x13) <|
  HM.bind (α := Slc) (HM.call1 Tryz.prog (.one .slc) 28 #[.pointer x14.1, .slice x19.a x19.len x19.cap, .slice x15.a x15.len x15.cap, .bool false, .slice x6.1.a x6.1.len x6.1.cap]) fun x22 =>
  HM.pure (x22, ())) (
  HM.pure (x6.1, ()))) fun x11 =>
  HM.bind (α := Addr) (HM.nonnil p0) fun x23 =>
  HM.bind (α := Option Nat) (HM.load1 .map (Addr.add x23 1)) fun x24 =>
  HM.bind (α := Addr) (HM.idx p2.a p2.len 0 1) fun x25 =>
  HM.bind (α := ByteArray) (HM.load1 .str x25) fun x26 =>
  HM.bind (α := Option Addr × Bool) (HM.lookup (Instr.sameNow .string) (.pointer none) (.one .ptr) x24 (.string x26)) fun x27 =>
  HM.bind (α := Addr) (HM.idx p2.a p2.len 0 1) fun x28 =>
  HM.bind (α := ByteArray) (HM.load1 .str x28) fun x29 =>
  HM.bind (α := Slc) (HM.slice p2 (some 1) none none 1) fun x30 =>
  HM.bind (α := Nat) (HM.new (.cells #[.string x29] 9)) fun x31 =>
  HM.bind (α := Option Addr × Bool) (HM.lookup (Instr.sameNow .string) (.pointer none) (.one .ptr) x24 (.string x26)) fun x32 =>
  HM.req ((.pointer x32.1 : Value) = .pointer x27.1) <|
  HM.bind (α := ByteArray) (HM.load1 .str x25) fun x33 =>
  HM.req ((.string x33 : Value) = .string x26) <|
  HM.bind (α := Option Nat) (HM.load1 .map (Addr.add x23 1)) fun x34 =>
  HM.req ((.map x34 : Value) = .map x24) <|
  HM.bind (α := Slc) (HM.append 9 1 16 #[.string (ByteArray.mk #[])] x1 1 (srcSlc 1 (⟨some ⟨x31, 0, none⟩, 1, 1⟩))) fun x35 =>
  HM.bind (α := Option Addr × Bool) (HM.lookup (Instr.sameNow .string) (.pointer none) (.one .ptr) x24 (.string x26)) fun x36 =>
  HM.req ((.pointer x36.1 : Value) = .pointer x27.1) <|
  HM.bind (α := ByteArray) (HM.load1 .str x25) fun x37 =>
  HM.req ((.string x37 : Value) = .string x26) <|
  HM.bind (α := Option Nat) (HM.load1 .map (Addr.add x23 1)) fun x38 =>
  HM.req ((.map x38 : Value) = .map x24) <|
  HM.bind (α := Slc) (HM.call1 Tryz.prog (.one .slc) 28 #[.pointer x27.1, .slice x35.a x35.len x35.cap, .slice x30.a x30.len x30.cap, .bool false, .slice x11.1.a x11.1.len x11.1.cap]) fun x39 =>
  HM.pure (x39, ())))

theorem trie_branch_match_den (p0 : Option Addr) (p1 : Slc) (p2 : Slc) (p3 : Bool) (p4 : Slc) : denFn Tryz.prog [36, 37, 28] 73 [0, 1, 2, 3, 4, 10, 11, 13, 27, 36, 42] [0, 1, 2, 3, 4, 11, 13, 27, 36, 42] Tryz.f28.results.toList [.one .slc] (bodyOf Tryz.f28) [Kind.val (.one .ptr) p0, Kind.val (.one .slc) p1, Kind.val (.one .slc) p2, Kind.val (.one .bool) p3, Kind.val (.one .slc) p4] = trie_branch_match p0 p1 p2 p3 p4 := by kernel_rfl
theorem trie_branch_match_calls (p0 : Option Addr) (p1 : Slc) (p2 : Slc) (p3 : Bool) (p4 : Slc) (h : Heap) (Q : Value → Heap → Prop) (hh : trie_branch_match p0 p1 p2 p3 p4 h fun x h' => Q (.slice x.1.a x.1.len x.1.cap) h') :
    HCalls Tryz.prog 28 #[.pointer p0, .slice p1.a p1.len p1.cap, .slice p2.a p2.len p2.cap, .bool p3, .slice p4.a p4.len p4.cap] h Q := by
  rw [← trie_branch_match_den] at hh
  exact calls_of_den Tryz.func28 (by kernel_rfl) Tryz.ntmps28 (by kernel_rfl) (CC Tryz.call36 (CC Tryz.call37 (CC Tryz.call28 CN))) orders hh

/-- aqueduct/topic.Levels -/
def topic_Levels (p0 : ByteArray) : HM (Slc × Unit) :=
  HM.bind (α := Slc) (HM.call1 Tryz.prog (.one .slc) 48 #[.string p0, .string (ByteArray.mk #[47])]) fun x1 =>
  HM.pure (x1, ())

theorem topic_Levels_den (p0 : ByteArray) : denFn Tryz.prog [48] 5 [0, 2] [0] Tryz.f29.results.toList [.one .slc] (bodyOf Tryz.f29) [Kind.val (.one .str) p0] = topic_Levels p0 := by kernel_rfl
theorem topic_Levels_calls (p0 : ByteArray) (h : Heap) (Q : Value → Heap → Prop) (hh : topic_Levels p0 h fun x h' => Q (.slice x.1.a x.1.len x.1.cap) h') :
    HCalls Tryz.prog 29 #[.string p0] h Q := by
  rw [← topic_Levels_den] at hh
  exact calls_of_den Tryz.func29 (by kernel_rfl) Tryz.ntmps29 (by kernel_rfl) (CC Tryz.call48 CN) orders hh

/-- aqueduct/topic.CheckFilter -/
def topic_CheckFilter (p0 : ByteArray) : HM (Int × Unit) :=
  HM.bind (α := Bool) (HM.call1 Tryz.prog (.one .bool) 46 #[.string p0]) fun x1 =>
  HM.ite (!x1) (
  HM.pure (143, ())) (
  HM.bind (α := Slc) (HM.call1 Tryz.prog (.one .slc) 29 #[.string p0]) fun x2 =>
  HM.bind (α := (Int × Unit) ⊕ (Int × Unit)) (HM.loop (σ := Int × Unit) (τ := (Int × Unit) ⊕ (Int × Unit)) (fun x4 =>
  HM.ite (decide (x4.1 < (((x2.len : Nat) : Int) : Int))) (
  HM.bind (α := Addr) (HM.idx x2.a x2.len x4.1 1) fun x5 =>
  HM.bind (α := ByteArray) (HM.load1 .str x5) fun x6 =>
  HM.bind (α := (Unit) ⊕ ((Int × Unit) ⊕ ((Int × Unit) ⊕ (Int × Unit)))) (HM.bind (α := (Unit) ⊕ ((Unit) ⊕ ((Int × Unit) ⊕ ((Int × Unit) ⊕ (Int × Unit))))) (HM.bind (α := (Unit) ⊕ ((Unit) ⊕ ((Unit) ⊕ ((Int × Unit) ⊕ ((Int × Unit) ⊕ (Int × Unit)))))) (HM.bind (α := Bool) (HM.call1 Tryz.prog (.one .bool) 47 #[.string x6, .string (ByteArray.mk #[35])]) fun x10 =>
  HM.ite x10 (
  HM.pure (.inl ())) (
  HM.bind (α := Bool) (HM.call1 Tryz.prog (.one .bool) 47 #[.string x6, .string (ByteArray.mk #[43])]) fun x11 =>
  HM.ite x11 (
  HM.pure (.inr (.inl ()))) (
  HM.pure (.inr (.inr (.inl ())))))) (Sum.elim (fun x9 =>
  HM.ite (decide (x4.1 < ((IntKind.wrap .i64 (((x2.len : Nat) : Int) - 1)) : Int))) (
  HM.pure (.inr (.inr (.inr (.inr (143, ())))))) (
  HM.pure (.inl ()))) HM.pure)) (Sum.elim (fun x8 =>
  HM.ite (decide (1 < (((ByteArray.size x6 : Nat) : Int) : Int))) (
  HM.pure (.inr (.inr (.inr (143, ()))))) (
  HM.pure (.inl ()))) HM.pure)) (Sum.elim (fun x7 =>
  HM.pure (.inl (IntKind.wrap .i64 (x4.1 + 1), ()))) HM.pure)) (
  HM.pure (.inr (.inl (x4.1, ()))))) (0, ())) (Sum.elim (fun x3 =>
  HM.pure (0, ())) HM.pure))

theorem topic_CheckFilter_den (p0 : ByteArray) : denFn Tryz.prog [46, 29, 47] 33 [0, 2, 3, 4, 5, 8, 11, 12, 13, 14, 18, 21, 28, 31] [0, 3, 4, 5, 8, 11, 12, 13, 14, 18, 21, 28, 31] Tryz.f30.results.toList [.one (.int .u8)] (bodyOf Tryz.f30) [Kind.val (.one .str) p0] = topic_CheckFilter p0 := by kernel_rfl
theorem topic_CheckFilter_calls (p0 : ByteArray) (h : Heap) (Q : Value → Heap → Prop) (hh : topic_CheckFilter p0 h fun x h' => Q (.int .u8 x.1) h') :
    HCalls Tryz.prog 30 #[.string p0] h Q := by
  rw [← topic_CheckFilter_den] at hh
  exact calls_of_den Tryz.func30 (by kernel_rfl) Tryz.ntmps30 (by kernel_rfl) (CC Tryz.call46 (CC Tryz.call29 (CC Tryz.call47 CN))) orders hh

/-- (*aqueduct/trie.Trie).find -/
def trie_Trie_find (p0 : Option Addr) (p1 : ByteArray) : HM (Option Addr × Unit) :=
  HM.bind (α := Addr) (HM.nonnil p0) fun x1 =>
  HM.bind (α := Option Addr) (HM.load1 .ptr (Addr.add x1 0)) fun x2 =>
  HM.bind (α := Slc) (HM.call1 Tryz.prog (.one .slc) 29 #[.string p1]) fun x3 =>
  HM.bind (α := (Option Addr × Int × Unit) ⊕ (Option Addr × Unit)) (HM.loop (σ := Option Addr × Int × Unit) (τ := (Option Addr × Int × Unit) ⊕ (Option Addr × Unit)) (fun x5 =>
  HM.ite (decide (x5.2.1 < (((x3.len : Nat) : Int) : Int))) (
  HM.bind (α := Addr) (HM.idx x3.a x3.len x5.2.1 1) fun x6 =>
  HM.bind (α := ByteArray) (HM.load1 .str x6) fun x7 =>
  HM.bind (α := Addr) (HM.nonnil x5.1) fun x8 =>
  HM.bind (α := Option Nat) (HM.load1 .map (Addr.add x8 1)) fun x9 =>
  HM.bind (α := Option Addr × Bool) (HM.lookup (Instr.sameNow .string) (.pointer none) (.one .ptr) x9 (.string x7)) fun x10 =>
  HM.ite (Option.isNone x10.1) (
  HM.pure (.inr (.inr (none, ())))) (
  HM.pure (.inl (x10.1, IntKind.wrap .i64 (x5.2.1 + 1), ())))) (
  HM.pure (.inr (.inl (x5.1, x5.2.1, ()))))) (x2, 0, ())) (Sum.elim (fun x4 =>
  HM.pure (x4.1, ())) HM.pure)

theorem trie_Trie_find_den (p0 : Option Addr) (p1 : ByteArray) : denFn Tryz.prog [29] 29 [0, 1, 4, 5, 7, 13, 14, 15, 16, 26] [0, 1, 5, 7, 13, 14, 15, 16, 26] Tryz.f31.results.toList [.one .ptr] (bodyOf Tryz.f31) [Kind.val (.one .ptr) p0, Kind.val (.one .str) p1] = trie_Trie_find p0 p1 := by kernel_rfl
theorem trie_Trie_find_calls (p0 : Option Addr) (p1 : ByteArray) (h : Heap) (Q : Value → Heap → Prop) (hh : trie_Trie_find p0 p1 h fun x h' => Q (.pointer x.1) h') :
    HCalls Tryz.prog 31 #[.pointer p0, .string p1] h Q := by
  rw [← trie_Trie_find_den] at hh
  exact calls_of_den Tryz.func31 (by kernel_rfl) Tryz.ntmps31 (by kernel_rfl) (CC Tryz.call29 CN) orders hh

/-- aqueduct/trie.sprout -/
def trie_sprout : HM (Option Addr × Unit) :=
  HM.bind (α := Nat) (HM.new (.map #[] 0)) fun x1 =>
  HM.bind (α := Nat) (HM.new (.map #[] 0)) fun x2 =>
  HM.bind (α := Nat) (HM.new (.cells #[.map (some x1), .map (some x2)] 76)) fun x3 =>
  HM.pure (some ⟨x3, 0, none⟩, ())

theorem trie_sprout_den : denFn Tryz.prog [] 5 [0] [] Tryz.f32.results.toList [.one .ptr] (bodyOf Tryz.f32) [] = trie_sprout := by kernel_rfl
theorem trie_sprout_calls (h : Heap) (Q : Value → Heap → Prop) (hh : trie_sprout h fun x h' => Q (.pointer x.1) h') :
    HCalls Tryz.prog 32 #[] h Q := by
  rw [← trie_sprout_den] at hh
  exact calls_of_den Tryz.func32 (by kernel_rfl) Tryz.ntmps32 (by kernel_rfl) CN orders hh

/-- (*aqueduct/trie.branch).prune -/
def trie_branch_prune (p0 : Option Addr) (p1 : Int) (p2 : Slc) : HM (Bool × Unit) :=
  HM.bind (α := Unit) (HM.ite (((p2.len : Nat) : Int) == 0) (
  HM.bind (α := Addr) (HM.nonnil p0) fun x2 =>
  HM.bind (α := Option Nat) (HM.load1 .map (Addr.add x2 0)) fun x3 =>
  HM.bind (α := Unit) (HM.mapDel (Instr.sameNow (.int .i64)) x3 (.int .i64 p1)) fun _ =>
  HM.pure ()) (
  HM.bind (α := Addr) (HM.nonnil p0) fun x4 =>
  HM.bind (α := Option Nat) (HM.load1 .map (Addr.add x4 1)) fun x5 =>
  HM.bind (α := Addr) (HM.idx p2.a p2.len 0 1) fun x6 =>
  HM.bind (α := ByteArray) (HM.load1 .str x6) fun x7 =>
  HM.bind (α := Option Addr × Bool) (HM.lookup (Instr.sameNow .string) (.pointer none) (.one .ptr) x5 (.string x7)) fun x8 =>
  HM.bind (α := Bool × Unit) (HM.ite (!(Option.isNone x8.1)) (
  HM.bind (α := Slc) (HM.slice p2 (some 1) none none 1) fun x9 =>
  HM.bind (α := Bool) (HM.call1 Tryz.prog (.one .bool) 33 #[.pointer x8.1, .int .i64 p1, .slice x9.a x9.len x9.cap]) fun x10 =>
  HM.pure (x10, ())) (
  HM.pure (false, ()))) fun x11 =>
  HM.bind (α := Unit) (HM.ite x11.1 (
  HM.bind (α := Addr) (HM.nonnil p0) fun x13 =>
  HM.bind (α := Option Nat) (HM.load1 .map (Addr.add x13 1)) fun x14 =>
  HM.bind (α := Addr) (HM.idx p2.a p2.len 0 1) fun x15 =>
  HM.bind (α := ByteArray) (HM.load1 .str x15) fun x16 =>
  HM.bind (α := Unit) (HM.mapDel (Instr.sameNow .string) x14 (.string x16)) fun _ =>
  HM.pure ()) (
  HM.pure ())) fun x12 =>
  HM.pure ())) fun x1 =>
  HM.bind (α := Bool × Unit) (HM.bind (α := Addr) (HM.nonnil p0) fun x17 =>
  HM.bind (α := Option Nat) (HM.load1 .map (Addr.add x17 0)) fun x18 =>
  HM.bind (α := Int) (HM.mapLen x18) fun x19 =>
  HM.ite (x19 == 0) (
  HM.bind (α := Addr) (HM.nonnil p0) fun x20 =>
  HM.bind (α := Option Nat) (HM.load1 .map (Addr.add x20 1)) fun x21 =>
  HM.bind (α := Int) (HM.mapLen x21) fun x22 =>
  HM.pure (x22 == 0, ())) (
  HM.pure (false, ()))) fun x23 =>
  HM.pure (x23.1, ())

theorem trie_branch_prune_den (p0 : Option Addr) (p1 : Int) (p2 : Slc) : denFn Tryz.prog [33] 54 [0, 1, 2, 6, 7, 10, 32] [0, 1, 2, 7, 10, 32] Tryz.f33.results.toList [.one .bool] (bodyOf Tryz.f33) [Kind.val (.one .ptr) p0, Kind.val (.one (.int .i64)) p1, Kind.val (.one .slc) p2] = trie_branch_prune p0 p1 p2 := by kernel_rfl
theorem trie_branch_prune_calls (p0 : Option Addr) (p1 : Int) (p2 : Slc) (h : Heap) (Q : Value → Heap → Prop) (hh : trie_branch_prune p0 p1 p2 h fun x h' => Q (.bool x.1) h') :
    HCalls Tryz.prog 33 #[.pointer p0, .int .i64 p1, .slice p2.a p2.len p2.cap] h Q := by
  rw [← trie_branch_prune_den] at hh
  exact calls_of_den Tryz.func33 (by kernel_rfl) Tryz.ntmps33 (by kernel_rfl) (CC Tryz.call33 CN) orders hh

/-- aqueduct/aqueductref07.CheckFilter -/
def ref07_CheckFilter (p0 : ByteArray) : HM (Int × Unit) :=
  HM.bind (α := Bool) (HM.call1 Tryz.prog (.one .bool) 49 #[.string p0]) fun x1 =>
  HM.ite (!x1) (
  HM.pure (143, ())) (
  HM.bind (α := Slc) (HM.call1 Tryz.prog (.one .slc) 50 #[.string p0]) fun x2 =>
  HM.bind (α := (Int × Unit) ⊕ (Int × Unit)) (HM.loop (σ := Int × Unit) (τ := (Int × Unit) ⊕ (Int × Unit)) (fun x4 =>
  HM.ite (decide (x4.1 < (((x2.len : Nat) : Int) : Int))) (
  HM.bind (α := Addr) (HM.idx x2.a x2.len x4.1 1) fun x5 =>
  HM.bind (α := ByteArray) (HM.load1 .str x5) fun x6 =>
  HM.bind (α := Bool) (HM.call1 Tryz.prog (.one .bool) 51 #[.string x6, .int .u8 43]) fun x7 =>
  HM.bind (α := Addr) (HM.idx x2.a x2.len x4.1 1) fun x8 =>
  HM.bind (α := ByteArray) (HM.load1 .str x8) fun x9 =>
  HM.bind (α := Bool) (HM.call1 Tryz.prog (.one .bool) 51 #[.string x9, .int .u8 35]) fun x10 =>
  HM.bind (α := Bool × Unit) (HM.ite x7 (
  HM.bind (α := Addr) (HM.idx x2.a x2.len x4.1 1) fun x11 =>
  HM.bind (α := ByteArray) (HM.load1 .str x11) fun x12 =>
  HM.pure (!(decide (x12 = (ByteArray.mk #[43]))), ())) (
  HM.pure (false, ()))) fun x13 =>
  HM.ite x13.1 (
  HM.pure (.inr (.inr (143, ())))) (
  HM.bind (α := Bool × Unit) (HM.ite x10 (
  HM.bind (α := Addr) (HM.idx x2.a x2.len x4.1 1) fun x14 =>
  HM.bind (α := ByteArray) (HM.load1 .str x14) fun x15 =>
  HM.ite (!(decide (x15 = (ByteArray.mk #[35])))) (
  HM.pure (true, ())) (
  HM.pure (decide (x4.1 < ((IntKind.wrap .i64 (((x2.len : Nat) : Int) - 1)) : Int)), ()))) (
  HM.pure (false, ()))) fun x16 =>
  HM.ite x16.1 (
  HM.pure (.inr (.inr (143, ())))) (
  HM.pure (.inl (IntKind.wrap .i64 (x4.1 + 1), ()))))) (
  HM.pure (.inr (.inl (x4.1, ()))))) (0, ())) (Sum.elim (fun x3 =>
  HM.pure (0, ())) HM.pure))

theorem ref07_CheckFilter_den (p0 : ByteArray) : denFn Tryz.prog [49, 50, 51] 53 [0, 2, 3, 4, 5, 6, 7, 11, 17, 37, 52] [0, 3, 4, 5, 6, 7, 11, 17, 37, 52] Tryz.f34.results.toList [.one (.int .i64)] (bodyOf Tryz.f34) [Kind.val (.one .str) p0] = ref07_CheckFilter p0 := by kernel_rfl
theorem ref07_CheckFilter_calls (p0 : ByteArray) (h : Heap) (Q : Value → Heap → Prop) (hh : ref07_CheckFilter p0 h fun x h' => Q (.int .i64 x.1) h') :
    HCalls Tryz.prog 34 #[.string p0] h Q := by
  rw [← ref07_CheckFilter_den] at hh
  exact calls_of_den Tryz.func34 (by kernel_rfl) Tryz.ntmps34 (by kernel_rfl) (CC Tryz.call49 (CC Tryz.call50 (CC Tryz.call51 CN))) orders hh

/-- aqueduct/aqueductref09.ahead -/
def ref09_ahead (p0 : Int × ByteArray × Int × Unit) (p1 : Int × ByteArray × Int × Unit) : HM (Bool × Unit) :=
  HM.bind (α := Nat) (HM.new (.cells #[.int .i64 p0.1, .string p0.2.1, .int .i64 p0.2.2.1] 55)) fun x1 =>
  HM.bind (α := Nat) (HM.new (.cells #[.int .i64 p1.1, .string p1.2.1, .int .i64 p1.2.2.1] 55)) fun x2 =>
  HM.bind (α := Bool × Unit) (HM.bind (α := Int) (HM.load1 (.int .i64) (Addr.add ⟨x1, 0, none⟩ 0)) fun x3 =>
  HM.bind (α := Int) (HM.load1 (.int .i64) (Addr.add ⟨x2, 0, none⟩ 0)) fun x4 =>
  HM.ite (decide (x3 < (x4 : Int))) (
  HM.pure (true, ())) (
  HM.bind (α := Int) (HM.load1 (.int .i64) (Addr.add ⟨x1, 0, none⟩ 0)) fun x5 =>
  HM.bind (α := Int) (HM.load1 (.int .i64) (Addr.add ⟨x2, 0, none⟩ 0)) fun x6 =>
  HM.ite (x5 == x6) (
  HM.bind (α := ByteArray) (HM.load1 .str (Addr.add ⟨x1, 0, none⟩ 1)) fun x7 =>
  HM.bind (α := ByteArray) (HM.load1 .str (Addr.add ⟨x2, 0, none⟩ 1)) fun x8 =>
  HM.pure (Op.bytesLess x7.toList x8.toList, ())) (
  HM.pure (false, ())))) fun x9 =>
  HM.pure (x9.1, ())

theorem ref09_ahead_den (p0 : Int × ByteArray × Int × Unit) (p1 : Int × ByteArray × Int × Unit) : denFn Tryz.prog [] 24 [0, 1, 2, 3, 4] [0, 1, 2, 3] Tryz.f35.results.toList [.one .bool] (bodyOf Tryz.f35) [Kind.val (.agg [.int .i64, .str, .int .i64]) p0, Kind.val (.agg [.int .i64, .str, .int .i64]) p1] = ref09_ahead p0 p1 := by kernel_rfl
theorem ref09_ahead_calls (p0 : Int × ByteArray × Int × Unit) (p1 : Int × ByteArray × Int × Unit) (h : Heap) (Q : Value → Heap → Prop) (hh : ref09_ahead p0 p1 h fun x h' => Q (.bool x.1) h') :
    HCalls Tryz.prog 35 #[.agg #[.int .i64 p0.1, .string p0.2.1, .int .i64 p0.2.2.1], .agg #[.int .i64 p1.1, .string p1.2.1, .int .i64 p1.2.2.1]] h Q := by
  rw [← ref09_ahead_den] at hh
  exact calls_of_den Tryz.func35 (by kernel_rfl) Tryz.ntmps35 (by kernel_rfl) CN orders hh

/-- slices.Clip[[]string,string] -/
def slices_Clip (p0 : Slc) : HM (Slc × Unit) :=
  HM.bind (α := Slc) (HM.slice p0 none (some ((p0.len : Nat) : Int)) (some ((p0.len : Nat) : Int)) 1) fun x1 =>
  HM.pure (x1, ())

theorem slices_Clip_den (p0 : Slc) : denFn Tryz.prog [] 9 [0, 2] [0] Tryz.f36.results.toList [.one .slc] (bodyOf Tryz.f36) [Kind.val (.one .slc) p0] = slices_Clip p0 := by kernel_rfl
theorem slices_Clip_calls (p0 : Slc) (h : Heap) (Q : Value → Heap → Prop) (hh : slices_Clip p0 h fun x h' => Q (.slice x.1.a x.1.len x.1.cap) h') :
    HCalls Tryz.prog 36 #[.slice p0.a p0.len p0.cap] h Q := by
  rw [← slices_Clip_den] at hh
  exact calls_of_den Tryz.func36 (by kernel_rfl) Tryz.ntmps36 (by kernel_rfl) CN orders hh

/-- (*aqueduct/trie.branch).take -/
def trie_branch_take (p0 : Option Addr) (p1 : Slc) (p2 : Slc) : HM (Slc × Unit) :=
  HM.bind (α := Addr) (HM.nonnil p0) fun x1 =>
  HM.bind (α := Option Nat) (HM.load1 .map (Addr.add x1 0)) fun x2 =>
  HM.bind (α := Nat) (HM.rangeM x2) fun x3 =>
  HM.bind (α := Slc × Unit) (HM.loop (σ := Slc × Unit) (τ := Slc × Unit) (fun x5 =>
  HM.bind (α := Option (Value × Value)) (HM.nextM x3) fun x6 =>
  HM.opt x6 (
  HM.ite false (
  HM.bind (α := Int × Int) (HM.entryM (.one (.int .i64)) (.one (.int .i64)) x3) fun x8 =>
  HM.bind (α := ByteArray) (HM.call1 Tryz.prog (.one .str) 52 #[.slice p1.a p1.len p1.cap]) fun x9 =>
  HM.bind (α := Nat) (HM.new (.cells #[.int .i64 x8.1, .string x9, .int .i64 x8.2] 41)) fun x10 =>
  HM.bind (α := Slc) (HM.append 41 3 32 #[.int .i64 0, .string (ByteArray.mk #[]), .int .i64 0] x5.1 1 (srcSlc 3 (⟨some ⟨x10, 0, none⟩, 1, 1⟩))) fun x11 =>
  HM.pure (.inl (x11, ()))) (
  HM.pure (.inr (x5.1, ())))) fun (x7 : Value × Value) =>
  HM.ite true (
  HM.bind (α := Int × Int) (HM.entryM (.one (.int .i64)) (.one (.int .i64)) x3) fun x12 =>
  HM.bind (α := ByteArray) (HM.call1 Tryz.prog (.one .str) 52 #[.slice p1.a p1.len p1.cap]) fun x13 =>
  HM.bind (α := Nat) (HM.new (.cells #[.int .i64 x12.1, .string x13, .int .i64 x12.2] 41)) fun x14 =>
  HM.bind (α := Slc) (HM.append 41 3 32 #[.int .i64 0, .string (ByteArray.mk #[]), .int .i64 0] x5.1 1 (srcSlc 3 (⟨some ⟨x14, 0, none⟩, 1, 1⟩))) fun x15 =>
  HM.pure (.inl (x15, ()))) (
  HM.pure (.inr (x5.1, ())))) (p2, ())) fun x4 =>
  HM.pure (x4.1, ())

theorem trie_branch_take_den (p0 : Option Addr) (p1 : Slc) (p2 : Slc) : denFn Tryz.prog [52] 28 [0, 1, 2, 6, 7, 8, 13, 15] [0, 1, 2, 7, 8, 13, 15] Tryz.f37.results.toList [.one .slc] (bodyOf Tryz.f37) [Kind.val (.one .ptr) p0, Kind.val (.one .slc) p1, Kind.val (.one .slc) p2] = trie_branch_take p0 p1 p2 := by kernel_rfl
theorem trie_branch_take_calls (p0 : Option Addr) (p1 : Slc) (p2 : Slc) (h : Heap) (Q : Value → Heap → Prop) (hh : trie_branch_take p0 p1 p2 h fun x h' => Q (.slice x.1.a x.1.len x.1.cap) h') :
    HCalls Tryz.prog 37 #[.pointer p0, .slice p1.a p1.len p1.cap, .slice p2.a p2.len p2.cap] h Q := by
  rw [← trie_branch_take_den] at hh
  exact calls_of_den Tryz.func37 (by kernel_rfl) Tryz.ntmps37 (by kernel_rfl) (CC Tryz.call52 CN) orders hh

/-- cmp.Or[int] -/
def cmp_Or (p0 : Slc) : HM (Int × Unit) :=
  HM.bind (α := (Int × Unit) ⊕ (Int × Unit)) (HM.loop (σ := Int × Unit) (τ := (Int × Unit) ⊕ (Int × Unit)) (fun x2 =>
  HM.ite (decide (x2.1 < (((p0.len : Nat) : Int) : Int))) (
  HM.bind (α := Addr) (HM.idx p0.a p0.len x2.1 1) fun x3 =>
  HM.bind (α := Int) (HM.load1 (.int .i64) x3) fun x4 =>
  HM.ite (!(x4 == 0)) (
  HM.pure (.inr (.inr (x4, ())))) (
  HM.pure (.inl (IntKind.wrap .i64 (x2.1 + 1), ())))) (
  HM.pure (.inr (.inl (x2.1, ()))))) (0, ())) (Sum.elim (fun x1 =>
  HM.pure (0, ())) HM.pure)

theorem cmp_Or_den (p0 : Slc) : denFn Tryz.prog [] 18 [0, 2, 3, 5, 6, 7, 8, 9, 14] [0, 3, 5, 6, 7, 8, 9, 14] Tryz.f40.results.toList [.one (.int .i64)] (bodyOf Tryz.f40) [Kind.val (.one .slc) p0] = cmp_Or p0 := by kernel_rfl
theorem cmp_Or_calls (p0 : Slc) (h : Heap) (Q : Value → Heap → Prop) (hh : cmp_Or p0 h fun x h' => Q (.int .i64 x.1) h') :
    HCalls Tryz.prog 40 #[.slice p0.a p0.len p0.cap] h Q := by
  rw [← cmp_Or_den] at hh
  exact calls_of_den Tryz.func40 (by kernel_rfl) Tryz.ntmps40 (by kernel_rfl) CN orders hh

/-- cmp.Compare[int] -/
def cmp_Compare (p0 : Int) (p1 : Int) : HM (Int × Unit) :=
  HM.bind (α := Bool) (HM.call1 Tryz.prog (.one .bool) 63 #[.int .i64 p0]) fun x1 =>
  HM.bind (α := Bool) (HM.call1 Tryz.prog (.one .bool) 63 #[.int .i64 p1]) fun x2 =>
  HM.ite x1 (
  HM.ite x2 (
  HM.pure (0, ())) (
  HM.pure ((-1), ()))) (
  HM.ite x2 (
  HM.pure (1, ())) (
  HM.ite (decide (p0 < (p1 : Int))) (
  HM.pure ((-1), ())) (
  HM.ite (decide (p1 < (p0 : Int))) (
  HM.pure (1, ())) (
  HM.pure (0, ())))))

theorem cmp_Compare_den (p0 : Int) (p1 : Int) : denFn Tryz.prog [63] 20 [0, 1, 4, 5, 6, 11, 12, 13, 16, 19] [0, 1, 5, 6, 11, 12, 13, 16, 19] Tryz.f41.results.toList [.one (.int .i64)] (bodyOf Tryz.f41) [Kind.val (.one (.int .i64)) p0, Kind.val (.one (.int .i64)) p1] = cmp_Compare p0 p1 := by kernel_rfl
theorem cmp_Compare_calls (p0 : Int) (p1 : Int) (h : Heap) (Q : Value → Heap → Prop) (hh : cmp_Compare p0 p1 h fun x h' => Q (.int .i64 x.1) h') :
    HCalls Tryz.prog 41 #[.int .i64 p0, .int .i64 p1] h Q := by
  rw [← cmp_Compare_den] at hh
  exact calls_of_den Tryz.func41 (by kernel_rfl) Tryz.ntmps41 (by kernel_rfl) (CC Tryz.call63 CN) orders hh

/-- aqueduct/topic.sized -/
def topic_sized (p0 : ByteArray) : HM (Bool × Unit) :=
  HM.bind (α := Int × Bool × Unit) (HM.callN Tryz.prog [.one (.int .i64), .one .bool] 67 #[.string p0]) fun x1 =>
  HM.bind (α := Bool × Unit) (HM.ite (!x1.2.1) (
  HM.ite (!(decide (p0 = (ByteArray.mk #[])))) (
  HM.ite (decide (((ByteArray.size p0 : Nat) : Int) ≤ (256 : Int))) (
  HM.bind (α := Int) (HM.call1 Tryz.prog (.one (.int .i64)) 68 #[.string p0, .string (ByteArray.mk #[47])]) fun x2 =>
  HM.pure (decide (x2 < (32 : Int)), ())) (
  HM.pure (false, ()))) (
  HM.pure (false, ()))) (
  HM.pure (false, ()))) fun x3 =>
  HM.pure (x3.1, ())

theorem topic_sized_den (p0 : ByteArray) : denFn Tryz.prog [67, 68] 26 [0, 2, 4] [0, 4] Tryz.f46.results.toList [.one .bool] (bodyOf Tryz.f46) [Kind.val (.one .str) p0] = topic_sized p0 := by kernel_rfl
theorem topic_sized_calls (p0 : ByteArray) (h : Heap) (Q : Value → Heap → Prop) (hh : topic_sized p0 h fun x h' => Q (.bool x.1) h') :
    HCalls Tryz.prog 46 #[.string p0] h Q := by
  rw [← topic_sized_den] at hh
  exact calls_of_den Tryz.func46 (by kernel_rfl) Tryz.ntmps46 (by kernel_rfl) (CC Tryz.call67 (CC Tryz.call68 CN)) orders hh

/-- aqueduct/aqueductref07.sized -/
def ref07_sized (p0 : ByteArray) : HM (Bool × Unit) :=
  HM.bind (α := Int × Bool × Unit) (HM.callN Tryz.prog [.one (.int .i64), .one .bool] 71 #[.string p0]) fun x1 =>
  HM.bind (α := Bool × Unit) (HM.ite x1.2.1 (
  HM.pure (true, ())) (
  HM.ite (((ByteArray.size p0 : Nat) : Int) == 0) (
  HM.pure (true, ())) (
  HM.pure (decide (256 < (((ByteArray.size p0 : Nat) : Int) : Int)), ())))) fun x2 =>
  HM.ite x2.1 (
  HM.pure (false, ())) (
  HM.bind (α := Slc) (HM.call1 Tryz.prog (.one .slc) 50 #[.string p0]) fun x3 =>
  HM.pure (decide (((x3.len : Nat) : Int) ≤ (32 : Int)), ()))

theorem ref07_sized_den (p0 : ByteArray) : denFn Tryz.prog [71, 50] 27 [0, 2, 4, 5, 21] [0, 4, 5, 21] Tryz.f49.results.toList [.one .bool] (bodyOf Tryz.f49) [Kind.val (.one .str) p0] = ref07_sized p0 := by kernel_rfl
theorem ref07_sized_calls (p0 : ByteArray) (h : Heap) (Q : Value → Heap → Prop) (hh : ref07_sized p0 h fun x h' => Q (.bool x.1) h') :
    HCalls Tryz.prog 49 #[.string p0] h Q := by
  rw [← ref07_sized_den] at hh
  exact calls_of_den Tryz.func49 (by kernel_rfl) Tryz.ntmps49 (by kernel_rfl) (CC Tryz.call71 (CC Tryz.call50 CN)) orders hh

/-- aqueduct/aqueductref07.Levels -/
def ref07_Levels (p0 : ByteArray) : HM (Slc × Unit) :=
  HM.bind (α := Slc × ByteArray × Int × Unit) (HM.loop (σ := Slc × ByteArray × Int × Unit) (τ := Slc × ByteArray × Int × Unit) (fun x2 =>
  HM.ite (decide (x2.2.2.1 < (((ByteArray.size p0 : Nat) : Int) : Int))) (
  HM.bind (α := Slc × ByteArray × Unit) (HM.bind (α := Int) (HM.strIdx p0 x2.2.2.1) fun x4 =>
  HM.ite (x4 == 47) (
  HM.bind (α := Nat) (HM.new (.cells #[.string x2.2.1] 9)) fun x5 =>
  HM.bind (α := Slc) (HM.append 9 1 16 #[.string (ByteArray.mk #[])] x2.1 1 (srcSlc 1 (⟨some ⟨x5, 0, none⟩, 1, 1⟩))) fun x6 =>
  HM.pure (x6, ByteArray.mk #[], ())) (
  HM.bind (α := ByteArray) (HM.substr p0 (some x2.2.2.1) (some (IntKind.wrap .i64 (x2.2.2.1 + 1)))) fun x7 =>
  HM.req (ByteArray.size x2.2.1 + ByteArray.size x7 ≤ 9223372036854775807) <|
  HM.pure (x2.1, x2.2.1 ++ x7, ()))) fun x3 =>
  HM.pure (.inl (x3.1, x3.2.1, IntKind.wrap .i64 (x2.2.2.1 + 1), ()))) (
  HM.pure (.inr (x2.1, x2.2.1, x2.2.2.1, ())))) (⟨none, 0, 0⟩, ByteArray.mk #[], 0, ())) fun x1 =>
  HM.bind (α := Nat) (HM.new (.cells #[.string x1.2.1] 9)) fun x8 =>
  HM.bind (α := Slc) (HM.append 9 1 16 #[.string (ByteArray.mk #[])] x1.1 1 (srcSlc 1 (⟨some ⟨x8, 0, none⟩, 1, 1⟩))) fun x9 =>
  HM.pure (x9, ())

theorem ref07_Levels_den (p0 : ByteArray) : denFn Tryz.prog [] 31 [0, 2, 3, 4, 5, 9, 15] [0, 3, 4, 5, 9, 15] Tryz.f50.results.toList [.one .slc] (bodyOf Tryz.f50) [Kind.val (.one .str) p0] = ref07_Levels p0 := by kernel_rfl
theorem ref07_Levels_calls (p0 : ByteArray) (h : Heap) (Q : Value → Heap → Prop) (hh : ref07_Levels p0 h fun x h' => Q (.slice x.1.a x.1.len x.1.cap) h') :
    HCalls Tryz.prog 50 #[.string p0] h Q := by
  rw [← ref07_Levels_den] at hh
  exact calls_of_den Tryz.func50 (by kernel_rfl) Tryz.ntmps50 (by kernel_rfl) CN orders hh

/-- aqueduct/aqueductref07.has -/
def ref07_has (p0 : ByteArray) (p1 : Int) : HM (Bool × Unit) :=
  HM.bind (α := (Int × Unit) ⊕ (Bool × Unit)) (HM.loop (σ := Int × Unit) (τ := (Int × Unit) ⊕ (Bool × Unit)) (fun x2 =>
  HM.ite (decide (x2.1 < (((ByteArray.size p0 : Nat) : Int) : Int))) (
  HM.bind (α := Int) (HM.strIdx p0 x2.1) fun x3 =>
  HM.ite (x3 == p1) (
  HM.pure (.inr (.inr (true, ())))) (
  HM.pure (.inl (IntKind.wrap .i64 (x2.1 + 1), ())))) (
  HM.pure (.inr (.inl (x2.1, ()))))) (0, ())) (Sum.elim (fun x1 =>
  HM.pure (false, ())) HM.pure)

theorem ref07_has_den (p0 : ByteArray) (p1 : Int) : denFn Tryz.prog [] 17 [0, 1, 4, 5, 9, 16] [0, 1, 5, 9, 16] Tryz.f51.results.toList [.one .bool] (bodyOf Tryz.f51) [Kind.val (.one .str) p0, Kind.val (.one (.int .u8)) p1] = ref07_has p0 p1 := by kernel_rfl
theorem ref07_has_calls (p0 : ByteArray) (p1 : Int) (h : Heap) (Q : Value → Heap → Prop) (hh : ref07_has p0 p1 h fun x h' => Q (.bool x.1) h') :
    HCalls Tryz.prog 51 #[.string p0, .int .u8 p1] h Q := by
  rw [← ref07_has_den] at hh
  exact calls_of_den Tryz.func51 (by kernel_rfl) Tryz.ntmps51 (by kernel_rfl) CN orders hh

/-- aqueduct/topic.Join -/
def topic_Join (p0 : Slc) : HM (ByteArray × Unit) :=
  HM.bind (α := ByteArray) (HM.call1 Tryz.prog (.one .str) 72 #[.slice p0.a p0.len p0.cap, .string (ByteArray.mk #[47])]) fun x1 =>
  HM.pure (x1, ())

theorem topic_Join_den (p0 : Slc) : denFn Tryz.prog [72] 5 [0, 2] [0] Tryz.f52.results.toList [.one .str] (bodyOf Tryz.f52) [Kind.val (.one .slc) p0] = topic_Join p0 := by kernel_rfl
theorem topic_Join_calls (p0 : Slc) (h : Heap) (Q : Value → Heap → Prop) (hh : topic_Join p0 h fun x h' => Q (.string x.1) h') :
    HCalls Tryz.prog 52 #[.slice p0.a p0.len p0.cap] h Q := by
  rw [← topic_Join_den] at hh
  exact calls_of_den Tryz.func52 (by kernel_rfl) Tryz.ntmps52 (by kernel_rfl) (CC Tryz.call72 CN) orders hh

/-- aqueduct/text.Fault -/
def text_Fault (p0 : ByteArray) : HM (Int × Bool × Unit) :=
  HM.bind (α := (Int × Unit) ⊕ (Int × Bool × Unit)) (HM.loop (σ := Int × Unit) (τ := (Int × Unit) ⊕ (Int × Bool × Unit)) (fun x2 =>
  HM.ite (decide (x2.1 < (((ByteArray.size p0 : Nat) : Int) : Int))) (
  HM.bind (α := ByteArray) (HM.substr p0 (some x2.1) none) fun x3 =>
  HM.bind (α := Int) (HM.call1 Tryz.prog (.one (.int .i64)) 88 #[.string x3]) fun x4 =>
  HM.ite (x4 == 0) (
  HM.pure (.inr (.inr (x2.1, true, ())))) (
  HM.pure (.inl (IntKind.wrap .i64 (x2.1 + x4), ())))) (
  HM.pure (.inr (.inl (x2.1, ()))))) (0, ())) (Sum.elim (fun x1 =>
  HM.pure (0, false, ())) HM.pure)

theorem text_Fault_den (p0 : ByteArray) : denFn Tryz.prog [88] 20 [0, 2, 3, 4, 5, 9, 15] [0, 4, 5, 9, 15] Tryz.f67.results.toList [.one (.int .i64), .one .bool] (bodyOf Tryz.f67) [Kind.val (.one .str) p0] = text_Fault p0 := by kernel_rfl
theorem text_Fault_calls (p0 : ByteArray) (h : Heap) (Q : Value → Heap → Prop) (hh : text_Fault p0 h fun x h' => Q (.tuple #[.int .i64 x.1, .bool x.2.1]) h') :
    HCalls Tryz.prog 67 #[.string p0] h Q := by
  rw [← text_Fault_den] at hh
  exact calls_of_den Tryz.func67 (by kernel_rfl) Tryz.ntmps67 (by kernel_rfl) (CC Tryz.call88 CN) orders hh

/-- aqueduct/aqueductref02.Fault -/
def ref02_Fault (p0 : ByteArray) : HM (Int × Bool × Unit) :=
  HM.bind (α := (Int × Unit) ⊕ (Int × Bool × Unit)) (HM.loop (σ := Int × Unit) (τ := (Int × Unit) ⊕ (Int × Bool × Unit)) (fun x2 =>
  HM.ite (decide (x2.1 < (((ByteArray.size p0 : Nat) : Int) : Int))) (
  HM.bind (α := Int) (HM.call1 Tryz.prog (.one (.int .i64)) 93 #[.string p0, .int .i64 x2.1]) fun x3 =>
  HM.ite (x3 == 0) (
  HM.pure (.inr (.inr (x2.1, true, ())))) (
  HM.pure (.inl (IntKind.wrap .i64 (x2.1 + x3), ())))) (
  HM.pure (.inr (.inl (x2.1, ()))))) (0, ())) (Sum.elim (fun x1 =>
  HM.pure (0, false, ())) HM.pure)

theorem ref02_Fault_den (p0 : ByteArray) : denFn Tryz.prog [93] 19 [0, 2, 3, 4, 5, 9, 14] [0, 4, 5, 9, 14] Tryz.f71.results.toList [.one (.int .i64), .one .bool] (bodyOf Tryz.f71) [Kind.val (.one .str) p0] = ref02_Fault p0 := by kernel_rfl
theorem ref02_Fault_calls (p0 : ByteArray) (h : Heap) (Q : Value → Heap → Prop) (hh : ref02_Fault p0 h fun x h' => Q (.tuple #[.int .i64 x.1, .bool x.2.1]) h') :
    HCalls Tryz.prog 71 #[.string p0] h Q := by
  rw [← ref02_Fault_den] at hh
  exact calls_of_den Tryz.func71 (by kernel_rfl) Tryz.ntmps71 (by kernel_rfl) (CC Tryz.call93 CN) orders hh

/-- aqueduct/text.next -/
def text_next (p0 : ByteArray) : HM (Int × Unit) :=
  HM.bind (α := Int × Int × Unit) (HM.callN Tryz.prog [.one (.int .i32), .one (.int .i64)] 102 #[.string p0]) fun x1 =>
  HM.bind (α := Bool × Unit) (HM.ite (x1.1 == 0) (
  HM.pure (true, ())) (
  HM.ite (x1.1 == 65533) (
  HM.pure (decide (x1.2.1 < (2 : Int)), ())) (
  HM.pure (false, ())))) fun x2 =>
  HM.ite x2.1 (
  HM.pure (0, ())) (
  HM.pure (x1.2.1, ()))

theorem text_next_den (p0 : ByteArray) : denFn Tryz.prog [102] 21 [0, 2, 3, 4, 19] [0, 3, 4, 19] Tryz.f88.results.toList [.one (.int .i64)] (bodyOf Tryz.f88) [Kind.val (.one .str) p0] = text_next p0 := by kernel_rfl
theorem text_next_calls (p0 : ByteArray) (h : Heap) (Q : Value → Heap → Prop) (hh : text_next p0 h fun x h' => Q (.int .i64 x.1) h') :
    HCalls Tryz.prog 88 #[.string p0] h Q := by
  rw [← text_next_den] at hh
  exact calls_of_den Tryz.func88 (by kernel_rfl) Tryz.ntmps88 (by kernel_rfl) (CC Tryz.call102 CN) orders hh

/-- aqueduct/aqueductref02.Char -/
def ref02_Char (p0 : ByteArray) (p1 : Int) : HM (Int × Unit) :=
  HM.bind (α := Int) (HM.strIdx p0 p1) fun x1 =>
  HM.bind (α := Bool × Unit) (HM.ite (decide (1 ≤ ((IntKind.wrap .i64 x1) : Int))) (
  HM.pure (decide ((IntKind.wrap .i64 x1) ≤ (127 : Int)), ())) (
  HM.pure (false, ()))) fun x2 =>
  HM.ite x2.1 (
  HM.pure (1, ())) (
  HM.bind (α := Bool) (HM.call1 Tryz.prog (.one .bool) 107 #[.string p0, .int .i64 (IntKind.wrap .i64 (p1 + 1)), .int .i64 128, .int .i64 191]) fun x3 =>
  HM.bind (α := Bool) (HM.call1 Tryz.prog (.one .bool) 107 #[.string p0, .int .i64 (IntKind.wrap .i64 (p1 + 2)), .int .i64 128, .int .i64 191]) fun x4 =>
  HM.bind (α := Bool) (HM.call1 Tryz.prog (.one .bool) 107 #[.string p0, .int .i64 (IntKind.wrap .i64 (p1 + 3)), .int .i64 128, .int .i64 191]) fun x5 =>
  HM.bind (α := Bool × Unit) (HM.ite (decide (194 ≤ ((IntKind.wrap .i64 x1) : Int))) (
  HM.ite (decide ((IntKind.wrap .i64 x1) ≤ (223 : Int))) (
  HM.pure (x3, ())) (
  HM.pure (false, ()))) (
  HM.pure (false, ()))) fun x6 =>
  HM.ite x6.1 (
  HM.pure (2, ())) (
  HM.bind (α := Bool × Unit) (HM.ite (decide (224 ≤ ((IntKind.wrap .i64 x1) : Int))) (
  HM.ite (decide ((IntKind.wrap .i64 x1) ≤ (239 : Int))) (
  HM.ite x3 (
  HM.pure (x4, ())) (
  HM.pure (false, ()))) (
  HM.pure (false, ()))) (
  HM.pure (false, ()))) fun x7 =>
  HM.ite x7.1 (
  HM.bind (α := Bool) (HM.call1 Tryz.prog (.one .bool) 107 #[.string p0, .int .i64 (IntKind.wrap .i64 (p1 + 1)), .int .i64 160, .int .i64 191]) fun x8 =>
  HM.bind (α := Bool) (HM.call1 Tryz.prog (.one .bool) 107 #[.string p0, .int .i64 (IntKind.wrap .i64 (p1 + 1)), .int .i64 128, .int .i64 159]) fun x9 =>
  HM.bind (α := Bool × Unit) (HM.ite ((IntKind.wrap .i64 x1) == 224) (
  HM.ite (!x8) (
  HM.pure (true, ())) (
  HM.ite ((IntKind.wrap .i64 x1) == 237) (
  HM.pure (!x9, ())) (
  HM.pure (false, ())))) (
  HM.ite ((IntKind.wrap .i64 x1) == 237) (
  HM.pure (!x9, ())) (
  HM.pure (false, ())))) fun x10 =>
  HM.ite x10.1 (
  HM.pure (0, ())) (
  HM.pure (3, ()))) (
  HM.bind (α := Bool × Unit) (HM.ite (decide (240 ≤ ((IntKind.wrap .i64 x1) : Int))) (
  HM.ite (decide ((IntKind.wrap .i64 x1) ≤ (244 : Int))) (
  HM.ite x3 (
  HM.ite x4 (
  HM.pure (x5, ())) (
  HM.pure (false, ()))) (
  HM.pure (false, ()))) (
  HM.pure (false, ()))) (
  HM.pure (false, ()))) fun x11 =>
  HM.ite x11.1 (
  HM.bind (α := Bool) (HM.call1 Tryz.prog (.one .bool) 107 #[.string p0, .int .i64 (IntKind.wrap .i64 (p1 + 1)), .int .i64 144, .int .i64 191]) fun x12 =>
  HM.bind (α := Bool) (HM.call1 Tryz.prog (.one .bool) 107 #[.string p0, .int .i64 (IntKind.wrap .i64 (p1 + 1)), .int .i64 128, .int .i64 143]) fun x13 =>
  HM.bind (α := Bool × Unit) (HM.ite ((IntKind.wrap .i64 x1) == 240) (
  HM.ite (!x12) (
  HM.pure (true, ())) (
  HM.ite ((IntKind.wrap .i64 x1) == 244) (
  HM.pure (!x13, ())) (
  HM.pure (false, ())))) (
  HM.ite ((IntKind.wrap .i64 x1) == 244) (
  HM.pure (!x13, ())) (
  HM.pure (false, ())))) fun x14 =>
  HM.ite x14.1 (
  HM.pure (0, ())) (
  HM.pure (4, ()))) (
  HM.pure (0, ())))))

theorem ref02_Char_den (p0 : ByteArray) (p1 : Int) : denFn Tryz.prog [107] 115 [0, 1, 4, 5, 6, 7, 8, 9, 10, 11, 12, 22, 43, 55, 77, 92, 114] [0, 1, 5, 6, 7, 8, 9, 10, 11, 12, 22, 43, 55, 77, 92, 114] Tryz.f93.results.toList [.one (.int .i64)] (bodyOf Tryz.f93) [Kind.val (.one .str) p0, Kind.val (.one (.int .i64)) p1] = ref02_Char p0 p1 := by kernel_rfl
theorem ref02_Char_calls (p0 : ByteArray) (p1 : Int) (h : Heap) (Q : Value → Heap → Prop) (hh : ref02_Char p0 p1 h fun x h' => Q (.int .i64 x.1) h') :
    HCalls Tryz.prog 93 #[.string p0, .int .i64 p1] h Q := by
  rw [← ref02_Char_den] at hh
  exact calls_of_den Tryz.func93 (by kernel_rfl) Tryz.ntmps93 (by kernel_rfl) (CC Tryz.call107 CN) orders hh

/-- aqueduct/aqueductref02.tail -/
def ref02_tail (p0 : ByteArray) (p1 : Int) (p2 : Int) (p3 : Int) : HM (Bool × Unit) :=
  HM.bind (α := Bool × Unit) (HM.ite (decide (p1 < (((ByteArray.size p0 : Nat) : Int) : Int))) (
  HM.bind (α := Int) (HM.strIdx p0 p1) fun x1 =>
  HM.ite (decide (p2 ≤ ((IntKind.wrap .i64 x1) : Int))) (
  HM.bind (α := Int) (HM.strIdx p0 p1) fun x2 =>
  HM.pure (decide ((IntKind.wrap .i64 x2) ≤ (p3 : Int)), ())) (
  HM.pure (false, ()))) (
  HM.pure (false, ()))) fun x3 =>
  HM.pure (x3.1, ())

theorem ref02_tail_den (p0 : ByteArray) (p1 : Int) (p2 : Int) (p3 : Int) : denFn Tryz.prog [] 29 [0, 1, 2, 3, 8] [0, 1, 2, 3] Tryz.f107.results.toList [.one .bool] (bodyOf Tryz.f107) [Kind.val (.one .str) p0, Kind.val (.one (.int .i64)) p1, Kind.val (.one (.int .i64)) p2, Kind.val (.one (.int .i64)) p3] = ref02_tail p0 p1 p2 p3 := by kernel_rfl
theorem ref02_tail_calls (p0 : ByteArray) (p1 : Int) (p2 : Int) (p3 : Int) (h : Heap) (Q : Value → Heap → Prop) (hh : ref02_tail p0 p1 p2 p3 h fun x h' => Q (.bool x.1) h') :
    HCalls Tryz.prog 107 #[.string p0, .int .i64 p1, .int .i64 p2, .int .i64 p3] h Q := by
  rw [← ref02_tail_den] at hh
  exact calls_of_den Tryz.func107 (by kernel_rfl) Tryz.ntmps107 (by kernel_rfl) CN orders hh

end Go.Proofs.YtnpgpijkofbknaaGreatDoor
