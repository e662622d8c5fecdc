/-
  The shallow forms of functions of the program, written by gen.py; each is held against the program by the kernel.
-/
import Derived.Test.YtmdagnoknmfhcaaDoorHA
import Derived.Test.YtmdagnoknmfhcaaDoorProg
import Derived.KernelRfl
namespace Go.Proofs.YtmdagnoknmfhcaaDoor
open Go.H Go.Proofs
set_option linter.unusedVariables false
set_option linter.unusedSimpArgs false
set_option maxRecDepth 100000
set_option maxHeartbeats 4000000

theorem orders : Tryd.prog.follows .mixedOrders = true := by kernel_rfl

/-- aqueduct/aqueductlaw17.RetainPlays -/
def law17_RetainPlays (p0 : Int) (p1 : Slc) (p2 : Slc) : HM (Bool × Unit) :=
  HM.bind (α := Option Addr) (HM.call1 Tryd.prog (.one .ptr) 12 #[.int .i64 p0]) fun (x1 : Option Addr) =>
  HM.bind (α := Option Addr) (HM.call1 Tryd.prog (.one .ptr) 13 #[.int .i64 p0]) fun (x2 : Option Addr) =>
  HM.bind (α := Bool) (HM.call1 Tryd.prog (.one .bool) 14 #[]) fun (x3 : Bool) =>
  HM.ite (!x3) (
  HM.pure (false, ())) (
  HM.bind (α := Slc) (HM.slice p1 none (some (if 100 < (((p1.len : Nat) : Int) : Int) then 100 else ((p1.len : Nat) : Int))) none 3) fun (x4 : Slc) =>
  HM.bind (α := (Int × Unit) ⊕ (Bool × Unit)) (HM.loop (σ := Int × Unit) (τ := (Int × Unit) ⊕ (Bool × Unit)) (fun (x6 : Int × Unit) =>
  HM.ite (decide (x6.1 < (((x4.len : Nat) : Int) : Int))) (
  HM.bind (α := Addr) (HM.idx x4.a x4.len x6.1 3) fun (x7 : Addr) =>
  HM.bind (α := ByteArray × ByteArray × Int × Unit) (HM.loadN [.str, .str, .int .i64] x7) fun (x8 : ByteArray × ByteArray × Int × Unit) =>
  HM.bind (α := Nat) (HM.new (.cells #[.string (ByteArray.mk #[]), .string (ByteArray.mk #[]), .int .i64 0] 30)) fun (x9 : Nat) =>
  HM.bind (α := Unit) (HM.storeN ⟨x9, 0, none⟩ [.string x8.1, .string x8.2.1, .int .i64 x8.2.2.1]) fun (_ : Unit) =>
  HM.bind (α := ByteArray × ByteArray × Int × Unit) (HM.loadN [.str, .str, .int .i64] ⟨x9, 0, none⟩) fun (x10 : ByteArray × ByteArray × Int × Unit) =>
  HM.bind (α := ByteArray × ByteArray × Int × Unit) (HM.loadN [.str, .str, .int .i64] ⟨x9, 0, none⟩) fun (x11 : ByteArray × ByteArray × Int × Unit) =>
  HM.bind (α := Int) (HM.call1 Tryd.prog (.one (.int .u8)) 15 #[.pointer x1, .agg #[.string x10.1, .string x10.2.1, .int .i64 x10.2.2.1]]) fun (x12 : Int) =>
  HM.bind (α := ByteArray × ByteArray × Int × Unit) (HM.loadN [.str, .str, .int .i64] ⟨x9, 0, none⟩) fun (x13 : ByteArray × ByteArray × Int × Unit) =>
  HM.req ((.agg #[.string x13.1, .string x13.2.1, .int .i64 x13.2.2.1] : Value) = .agg #[.string x11.1, .string x11.2.1, .int .i64 x11.2.2.1]) <|
  HM.bind (α := Int) (HM.call1 Tryd.prog (.one (.int .i64)) 16 #[.pointer x2, .agg #[.string x11.1, .string x11.2.1, .int .i64 x11.2.2.1]]) fun (x14 : Int) =>
  HM.ite (!((IntKind.wrap .i64 x12) == x14)) (
  HM.pure (.inr (.inr (false, ())))) (
  HM.bind (α := ByteArray) (HM.load1 .str (Addr.add ⟨x9, 0, none⟩ 0)) fun (x15 : ByteArray) =>
  HM.bind (α := (ByteArray × ByteArray × Int × Unit) × Bool × Unit) (HM.callN Tryd.prog [.agg [.str, .str, .int .i64], .one .bool] 17 #[.pointer x1, .string x15]) fun (x16 : (ByteArray × ByteArray × Int × Unit) × Bool × Unit) =>
  HM.bind (α := Nat) (HM.new (.cells #[.string (ByteArray.mk #[]), .string (ByteArray.mk #[]), .int .i64 0] 33)) fun (x17 : Nat) =>
  HM.bind (α := Unit) (HM.storeN ⟨x17, 0, none⟩ [.string x16.1.1, .string x16.1.2.1, .int .i64 x16.1.2.2.1]) fun (_ : Unit) =>
  HM.bind (α := ByteArray) (HM.load1 .str (Addr.add ⟨x9, 0, none⟩ 0)) fun (x18 : ByteArray) =>
  HM.bind (α := (ByteArray × ByteArray × Int × Unit) × Bool × Unit) (HM.callN Tryd.prog [.agg [.str, .str, .int .i64], .one .bool] 18 #[.pointer x2, .string x18]) fun (x19 : (ByteArray × ByteArray × Int × Unit) × Bool × Unit) =>
  HM.bind (α := Nat) (HM.new (.cells #[.string (ByteArray.mk #[]), .string (ByteArray.mk #[]), .int .i64 0] 35)) fun (x20 : Nat) =>
  HM.bind (α := Unit) (HM.storeN ⟨x20, 0, none⟩ [.string x19.1.1, .string x19.1.2.1, .int .i64 x19.1.2.2.1]) fun (_ : Unit) =>
  HM.bind (α := Bool × Unit) (HM.ite (!(x16.2.1 == x19.2.1)) (
  HM.pure (true, ())) (
  HM.bind (α := ByteArray × ByteArray × Int × Unit) (HM.loadN [.str, .str, .int .i64] ⟨x17, 0, none⟩) fun (x21 : ByteArray × ByteArray × Int × Unit) =>
  HM.bind (α := ByteArray × ByteArray × Int × Unit) (HM.loadN [.str, .str, .int .i64] ⟨x20, 0, none⟩) fun (x22 : ByteArray × ByteArray × Int × Unit) =>
  HM.pure (!((decide (x21.1 = x22.1)) && ((decide (x21.2.1 = x22.2.1)) && ((x21.2.2.1 == x22.2.2.1) && true))), ()))) fun (x23 : Bool × Unit) =>
  HM.ite x23.1 (
  HM.pure (.inr (.inr (false, ())))) (
  HM.pure (.inl (IntKind.wrap .i64 (x6.1 + 1), ()))))) (
  HM.pure (.inr (.inl (x6.1, ()))))) (0, ())) (Sum.elim (fun (x5 : Int × Unit) =>
  HM.bind (α := Slc) (HM.slice p2 none (some (if 10 < (((p2.len : Nat) : Int) : Int) then 10 else ((p2.len : Nat) : Int))) (some (if 10 < (((p2.len : Nat) : Int) : Int) then 10 else ((p2.len : Nat) : Int))) 1) fun (x24 : Slc) =>
  HM.bind (α := Nat) (HM.new (.cells #[.string (ByteArray.mk #[35])] 9)) fun (x25 : Nat) =>
  HM.bind (α := Slc) (HM.append 9 1 16 #[.string (ByteArray.mk #[])] x24 1 (srcSlc 1 (⟨some ⟨x25, 0, none⟩, 1, 1⟩))) fun (x26 : Slc) =>
  HM.bind (α := (Int × Unit) ⊕ (Bool × Unit)) (HM.loop (σ := Int × Unit) (τ := (Int × Unit) ⊕ (Bool × Unit)) (fun (x28 : Int × Unit) =>
  HM.ite (decide (x28.1 < (((x26.len : Nat) : Int) : Int))) (
  HM.bind (α := Addr) (HM.idx x26.a x26.len x28.1 1) fun (x29 : Addr) =>
  HM.bind (α := ByteArray) (HM.load1 .str x29) fun (x30 : ByteArray) =>
  HM.bind (α := Slc) (HM.call1 Tryd.prog (.one .slc) 19 #[.pointer x1, .string x30]) fun (x31 : Slc) =>
  HM.bind (α := Slc) (HM.call1 Tryd.prog (.one .slc) 20 #[.pointer x2, .string x30]) fun (x32 : Slc) =>
  HM.ite (!(((x31.len : Nat) : Int) == ((x32.len : Nat) : Int))) (
  HM.pure (.inr (.inr (false, ())))) (
  HM.bind (α := (Int × Unit) ⊕ ((Int × Unit) ⊕ ((Int × Unit) ⊕ (Bool × Unit)))) (HM.loop (σ := Int × Unit) (τ := (Int × Unit) ⊕ ((Int × Unit) ⊕ ((Int × Unit) ⊕ (Bool × Unit)))) (fun (x34 : Int × Unit) =>
  HM.ite (decide (x34.1 < (((x31.len : Nat) : Int) : Int))) (
  HM.bind (α := Addr) (HM.idx x31.a x31.len x34.1 3) fun (x35 : Addr) =>
  HM.bind (α := ByteArray × ByteArray × Int × Unit) (HM.loadN [.str, .str, .int .i64] x35) fun (x36 : ByteArray × ByteArray × Int × Unit) =>
  HM.bind (α := Addr) (HM.idx x32.a x32.len x34.1 3) fun (x37 : Addr) =>
  HM.bind (α := ByteArray × ByteArray × Int × Unit) (HM.loadN [.str, .str, .int .i64] x37) fun (x38 : ByteArray × ByteArray × Int × Unit) =>
  HM.ite (!((decide (x36.1 = x38.1)) && ((decide (x36.2.1 = x38.2.1)) && ((x36.2.2.1 == x38.2.2.1) && true)))) (
  HM.pure (.inr (.inr (.inr (.inr (false, ())))))) (
  HM.pure (.inl (IntKind.wrap .i64 (x34.1 + 1), ())))) (
  HM.pure (.inr (.inl (x34.1, ()))))) (0, ())) (Sum.elim (fun (x33 : Int × Unit) =>
  HM.pure (.inl (IntKind.wrap .i64 (x28.1 + 1), ()))) HM.pure))) (
  HM.pure (.inr (.inl (x28.1, ()))))) (0, ())) (Sum.elim (fun (x27 : Int × Unit) =>
  HM.pure (true, ())) HM.pure)) HM.pure))

theorem law17_RetainPlays_den (p0 : Int) (p1 : Slc) (p2 : Slc) : denFn Tryd.prog [12, 13, 14, 15, 16, 17, 18, 19, 20] 109 [0, 1, 2, 6, 7, 8, 10, 11, 12, 13, 14, 16, 17, 18, 19, 25, 30, 31, 32, 33, 43, 65, 76, 77, 78, 79, 92, 94, 95, 96, 106] [0, 1, 2, 7, 8, 10, 11, 12, 13, 14, 16, 17, 18, 19, 25, 30, 31, 32, 33, 43, 65, 76, 77, 78, 79, 92, 94, 95, 96, 106] Tryd.f3.results.toList [.one .bool] (bodyOf Tryd.f3) [Kind.val (.one (.int .i64)) p0, Kind.val (.one .slc) p1, Kind.val (.one .slc) p2] = law17_RetainPlays p0 p1 p2 := by kernel_rfl
theorem law17_RetainPlays_calls (p0 : Int) (p1 : Slc) (p2 : Slc) (h : Heap) (Q : Value → Heap → Prop) (hh : law17_RetainPlays p0 p1 p2 h fun x h' => Q (.bool x.1) h') :
    HCalls Tryd.prog 3 #[.int .i64 p0, .slice p1.a p1.len p1.cap, .slice p2.a p2.len p2.cap] h Q := by
  rw [← law17_RetainPlays_den] at hh
  exact calls_of_den Tryd.func3 (by kernel_rfl) Tryd.ntmps3 (by kernel_rfl) (fun f hf => by
      rcases List.mem_cons.1 hf with rfl | hf
      · exact Tryd.call12
      rcases List.mem_cons.1 hf with rfl | hf
      · exact Tryd.call13
      rcases List.mem_cons.1 hf with rfl | hf
      · exact Tryd.call14
      rcases List.mem_cons.1 hf with rfl | hf
      · exact Tryd.call15
      rcases List.mem_cons.1 hf with rfl | hf
      · exact Tryd.call16
      rcases List.mem_cons.1 hf with rfl | hf
      · exact Tryd.call17
      rcases List.mem_cons.1 hf with rfl | hf
      · exact Tryd.call18
      rcases List.mem_cons.1 hf with rfl | hf
      · exact Tryd.call19
      rcases List.mem_cons.1 hf with rfl | hf
      · exact Tryd.call20
      cases hf) orders hh

/-- aqueduct/aqueductlaw17.RetainLast -/
def law17_RetainLast (p0 : Int) (p1 : Slc) (p2 : ByteArray) : HM (Bool × Unit) :=
  HM.bind (α := Option Addr) (HM.call1 Tryd.prog (.one .ptr) 12 #[.int .i64 p0]) fun (x1 : Option Addr) =>
  HM.bind (α := Nat) (HM.new (.map #[] 0)) fun (x2 : Nat) =>
  HM.bind (α := Slc) (HM.slice p1 none (some (if 100 < (((p1.len : Nat) : Int) : Int) then 100 else ((p1.len : Nat) : Int))) none 3) fun (x3 : Slc) =>
  HM.bind (α := (Int × Unit) ⊕ (Bool × Unit)) (HM.loop (σ := Int × Unit) (τ := (Int × Unit) ⊕ (Bool × Unit)) (fun (x5 : Int × Unit) =>
  HM.ite (decide (x5.1 < (((x3.len : Nat) : Int) : Int))) (
  HM.bind (α := Addr) (HM.idx x3.a x3.len x5.1 3) fun (x6 : Addr) =>
  HM.bind (α := ByteArray × ByteArray × Int × Unit) (HM.loadN [.str, .str, .int .i64] x6) fun (x7 : ByteArray × ByteArray × Int × Unit) =>
  HM.bind (α := Nat) (HM.new (.cells #[.string (ByteArray.mk #[]), .string (ByteArray.mk #[]), .int .i64 0] 30)) fun (x8 : Nat) =>
  HM.bind (α := Unit) (HM.storeN ⟨x8, 0, none⟩ [.string x7.1, .string x7.2.1, .int .i64 x7.2.2.1]) fun (_ : Unit) =>
  HM.bind (α := ByteArray × ByteArray × Int × Unit) (HM.loadN [.str, .str, .int .i64] ⟨x8, 0, none⟩) fun (x9 : ByteArray × ByteArray × Int × Unit) =>
  HM.bind (α := Int) (HM.call1 Tryd.prog (.one (.int .u8)) 15 #[.pointer x1, .agg #[.string x9.1, .string x9.2.1, .int .i64 x9.2.2.1]]) fun (x10 : Int) =>
  HM.bind (α := Bool × Unit) (HM.ite (x10 == 0) (
  HM.bind (α := ByteArray) (HM.load1 .str (Addr.add ⟨x8, 0, none⟩ 1)) fun (x11 : ByteArray) =>
  HM.pure (!(decide (x11 = (ByteArray.mk #[]))), ())) (
  HM.pure (false, ()))) fun (x12 : Bool × Unit) =>
  HM.bind (α := Unit) (HM.ite x12.1 (
  HM.bind (α := ByteArray) (HM.load1 .str (Addr.add ⟨x8, 0, none⟩ 0)) fun (x14 : ByteArray) =>
  HM.bind (α := ByteArray × ByteArray × Int × Unit) (HM.loadN [.str, .str, .int .i64] ⟨x8, 0, none⟩) fun (x15 : ByteArray × ByteArray × Int × Unit) =>
  HM.bind (α := Unit) (HM.mapSet (Instr.sameNow .string) (some x2) (.string x14) (.agg #[.string x15.1, .string x15.2.1, .int .i64 x15.2.2.1])) fun (_ : Unit) =>
  HM.pure ()) (
  HM.pure ())) fun (x13 : Unit) =>
  HM.bind (α := Bool × Unit) (HM.ite (x10 == 0) (
  HM.bind (α := ByteArray) (HM.load1 .str (Addr.add ⟨x8, 0, none⟩ 1)) fun (x16 : ByteArray) =>
  HM.pure (decide (x16 = (ByteArray.mk #[])), ())) (
  HM.pure (false, ()))) fun (x17 : Bool × Unit) =>
  HM.bind (α := Unit) (HM.ite x17.1 (
  HM.bind (α := ByteArray) (HM.load1 .str (Addr.add ⟨x8, 0, none⟩ 0)) fun (x19 : ByteArray) =>
  HM.bind (α := Unit) (HM.mapDel (Instr.sameNow .string) (some x2) (.string x19)) fun (_ : Unit) =>
  HM.pure ()) (
  HM.pure ())) fun (x18 : Unit) =>
  HM.bind (α := Bool × Unit) (HM.ite (x10 == 151) (
  HM.bind (α := Int) (HM.mapLen (some x2)) fun (x20 : Int) =>
  HM.pure (decide (x20 < ((if 0 < ((if 64 < (p0 : Int) then 64 else p0) : Int) then (if 64 < (p0 : Int) then 64 else p0) else 0) : Int)), ())) (
  HM.pure (false, ()))) fun (x21 : Bool × Unit) =>
  HM.ite x21.1 (
  HM.pure (.inr (.inr (false, ())))) (
  HM.pure (.inl (IntKind.wrap .i64 (x5.1 + 1), ())))) (
  HM.pure (.inr (.inl (x5.1, ()))))) (0, ())) (Sum.elim (fun (x4 : Int × Unit) =>
  HM.bind (α := Nat) (HM.rangeM (some x2)) fun (x22 : Nat) =>
  HM.bind (α := (Int × Unit) ⊕ (Bool × Unit)) (HM.loop (σ := Int × Unit) (τ := (Int × Unit) ⊕ (Bool × Unit)) (fun (x24 : Int × Unit) =>
  HM.bind (α := Option (Value × Value)) (HM.nextM x22) fun (x25 : Option (Value × Value)) =>
  HM.opt x25 (
  HM.ite false (
  HM.bind (α := ByteArray × (ByteArray × ByteArray × Int × Unit)) (HM.entryM (.one .str) (.agg [.str, .str, .int .i64]) x22) fun (x27 : ByteArray × (ByteArray × ByteArray × Int × Unit)) =>
  HM.bind (α := Nat) (HM.new (.cells #[.string (ByteArray.mk #[]), .string (ByteArray.mk #[]), .int .i64 0] 30)) fun (x28 : Nat) =>
  HM.bind (α := Unit) (HM.storeN ⟨x28, 0, none⟩ [.string x27.2.1, .string x27.2.2.1, .int .i64 x27.2.2.2.1]) fun (_ : Unit) =>
  HM.bind (α := (ByteArray × ByteArray × Int × Unit) × Bool × Unit) (HM.callN Tryd.prog [.agg [.str, .str, .int .i64], .one .bool] 17 #[.pointer x1, .string x27.1]) fun (x29 : (ByteArray × ByteArray × Int × Unit) × Bool × Unit) =>
  HM.bind (α := Nat) (HM.new (.cells #[.string (ByteArray.mk #[]), .string (ByteArray.mk #[]), .int .i64 0] 33)) fun (x30 : Nat) =>
  HM.bind (α := Unit) (HM.storeN ⟨x30, 0, none⟩ [.string x29.1.1, .string x29.1.2.1, .int .i64 x29.1.2.2.1]) fun (_ : Unit) =>
  HM.bind (α := Bool × Unit) (HM.ite (!x29.2.1) (
  HM.pure (true, ())) (
  HM.bind (α := ByteArray × ByteArray × Int × Unit) (HM.loadN [.str, .str, .int .i64] ⟨x30, 0, none⟩) fun (x31 : ByteArray × ByteArray × Int × Unit) =>
  HM.bind (α := ByteArray × ByteArray × Int × Unit) (HM.loadN [.str, .str, .int .i64] ⟨x28, 0, none⟩) fun (x32 : ByteArray × ByteArray × Int × Unit) =>
  HM.pure (!((decide (x31.1 = x32.1)) && ((decide (x31.2.1 = x32.2.1)) && ((x31.2.2.1 == x32.2.2.1) && true))), ()))) fun (x33 : Bool × Unit) =>
  HM.ite x33.1 (
  HM.pure (.inr (.inr (false, ())))) (
  HM.bind (α := Bool) (HM.call1 Tryd.prog (.one .bool) 21 #[.string p2, .string x27.1]) fun (x34 : Bool) =>
  HM.bind (α := Int × Unit) (HM.ite x34 (
  HM.pure (IntKind.wrap .i64 (x24.1 + 1), ())) (
  HM.pure (x24.1, ()))) fun (x35 : Int × Unit) =>
  HM.pure (.inl (x35.1, ())))) (
  HM.pure (.inr (.inl (x24.1, ()))))) fun (x26 : Value × Value) =>
  HM.ite true (
  HM.bind (α := ByteArray × (ByteArray × ByteArray × Int × Unit)) (HM.entryM (.one .str) (.agg [.str, .str, .int .i64]) x22) fun (x36 : ByteArray × (ByteArray × ByteArray × Int × Unit)) =>
  HM.bind (α := Nat) (HM.new (.cells #[.string (ByteArray.mk #[]), .string (ByteArray.mk #[]), .int .i64 0] 30)) fun (x37 : Nat) =>
  HM.bind (α := Unit) (HM.storeN ⟨x37, 0, none⟩ [.string x36.2.1, .string x36.2.2.1, .int .i64 x36.2.2.2.1]) fun (_ : Unit) =>
  HM.bind (α := (ByteArray × ByteArray × Int × Unit) × Bool × Unit) (HM.callN Tryd.prog [.agg [.str, .str, .int .i64], .one .bool] 17 #[.pointer x1, .string x36.1]) fun (x38 : (ByteArray × ByteArray × Int × Unit) × Bool × Unit) =>
  HM.bind (α := Nat) (HM.new (.cells #[.string (ByteArray.mk #[]), .string (ByteArray.mk #[]), .int .i64 0] 33)) fun (x39 : Nat) =>
  HM.bind (α := Unit) (HM.storeN ⟨x39, 0, none⟩ [.string x38.1.1, .string x38.1.2.1, .int .i64 x38.1.2.2.1]) fun (_ : Unit) =>
  HM.bind (α := Bool × Unit) (HM.ite (!x38.2.1) (
  HM.pure (true, ())) (
  HM.bind (α := ByteArray × ByteArray × Int × Unit) (HM.loadN [.str, .str, .int .i64] ⟨x39, 0, none⟩) fun (x40 : ByteArray × ByteArray × Int × Unit) =>
  HM.bind (α := ByteArray × ByteArray × Int × Unit) (HM.loadN [.str, .str, .int .i64] ⟨x37, 0, none⟩) fun (x41 : ByteArray × ByteArray × Int × Unit) =>
  HM.pure (!((decide (x40.1 = x41.1)) && ((decide (x40.2.1 = x41.2.1)) && ((x40.2.2.1 == x41.2.2.1) && true))), ()))) fun (x42 : Bool × Unit) =>
  HM.ite x42.1 (
  HM.pure (.inr (.inr (false, ())))) (
  HM.bind (α := Bool) (HM.call1 Tryd.prog (.one .bool) 21 #[.string p2, .string x36.1]) fun (x43 : Bool) =>
  HM.bind (α := Int × Unit) (HM.ite x43 (
  HM.pure (IntKind.wrap .i64 (x24.1 + 1), ())) (
  HM.pure (x24.1, ()))) fun (x44 : Int × Unit) =>
  HM.pure (.inl (x44.1, ())))) (
  HM.pure (.inr (.inl (x24.1, ()))))) (0, ())) (Sum.elim (fun (x23 : Int × Unit) =>
  HM.bind (α := Slc) (HM.call1 Tryd.prog (.one .slc) 19 #[.pointer x1, .string p2]) fun (x45 : Slc) =>
  HM.bind (α := (Int × Unit) ⊕ (Bool × Unit)) (HM.loop (σ := Int × Unit) (τ := (Int × Unit) ⊕ (Bool × Unit)) (fun (x47 : Int × Unit) =>
  HM.ite (decide (x47.1 < (((x45.len : Nat) : Int) : Int))) (
  HM.bind (α := Addr) (HM.idx x45.a x45.len x47.1 3) fun (x48 : Addr) =>
  HM.bind (α := ByteArray × ByteArray × Int × Unit) (HM.loadN [.str, .str, .int .i64] x48) fun (x49 : ByteArray × ByteArray × Int × Unit) =>
  HM.bind (α := Nat) (HM.new (.cells #[.string (ByteArray.mk #[]), .string (ByteArray.mk #[]), .int .i64 0] 33)) fun (x50 : Nat) =>
  HM.bind (α := Unit) (HM.storeN ⟨x50, 0, none⟩ [.string x49.1, .string x49.2.1, .int .i64 x49.2.2.1]) fun (_ : Unit) =>
  HM.bind (α := Bool × Unit) (HM.bind (α := ByteArray) (HM.load1 .str (Addr.add ⟨x50, 0, none⟩ 0)) fun (x51 : ByteArray) =>
  HM.bind (α := (ByteArray × ByteArray × Int × Unit) × Bool) (HM.lookup (Instr.sameNow .string) (.agg #[.string (ByteArray.mk #[]), .string (ByteArray.mk #[]), .int .i64 0]) (.agg [.str, .str, .int .i64]) (some x2) (.string x51)) fun (x52 : (ByteArray × ByteArray × Int × Unit) × Bool) =>
  HM.bind (α := ByteArray × ByteArray × Int × Unit) (HM.loadN [.str, .str, .int .i64] ⟨x50, 0, none⟩) fun (x53 : ByteArray × ByteArray × Int × Unit) =>
  HM.ite (!((decide (x52.1.1 = x53.1)) && ((decide (x52.1.2.1 = x53.2.1)) && ((x52.1.2.2.1 == x53.2.2.1) && true)))) (
  HM.pure (true, ())) (
  HM.ite (decide (0 < (x47.1 : Int))) (
  HM.bind (α := Addr) (HM.idx x45.a x45.len (IntKind.wrap .i64 (x47.1 - 1)) 3) fun (x54 : Addr) =>
  HM.bind (α := ByteArray) (HM.load1 .str (Addr.add x54 0)) fun (x55 : ByteArray) =>
  HM.bind (α := ByteArray) (HM.load1 .str (Addr.add ⟨x50, 0, none⟩ 0)) fun (x56 : ByteArray) =>
  HM.pure (!(Op.bytesLess x55.toList x56.toList), ())) (
  HM.pure (false, ())))) fun (x57 : Bool × Unit) =>
  HM.ite x57.1 (
  HM.pure (.inr (.inr (false, ())))) (
  HM.pure (.inl (IntKind.wrap .i64 (x47.1 + 1), ())))) (
  HM.pure (.inr (.inl (x47.1, ()))))) (0, ())) (Sum.elim (fun (x46 : Int × Unit) =>
  HM.bind (α := Bool × Unit) (HM.bind (α := Bool) (HM.call1 Tryd.prog (.one .bool) 14 #[]) fun (x58 : Bool) =>
  HM.ite x58 (
  HM.ite (((x45.len : Nat) : Int) == x23.1) (
  HM.bind (α := Int) (HM.mapLen (some x2)) fun (x59 : Int) =>
  HM.pure (decide (x59 ≤ ((if 0 < ((if 64 < (p0 : Int) then 64 else p0) : Int) then (if 64 < (p0 : Int) then 64 else p0) else 0) : Int)), ())) (
  HM.pure (false, ()))) (
  HM.pure (false, ()))) fun (x60 : Bool × Unit) =>
  HM.pure (x60.1, ())) HM.pure)) HM.pure)) HM.pure)

theorem law17_RetainLast_den (p0 : Int) (p1 : Slc) (p2 : ByteArray) : denFn Tryd.prog [12, 15, 17, 21, 19, 14] 140 [0, 1, 2, 6, 7, 8, 10, 11, 12, 13, 14, 15, 16, 17, 18, 19, 27, 28, 29, 30, 42, 53, 66, 69, 71, 87, 90, 96, 97, 98, 99, 123] [0, 1, 2, 7, 8, 10, 11, 12, 13, 14, 15, 16, 17, 18, 19, 27, 28, 29, 30, 42, 53, 66, 69, 71, 87, 90, 96, 97, 98, 99, 123] Tryd.f4.results.toList [.one .bool] (bodyOf Tryd.f4) [Kind.val (.one (.int .i64)) p0, Kind.val (.one .slc) p1, Kind.val (.one .str) p2] = law17_RetainLast p0 p1 p2 := by kernel_rfl
theorem law17_RetainLast_calls (p0 : Int) (p1 : Slc) (p2 : ByteArray) (h : Heap) (Q : Value → Heap → Prop) (hh : law17_RetainLast p0 p1 p2 h fun x h' => Q (.bool x.1) h') :
    HCalls Tryd.prog 4 #[.int .i64 p0, .slice p1.a p1.len p1.cap, .string p2] h Q := by
  rw [← law17_RetainLast_den] at hh
  exact calls_of_den Tryd.func4 (by kernel_rfl) Tryd.ntmps4 (by kernel_rfl) (fun f hf => by
      rcases List.mem_cons.1 hf with rfl | hf
      · exact Tryd.call12
      rcases List.mem_cons.1 hf with rfl | hf
      · exact Tryd.call15
      rcases List.mem_cons.1 hf with rfl | hf
      · exact Tryd.call17
      rcases List.mem_cons.1 hf with rfl | hf
      · exact Tryd.call21
      rcases List.mem_cons.1 hf with rfl | hf
      · exact Tryd.call19
      rcases List.mem_cons.1 hf with rfl | hf
      · exact Tryd.call14
      cases hf) orders hh

/-- aqueduct/aqueductlaw17.RetainNil -/
def law17_RetainNil (p0 : ByteArray × ByteArray × Int × Unit) : HM (Bool × Unit) :=
  HM.bind (α := Nat) (HM.new (.cells #[.string p0.1, .string p0.2.1, .int .i64 p0.2.2.1] 30)) fun (x1 : Nat) =>
  HM.bind (α := ByteArray) (HM.load1 .str (Addr.add ⟨x1, 0, none⟩ 0)) fun (x2 : ByteArray) =>
  HM.bind (α := (ByteArray × ByteArray × Int × Unit) × Bool × Unit) (HM.callN Tryd.prog [.agg [.str, .str, .int .i64], .one .bool] 17 #[.pointer none, .string x2]) fun (x3 : (ByteArray × ByteArray × Int × Unit) × Bool × Unit) =>
  HM.bind (α := Nat) (HM.new (.cells #[.string (ByteArray.mk #[]), .string (ByteArray.mk #[]), .int .i64 0] 33)) fun (x4 : Nat) =>
  HM.bind (α := Unit) (HM.storeN ⟨x4, 0, none⟩ [.string x3.1.1, .string x3.1.2.1, .int .i64 x3.1.2.2.1]) fun (_ : Unit) =>
  HM.bind (α := Bool × Unit) (HM.bind (α := Bool) (HM.call1 Tryd.prog (.one .bool) 14 #[]) fun (x5 : Bool) =>
  HM.ite x5 (
  HM.bind (α := ByteArray × ByteArray × Int × Unit) (HM.loadN [.str, .str, .int .i64] ⟨x1, 0, none⟩) fun (x6 : ByteArray × ByteArray × Int × Unit) =>
  HM.bind (α := Int) (HM.call1 Tryd.prog (.one (.int .u8)) 15 #[.pointer none, .agg #[.string x6.1, .string x6.2.1, .int .i64 x6.2.2.1]]) fun (x7 : Int) =>
  HM.ite (x7 == 128) (
  HM.ite (!x3.2.1) (
  HM.bind (α := ByteArray) (HM.load1 .str (Addr.add ⟨x1, 0, none⟩ 0)) fun (x8 : ByteArray) =>
  HM.bind (α := Slc) (HM.call1 Tryd.prog (.one .slc) 19 #[.pointer none, .string x8]) fun (x9 : Slc) =>
  HM.pure (((x9.len : Nat) : Int) == 0, ())) (
  HM.pure (false, ()))) (
  HM.pure (false, ()))) (
  HM.pure (false, ()))) fun (x10 : Bool × Unit) =>
  HM.pure (x10.1, ())

theorem law17_RetainNil_den (p0 : ByteArray × ByteArray × Int × Unit) : denFn Tryd.prog [17, 14, 15, 19] 32 [0, 1, 2, 3, 5] [0, 1, 3, 5] Tryd.f5.results.toList [.one .bool] (bodyOf Tryd.f5) [Kind.val (.agg [.str, .str, .int .i64]) p0] = law17_RetainNil p0 := by kernel_rfl
theorem law17_RetainNil_calls (p0 : ByteArray × ByteArray × Int × Unit) (h : Heap) (Q : Value → Heap → Prop) (hh : law17_RetainNil p0 h fun x h' => Q (.bool x.1) h') :
    HCalls Tryd.prog 5 #[.agg #[.string p0.1, .string p0.2.1, .int .i64 p0.2.2.1]] h Q := by
  rw [← law17_RetainNil_den] at hh
  exact calls_of_den Tryd.func5 (by kernel_rfl) Tryd.ntmps5 (by kernel_rfl) (fun f hf => by
      rcases List.mem_cons.1 hf with rfl | hf
      · exact Tryd.call17
      rcases List.mem_cons.1 hf with rfl | hf
      · exact Tryd.call14
      rcases List.mem_cons.1 hf with rfl | hf
      · exact Tryd.call15
      rcases List.mem_cons.1 hf with rfl | hf
      · exact Tryd.call19
      cases hf) orders hh

/-- aqueduct/retain.New -/
def retain_New (p0 : Int) : HM (Option Addr × Unit) :=
  HM.bind (α := Nat) (HM.new (.map #[] 0)) fun (x1 : Nat) =>
  HM.bind (α := Nat) (HM.new (.cells #[.int .i64 (if 0 < ((if 64 < (p0 : Int) then 64 else p0) : Int) then (if 64 < (p0 : Int) then 64 else p0) else 0), .map (some x1)] 104)) fun (x2 : Nat) =>
  HM.pure (some ⟨x2, 0, none⟩, ())

theorem retain_New_den (p0 : Int) : denFn Tryd.prog [] 9 [0, 2] [0] Tryd.f12.results.toList [.one .ptr] (bodyOf Tryd.f12) [Kind.val (.one (.int .i64)) p0] = retain_New p0 := by kernel_rfl
theorem retain_New_calls (p0 : Int) (h : Heap) (Q : Value → Heap → Prop) (hh : retain_New p0 h fun x h' => Q (.pointer x.1) h') :
    HCalls Tryd.prog 12 #[.int .i64 p0] h Q := by
  rw [← retain_New_den] at hh
  exact calls_of_den Tryd.func12 (by kernel_rfl) Tryd.ntmps12 (by kernel_rfl) (fun f hf => by cases hf) orders hh

/-- aqueduct/aqueductref17.New -/
def ref17_New (p0 : Int) : HM (Option Addr × Unit) :=
  HM.bind (α := Int × Unit) (HM.ite (decide (p0 < (0 : Int))) (
  HM.pure (0, ())) (
  HM.pure (p0, ()))) fun (x1 : Int × Unit) =>
  HM.bind (α := Int × Unit) (HM.ite (decide (64 < (x1.1 : Int))) (
  HM.pure (64, ())) (
  HM.pure (x1.1, ()))) fun (x2 : Int × Unit) =>
  HM.bind (α := Nat) (HM.new (.cells #[.int .i64 x2.1, .slice none 0 0] 106)) fun (x3 : Nat) =>
  HM.pure (some ⟨x3, 0, none⟩, ())

theorem ref17_New_den (p0 : Int) : denFn Tryd.prog [] 10 [0, 2, 4, 6] [0, 4, 6] Tryd.f13.results.toList [.one .ptr] (bodyOf Tryd.f13) [Kind.val (.one (.int .i64)) p0] = ref17_New p0 := by kernel_rfl
theorem ref17_New_calls (p0 : Int) (h : Heap) (Q : Value → Heap → Prop) (hh : ref17_New p0 h fun x h' => Q (.pointer x.1) h') :
    HCalls Tryd.prog 13 #[.int .i64 p0] h Q := by
  rw [← ref17_New_den] at hh
  exact calls_of_den Tryd.func13 (by kernel_rfl) Tryd.ntmps13 (by kernel_rfl) (fun f hf => by cases hf) orders hh

/-- aqueduct/aqueductlaw17.wakes -/
def law17_wakes : HM (Bool × Unit) :=
  HM.bind (α := Option Addr) (HM.call1 Tryd.prog (.one .ptr) 12 #[.int .i64 5]) fun (x1 : Option Addr) =>
  HM.bind (α := Nat) (HM.new (.cells #[.string (ByteArray.mk #[97, 47, 98]), .string (ByteArray.mk #[120]), .int .i64 1, .string (ByteArray.mk #[97, 47, 99]), .string (ByteArray.mk #[121]), .int .i64 0, .string (ByteArray.mk #[97, 47, 98]), .string (ByteArray.mk #[]), .int .i64 0] 33)) fun (x2 : Nat) =>
  HM.bind (α := (Int × Unit) ⊕ (Bool × Unit)) (HM.loop (σ := Int × Unit) (τ := (Int × Unit) ⊕ (Bool × Unit)) (fun (x4 : Int × Unit) =>
  HM.ite (decide (x4.1 < (((3 : Nat) : Int) : Int))) (
  HM.bind (α := Addr) (HM.idx (some ⟨x2, 0, none⟩) 3 x4.1 3) fun (x5 : Addr) =>
  HM.bind (α := ByteArray × ByteArray × Int × Unit) (HM.loadN [.str, .str, .int .i64] x5) fun (x6 : ByteArray × ByteArray × Int × Unit) =>
  HM.bind (α := Nat) (HM.new (.cells #[.string (ByteArray.mk #[]), .string (ByteArray.mk #[]), .int .i64 0] 33)) fun (x7 : Nat) =>
  HM.bind (α := Unit) (HM.storeN ⟨x7, 0, none⟩ [.string x6.1, .string x6.2.1, .int .i64 x6.2.2.1]) fun (_ : Unit) =>
  HM.bind (α := ByteArray × ByteArray × Int × Unit) (HM.loadN [.str, .str, .int .i64] ⟨x7, 0, none⟩) fun (x8 : ByteArray × ByteArray × Int × Unit) =>
  HM.bind (α := Int) (HM.call1 Tryd.prog (.one (.int .u8)) 15 #[.pointer x1, .agg #[.string x8.1, .string x8.2.1, .int .i64 x8.2.2.1]]) fun (x9 : Int) =>
  HM.ite (!(x9 == 0)) (
  HM.pure (.inr (.inr (false, ())))) (
  HM.pure (.inl (IntKind.wrap .i64 (x4.1 + 1), ())))) (
  HM.pure (.inr (.inl (x4.1, ()))))) (0, ())) (Sum.elim (fun (x3 : Int × Unit) =>
  HM.bind (α := Slc) (HM.call1 Tryd.prog (.one .slc) 19 #[.pointer x1, .string (ByteArray.mk #[97, 47, 43])]) fun (x10 : Slc) =>
  HM.bind (α := Bool × Unit) (HM.ite (((x10.len : Nat) : Int) == 1) (
  HM.bind (α := Addr) (HM.idx x10.a x10.len 0 3) fun (x11 : Addr) =>
  HM.bind (α := ByteArray × ByteArray × Int × Unit) (HM.loadN [.str, .str, .int .i64] x11) fun (x12 : ByteArray × ByteArray × Int × Unit) =>
  HM.pure ((decide (x12.1 = (ByteArray.mk #[97, 47, 99]))) && ((decide (x12.2.1 = (ByteArray.mk #[121]))) && ((x12.2.2.1 == 0) && true)), ())) (
  HM.pure (false, ()))) fun (x13 : Bool × Unit) =>
  HM.pure (x13.1, ())) HM.pure)

theorem law17_wakes_den : denFn Tryd.prog [12, 15, 19] 32 [0, 1, 3, 4, 9, 10, 11, 12, 18] [1, 3, 4, 9, 10, 11, 12, 18] Tryd.f14.results.toList [.one .bool] (bodyOf Tryd.f14) [] = law17_wakes := by kernel_rfl
theorem law17_wakes_calls (h : Heap) (Q : Value → Heap → Prop) (hh : law17_wakes h fun x h' => Q (.bool x.1) h') :
    HCalls Tryd.prog 14 #[] h Q := by
  rw [← law17_wakes_den] at hh
  exact calls_of_den Tryd.func14 (by kernel_rfl) Tryd.ntmps14 (by kernel_rfl) (fun f hf => by
      rcases List.mem_cons.1 hf with rfl | hf
      · exact Tryd.call12
      rcases List.mem_cons.1 hf with rfl | hf
      · exact Tryd.call15
      rcases List.mem_cons.1 hf with rfl | hf
      · exact Tryd.call19
      cases hf) orders hh

/-- (*aqueduct/retain.Store).Set -/
def retain_Store_Set (p0 : Option Addr) (p1 : ByteArray × ByteArray × Int × Unit) : HM (Int × Unit) :=
  HM.bind (α := Nat) (HM.new (.cells #[.string p1.1, .string p1.2.1, .int .i64 p1.2.2.1] 33)) fun (x1 : Nat) =>
  HM.ite (Option.isNone p0) (
  HM.pure (128, ())) (
  HM.bind (α := ByteArray) (HM.load1 .str (Addr.add ⟨x1, 0, none⟩ 0)) fun (x2 : ByteArray) =>
  HM.bind (α := Int) (HM.call1 Tryd.prog (.one (.int .u8)) 38 #[.string x2]) fun (x3 : Int) =>
  HM.ite (!(x3 == 0)) (
  HM.pure (144, ())) (
  HM.bind (α := Bool × Unit) (HM.bind (α := Int) (HM.load1 (.int .i64) (Addr.add ⟨x1, 0, none⟩ 2)) fun (x4 : Int) =>
  HM.ite (decide (x4 < (0 : Int))) (
  HM.pure (true, ())) (
  HM.bind (α := Int) (HM.load1 (.int .i64) (Addr.add ⟨x1, 0, none⟩ 2)) fun (x5 : Int) =>
  HM.pure (decide (2 < (x5 : Int)), ()))) fun (x6 : Bool × Unit) =>
  HM.ite x6.1 (
  HM.pure (155, ())) (
  HM.bind (α := ByteArray) (HM.load1 .str (Addr.add ⟨x1, 0, none⟩ 1)) fun (x7 : ByteArray) =>
  HM.ite (decide (x7 = (ByteArray.mk #[]))) (
  HM.bind (α := Addr) (HM.nonnil p0) fun (x8 : Addr) =>
  HM.bind (α := Option Nat) (HM.load1 .map (Addr.add x8 1)) fun (x9 : Option Nat) =>
  HM.bind (α := ByteArray) (HM.load1 .str (Addr.add ⟨x1, 0, none⟩ 0)) fun (x10 : ByteArray) =>
  HM.bind (α := Unit) (HM.mapDel (Instr.sameNow .string) x9 (.string x10)) fun (_ : Unit) =>
  HM.pure (0, ())) (
  HM.bind (α := Addr) (HM.nonnil p0) fun (x11 : Addr) =>
  HM.bind (α := Option Nat) (HM.load1 .map (Addr.add x11 1)) fun (x12 : Option Nat) =>
  HM.bind (α := ByteArray) (HM.load1 .str (Addr.add ⟨x1, 0, none⟩ 0)) fun (x13 : ByteArray) =>
  HM.bind (α := (ByteArray × ByteArray × Int × Unit) × Bool) (HM.lookup (Instr.sameNow .string) (.agg #[.string (ByteArray.mk #[]), .string (ByteArray.mk #[]), .int .i64 0]) (.agg [.str, .str, .int .i64]) x12 (.string x13)) fun (x14 : (ByteArray × ByteArray × Int × Unit) × Bool) =>
  HM.bind (α := Nat) (HM.new (.cells #[.string (ByteArray.mk #[]), .string (ByteArray.mk #[]), .int .i64 0] 33)) fun (x15 : Nat) =>
  HM.bind (α := (ByteArray × ByteArray × Int × Unit) × Bool) (HM.lookup (Instr.sameNow .string) (.agg #[.string (ByteArray.mk #[]), .string (ByteArray.mk #[]), .int .i64 0]) (.agg [.str, .str, .int .i64]) x12 (.string x13)) fun (x16 : (ByteArray × ByteArray × Int × Unit) × Bool) =>
  HM.req ((.tuple #[.agg #[.string x16.1.1, .string x16.1.2.1, .int .i64 x16.1.2.2.1], .bool x16.2] : Value) = .tuple #[.agg #[.string x14.1.1, .string x14.1.2.1, .int .i64 x14.1.2.2.1], .bool x14.2]) <|
  HM.bind (α := ByteArray) (HM.load1 .str (Addr.add ⟨x1, 0, none⟩ 0)) fun (x17 : ByteArray) =>
  HM.req ((.string x17 : Value) = .string x13) <|
  HM.bind (α := Option Nat) (HM.load1 .map (Addr.add x11 1)) fun (x18 : Option Nat) =>
  HM.req ((.map x18 : Value) = .map x12) <|
  HM.bind (α := Unit) (HM.storeN ⟨x15, 0, none⟩ [.string x14.1.1, .string x14.1.2.1, .int .i64 x14.1.2.2.1]) fun (_ : Unit) =>
  HM.bind (α := Bool × Unit) (HM.ite (!x14.2) (
  HM.bind (α := Addr) (HM.nonnil p0) fun (x19 : Addr) =>
  HM.bind (α := Option Nat) (HM.load1 .map (Addr.add x19 1)) fun (x20 : Option Nat) =>
  HM.bind (α := Int) (HM.mapLen x20) fun (x21 : Int) =>
  HM.bind (α := Addr) (HM.nonnil p0) fun (x22 : Addr) =>
  HM.bind (α := Int) (HM.load1 (.int .i64) (Addr.add x22 0)) fun (x23 : Int) =>
  HM.pure (decide (x23 ≤ (x21 : Int)), ())) (
  HM.pure (false, ()))) fun (x24 : Bool × Unit) =>
  HM.ite x24.1 (
  HM.pure (151, ())) (
  HM.bind (α := Addr) (HM.nonnil p0) fun (x25 : Addr) =>
  HM.bind (α := Option Nat) (HM.load1 .map (Addr.add x25 1)) fun (x26 : Option Nat) =>
  HM.bind (α := ByteArray) (HM.load1 .str (Addr.add ⟨x1, 0, none⟩ 0)) fun (x27 : ByteArray) =>
  HM.bind (α := ByteArray × ByteArray × Int × Unit) (HM.loadN [.str, .str, .int .i64] ⟨x1, 0, none⟩) fun (x28 : ByteArray × ByteArray × Int × Unit) =>
  HM.bind (α := Unit) (HM.mapSet (Instr.sameNow .string) x26 (.string x27) (.agg #[.string x28.1, .string x28.2.1, .int .i64 x28.2.2.1])) fun (_ : Unit) =>
  HM.pure (0, ()))))))

theorem retain_Store_Set_den (p0 : Option Addr) (p1 : ByteArray × ByteArray × Int × Unit) : denFn Tryd.prog [38] 65 [0, 1, 3, 4, 6, 7, 10, 15, 24, 57] [0, 1, 3, 6, 7, 10, 15, 24, 57] Tryd.f15.results.toList [.one (.int .u8)] (bodyOf Tryd.f15) [Kind.val (.one .ptr) p0, Kind.val (.agg [.str, .str, .int .i64]) p1] = retain_Store_Set p0 p1 := by kernel_rfl
theorem retain_Store_Set_calls (p0 : Option Addr) (p1 : ByteArray × ByteArray × Int × Unit) (h : Heap) (Q : Value → Heap → Prop) (hh : retain_Store_Set p0 p1 h fun x h' => Q (.int .u8 x.1) h') :
    HCalls Tryd.prog 15 #[.pointer p0, .agg #[.string p1.1, .string p1.2.1, .int .i64 p1.2.2.1]] h Q := by
  rw [← retain_Store_Set_den] at hh
  exact calls_of_den Tryd.func15 (by kernel_rfl) Tryd.ntmps15 (by kernel_rfl) (fun f hf => by
      rcases List.mem_cons.1 hf with rfl | hf
      · exact Tryd.call38
      cases hf) orders hh

/-- aqueduct/aqueductref17.Set -/
def ref17_Set (p0 : Option Addr) (p1 : ByteArray × ByteArray × Int × Unit) : HM (Int × Unit) :=
  HM.bind (α := Nat) (HM.new (.cells #[.string p1.1, .string p1.2.1, .int .i64 p1.2.2.1] 35)) fun (x1 : Nat) =>
  HM.bind (α := ByteArray) (HM.load1 .str (Addr.add ⟨x1, 0, none⟩ 0)) fun (x2 : ByteArray) =>
  HM.bind (α := Int) (HM.call1 Tryd.prog (.one (.int .i64)) 39 #[.string x2]) fun (x3 : Int) =>
  HM.ite (!(x3 == 0)) (
  HM.pure (144, ())) (
  HM.bind (α := Bool × Unit) (HM.bind (α := Int) (HM.load1 (.int .i64) (Addr.add ⟨x1, 0, none⟩ 2)) fun (x4 : Int) =>
  HM.ite (decide (x4 < (0 : Int))) (
  HM.pure (true, ())) (
  HM.bind (α := Int) (HM.load1 (.int .i64) (Addr.add ⟨x1, 0, none⟩ 2)) fun (x5 : Int) =>
  HM.pure (decide (2 < (x5 : Int)), ()))) fun (x6 : Bool × Unit) =>
  HM.ite x6.1 (
  HM.pure (155, ())) (
  HM.bind (α := Addr) (HM.nonnil p0) fun (x7 : Addr) =>
  HM.bind (α := Slc) (HM.load1 .slc (Addr.add x7 1)) fun (x8 : Slc) =>
  HM.bind (α := ByteArray) (HM.load1 .str (Addr.add ⟨x1, 0, none⟩ 0)) fun (x9 : ByteArray) =>
  HM.bind (α := Slc) (HM.call1 Tryd.prog (.one .slc) 40 #[.slice x8.a x8.len x8.cap, .string x9]) fun (x10 : Slc) =>
  HM.bind (α := ByteArray) (HM.load1 .str (Addr.add ⟨x1, 0, none⟩ 1)) fun (x11 : ByteArray) =>
  HM.ite (((ByteArray.size x11 : Nat) : Int) == 0) (
  HM.bind (α := Addr) (HM.nonnil p0) fun (x12 : Addr) =>
  HM.bind (α := Unit) (HM.store1 (Addr.add x12 1) (.slice x10.a x10.len x10.cap)) fun (_ : Unit) =>
  HM.pure (0, ())) (
  HM.bind (α := Bool × Unit) (HM.bind (α := Addr) (HM.nonnil p0) fun (x13 : Addr) =>
  HM.bind (α := Slc) (HM.load1 .slc (Addr.add x13 1)) fun (x14 : Slc) =>
  HM.ite (((x10.len : Nat) : Int) == ((x14.len : Nat) : Int)) (
  HM.bind (α := Addr) (HM.nonnil p0) fun (x15 : Addr) =>
  HM.bind (α := Int) (HM.load1 (.int .i64) (Addr.add x15 0)) fun (x16 : Int) =>
  HM.pure (decide (x16 ≤ (((x10.len : Nat) : Int) : Int)), ())) (
  HM.pure (false, ()))) fun (x17 : Bool × Unit) =>
  HM.ite x17.1 (
  HM.pure (151, ())) (
  HM.bind (α := Bool × Slc × Int × Unit) (HM.loop (σ := Bool × Slc × Int × Unit) (τ := Bool × Slc × Int × Unit) (fun (x19 : Bool × Slc × Int × Unit) =>
  HM.ite (decide (x19.2.2.1 < (((x10.len : Nat) : Int) : Int))) (
  HM.bind (α := Bool × Unit) (HM.ite (!x19.1) (
  HM.bind (α := ByteArray) (HM.load1 .str (Addr.add ⟨x1, 0, none⟩ 0)) fun (x20 : ByteArray) =>
  HM.bind (α := Addr) (HM.idx x10.a x10.len x19.2.2.1 3) fun (x21 : Addr) =>
  HM.bind (α := ByteArray) (HM.load1 .str (Addr.add x21 0)) fun (x22 : ByteArray) =>
  HM.pure (Op.bytesLess x20.toList x22.toList, ())) (
  HM.pure (false, ()))) fun (x23 : Bool × Unit) =>
  HM.bind (α := Slc × Bool × Unit) (HM.ite x23.1 (
  HM.bind (α := ByteArray × ByteArray × Int × Unit) (HM.loadN [.str, .str, .int .i64] ⟨x1, 0, none⟩) fun (x25 : ByteArray × ByteArray × Int × Unit) =>
  HM.bind (α := Nat) (HM.new (.cells #[.string x25.1, .string x25.2.1, .int .i64 x25.2.2.1] 35)) fun (x26 : Nat) =>
  HM.bind (α := Slc) (HM.append 35 3 40 #[.string (ByteArray.mk #[]), .string (ByteArray.mk #[]), .int .i64 0] x19.2.1 1 (srcSlc 3 (⟨some ⟨x26, 0, none⟩, 1, 1⟩))) fun (x27 : Slc) =>
  HM.pure (x27, true, ())) (
  HM.pure (x19.2.1, x19.1, ()))) fun (x24 : Slc × Bool × Unit) =>
  HM.bind (α := Addr) (HM.idx x10.a x10.len x19.2.2.1 3) fun (x28 : Addr) =>
  HM.bind (α := ByteArray × ByteArray × Int × Unit) (HM.loadN [.str, .str, .int .i64] x28) fun (x29 : ByteArray × ByteArray × Int × Unit) =>
  HM.bind (α := Nat) (HM.new (.cells #[.string x29.1, .string x29.2.1, .int .i64 x29.2.2.1] 35)) fun (x30 : Nat) =>
  HM.bind (α := Slc) (HM.append 35 3 40 #[.string (ByteArray.mk #[]), .string (ByteArray.mk #[]), .int .i64 0] x24.1 1 (srcSlc 3 (⟨some ⟨x30, 0, none⟩, 1, 1⟩))) fun (x31 : Slc) =>
  HM.pure (.inl (x24.2.1, x31, IntKind.wrap .i64 (x19.2.2.1 + 1), ()))) (
  HM.pure (.inr (x19.1, x19.2.1, x19.2.2.1, ())))) (false, ⟨none, 0, 0⟩, 0, ())) fun (x18 : Bool × Slc × Int × Unit) =>
  HM.bind (α := Slc × Unit) (HM.ite (!x18.1) (
  HM.bind (α := ByteArray × ByteArray × Int × Unit) (HM.loadN [.str, .str, .int .i64] ⟨x1, 0, none⟩) fun (x33 : ByteArray × ByteArray × Int × Unit) =>
  HM.bind (α := Nat) (HM.new (.cells #[.string x33.1, .string x33.2.1, .int .i64 x33.2.2.1] 35)) fun (x34 : Nat) =>
  HM.bind (α := Slc) (HM.append 35 3 40 #[.string (ByteArray.mk #[]), .string (ByteArray.mk #[]), .int .i64 0] x18.2.1 1 (srcSlc 3 (⟨some ⟨x34, 0, none⟩, 1, 1⟩))) fun (x35 : Slc) =>
  HM.pure (x35, ())) (
  HM.pure (x18.2.1, ()))) fun (x32 : Slc × Unit) =>
  HM.bind (α := Addr) (HM.nonnil p0) fun (x36 : Addr) =>
  HM.bind (α := Unit) (HM.store1 (Addr.add x36 1) (.slice x32.1.a x32.1.len x32.1.cap)) fun (_ : Unit) =>
  HM.pure (0, ())))))

theorem ref17_Set_den (p0 : Option Addr) (p1 : ByteArray × ByteArray × Int × Unit) : denFn Tryd.prog [39, 40] 94 [0, 1, 3, 4, 5, 6, 7, 8, 9, 14, 22, 33, 54, 58, 72, 85] [0, 1, 3, 5, 6, 7, 8, 9, 14, 22, 33, 54, 58, 72, 85] Tryd.f16.results.toList [.one (.int .i64)] (bodyOf Tryd.f16) [Kind.val (.one .ptr) p0, Kind.val (.agg [.str, .str, .int .i64]) p1] = ref17_Set p0 p1 := by kernel_rfl
theorem ref17_Set_calls (p0 : Option Addr) (p1 : ByteArray × ByteArray × Int × Unit) (h : Heap) (Q : Value → Heap → Prop) (hh : ref17_Set p0 p1 h fun x h' => Q (.int .i64 x.1) h') :
    HCalls Tryd.prog 16 #[.pointer p0, .agg #[.string p1.1, .string p1.2.1, .int .i64 p1.2.2.1]] h Q := by
  rw [← ref17_Set_den] at hh
  exact calls_of_den Tryd.func16 (by kernel_rfl) Tryd.ntmps16 (by kernel_rfl) (fun f hf => by
      rcases List.mem_cons.1 hf with rfl | hf
      · exact Tryd.call39
      rcases List.mem_cons.1 hf with rfl | hf
      · exact Tryd.call40
      cases hf) orders hh

/-- (*aqueduct/retain.Store).Get -/
def retain_Store_Get (p0 : Option Addr) (p1 : ByteArray) : HM ((ByteArray × ByteArray × Int × Unit) × Bool × Unit) :=
  HM.bind (α := Nat) (HM.new (.cells #[.string (ByteArray.mk #[]), .string (ByteArray.mk #[]), .int .i64 0] 33)) fun (x1 : Nat) =>
  HM.ite (Option.isNone p0) (
  HM.bind (α := Unit) (HM.storeN ⟨x1, 0, none⟩ [.string (ByteArray.mk #[]), .string (ByteArray.mk #[]), .int .i64 0]) fun (_ : Unit) =>
  HM.bind (α := ByteArray × ByteArray × Int × Unit) (HM.loadN [.str, .str, .int .i64] ⟨x1, 0, none⟩) fun (x2 : ByteArray × ByteArray × Int × Unit) =>
  HM.pure ((x2.1, x2.2.1, x2.2.2.1, ()), false, ())) (
  HM.bind (α := Addr) (HM.nonnil p0) fun (x3 : Addr) =>
  HM.bind (α := Option Nat) (HM.load1 .map (Addr.add x3 1)) fun (x4 : Option Nat) =>
  HM.bind (α := (ByteArray × ByteArray × Int × Unit) × Bool) (HM.lookup (Instr.sameNow .string) (.agg #[.string (ByteArray.mk #[]), .string (ByteArray.mk #[]), .int .i64 0]) (.agg [.str, .str, .int .i64]) x4 (.string p1)) fun (x5 : (ByteArray × ByteArray × Int × Unit) × Bool) =>
  HM.bind (α := Nat) (HM.new (.cells #[.string (ByteArray.mk #[]), .string (ByteArray.mk #[]), .int .i64 0] 33)) fun (x6 : Nat) =>
  HM.bind (α := Unit) (HM.storeN ⟨x6, 0, none⟩ [.string x5.1.1, .string x5.1.2.1, .int .i64 x5.1.2.2.1]) fun (_ : Unit) =>
  HM.bind (α := ByteArray × ByteArray × Int × Unit) (HM.loadN [.str, .str, .int .i64] ⟨x6, 0, none⟩) fun (x7 : ByteArray × ByteArray × Int × Unit) =>
  HM.bind (α := Unit) (HM.storeN ⟨x1, 0, none⟩ [.string x7.1, .string x7.2.1, .int .i64 x7.2.2.1]) fun (_ : Unit) =>
  HM.bind (α := ByteArray × ByteArray × Int × Unit) (HM.loadN [.str, .str, .int .i64] ⟨x1, 0, none⟩) fun (x8 : ByteArray × ByteArray × Int × Unit) =>
  HM.pure ((x8.1, x8.2.1, x8.2.2.1, ()), x5.2, ()))

theorem retain_Store_Get_den (p0 : Option Addr) (p1 : ByteArray) : denFn Tryd.prog [] 22 [0, 1, 4, 5, 6, 7, 9] [0, 1, 4, 6, 7, 9] Tryd.f17.results.toList [.agg [.str, .str, .int .i64], .one .bool] (bodyOf Tryd.f17) [Kind.val (.one .ptr) p0, Kind.val (.one .str) p1] = retain_Store_Get p0 p1 := by kernel_rfl
theorem retain_Store_Get_calls (p0 : Option Addr) (p1 : ByteArray) (h : Heap) (Q : Value → Heap → Prop) (hh : retain_Store_Get p0 p1 h fun x h' => Q (.tuple #[.agg #[.string x.1.1, .string x.1.2.1, .int .i64 x.1.2.2.1], .bool x.2.1]) h') :
    HCalls Tryd.prog 17 #[.pointer p0, .string p1] h Q := by
  rw [← retain_Store_Get_den] at hh
  exact calls_of_den Tryd.func17 (by kernel_rfl) Tryd.ntmps17 (by kernel_rfl) (fun f hf => by cases hf) orders hh

/-- aqueduct/aqueductref17.Get -/
def ref17_Get (p0 : Option Addr) (p1 : ByteArray) : HM ((ByteArray × ByteArray × Int × Unit) × Bool × Unit) :=
  HM.bind (α := Nat) (HM.new (.cells #[.string (ByteArray.mk #[]), .string (ByteArray.mk #[]), .int .i64 0] 35)) fun (x1 : Nat) =>
  HM.bind (α := (Int × Unit) ⊕ ((ByteArray × ByteArray × Int × Unit) × Bool × Unit)) (HM.loop (σ := Int × Unit) (τ := (Int × Unit) ⊕ ((ByteArray × ByteArray × Int × Unit) × Bool × Unit)) (fun (x3 : Int × Unit) =>
  HM.bind (α := Addr) (HM.nonnil p0) fun (x4 : Addr) =>
  HM.bind (α := Slc) (HM.load1 .slc (Addr.add x4 1)) fun (x5 : Slc) =>
  HM.ite (decide (x3.1 < (((x5.len : Nat) : Int) : Int))) (
  HM.bind (α := Addr) (HM.nonnil p0) fun (x6 : Addr) =>
  HM.bind (α := Slc) (HM.load1 .slc (Addr.add x6 1)) fun (x7 : Slc) =>
  HM.bind (α := Addr) (HM.idx x7.a x7.len x3.1 3) fun (x8 : Addr) =>
  HM.bind (α := ByteArray) (HM.load1 .str (Addr.add x8 0)) fun (x9 : ByteArray) =>
  HM.ite (decide (x9 = p1)) (
  HM.bind (α := Addr) (HM.nonnil p0) fun (x10 : Addr) =>
  HM.bind (α := Slc) (HM.load1 .slc (Addr.add x10 1)) fun (x11 : Slc) =>
  HM.bind (α := Addr) (HM.idx x11.a x11.len x3.1 3) fun (x12 : Addr) =>
  HM.bind (α := ByteArray × ByteArray × Int × Unit) (HM.loadN [.str, .str, .int .i64] x12) fun (x13 : ByteArray × ByteArray × Int × Unit) =>
  HM.bind (α := Unit) (HM.storeN ⟨x1, 0, none⟩ [.string x13.1, .string x13.2.1, .int .i64 x13.2.2.1]) fun (_ : Unit) =>
  HM.bind (α := ByteArray × ByteArray × Int × Unit) (HM.loadN [.str, .str, .int .i64] ⟨x1, 0, none⟩) fun (x14 : ByteArray × ByteArray × Int × Unit) =>
  HM.pure (.inr (.inr ((x14.1, x14.2.1, x14.2.2.1, ()), true, ())))) (
  HM.pure (.inl (IntKind.wrap .i64 (x3.1 + 1), ())))) (
  HM.pure (.inr (.inl (x3.1, ()))))) (0, ())) (Sum.elim (fun (x2 : Int × Unit) =>
  HM.bind (α := Unit) (HM.storeN ⟨x1, 0, none⟩ [.string (ByteArray.mk #[]), .string (ByteArray.mk #[]), .int .i64 0]) fun (_ : Unit) =>
  HM.bind (α := ByteArray × ByteArray × Int × Unit) (HM.loadN [.str, .str, .int .i64] ⟨x1, 0, none⟩) fun (x15 : ByteArray × ByteArray × Int × Unit) =>
  HM.pure ((x15.1, x15.2.1, x15.2.2.1, ()), false, ())) HM.pure)

theorem ref17_Get_den (p0 : Option Addr) (p1 : ByteArray) : denFn Tryd.prog [] 34 [0, 1, 4, 5, 6, 13, 25] [0, 1, 4, 6, 13, 25] Tryd.f18.results.toList [.agg [.str, .str, .int .i64], .one .bool] (bodyOf Tryd.f18) [Kind.val (.one .ptr) p0, Kind.val (.one .str) p1] = ref17_Get p0 p1 := by kernel_rfl
theorem ref17_Get_calls (p0 : Option Addr) (p1 : ByteArray) (h : Heap) (Q : Value → Heap → Prop) (hh : ref17_Get p0 p1 h fun x h' => Q (.tuple #[.agg #[.string x.1.1, .string x.1.2.1, .int .i64 x.1.2.2.1], .bool x.2.1]) h') :
    HCalls Tryd.prog 18 #[.pointer p0, .string p1] h Q := by
  rw [← ref17_Get_den] at hh
  exact calls_of_den Tryd.func18 (by kernel_rfl) Tryd.ntmps18 (by kernel_rfl) (fun f hf => by cases hf) orders hh

/-- (*aqueduct/retain.Store).Match -/
def retain_Store_Match (p0 : Option Addr) (p1 : ByteArray) : HM (Slc × Unit) :=
  HM.ite (Option.isNone p0) (
  HM.pure (⟨none, 0, 0⟩, ())) (
  HM.bind (α := Addr) (HM.nonnil p0) fun (x1 : Addr) =>
  HM.bind (α := Option Nat) (HM.load1 .map (Addr.add x1 1)) fun (x2 : Option Nat) =>
  HM.bind (α := Value) (HM.call1 Tryd.prog (.one .any) 42 #[.map x2]) fun (x3 : Value) =>
  HM.bind (α := Slc) (HM.call1 Tryd.prog (.one .slc) 41 #[x3]) fun (x4 : Slc) =>
  HM.bind (α := Slc × Int × Unit) (HM.loop (σ := Slc × Int × Unit) (τ := Slc × Int × Unit) (fun (x6 : Slc × Int × Unit) =>
  HM.ite (decide (x6.2.1 < (((x4.len : Nat) : Int) : Int))) (
  HM.bind (α := Addr) (HM.idx x4.a x4.len x6.2.1 1) fun (x7 : Addr) =>
  HM.bind (α := ByteArray) (HM.load1 .str x7) fun (x8 : ByteArray) =>
  HM.bind (α := Bool) (HM.call1 Tryd.prog (.one .bool) 21 #[.string p1, .string x8]) fun (x9 : Bool) =>
  HM.bind (α := Slc × Unit) (HM.ite x9 (
  HM.bind (α := Addr) (HM.nonnil p0) fun (x11 : Addr) =>
  HM.bind (α := Option Nat) (HM.load1 .map (Addr.add x11 1)) fun (x12 : Option Nat) =>
  HM.bind (α := (ByteArray × ByteArray × Int × Unit) × Bool) (HM.lookup (Instr.sameNow .string) (.agg #[.string (ByteArray.mk #[]), .string (ByteArray.mk #[]), .int .i64 0]) (.agg [.str, .str, .int .i64]) x12 (.string x8)) fun (x13 : (ByteArray × ByteArray × Int × Unit) × Bool) =>
  HM.bind (α := Nat) (HM.new (.cells #[.string x13.1.1, .string x13.1.2.1, .int .i64 x13.1.2.2.1] 33)) fun (x14 : Nat) =>
  HM.bind (α := Slc) (HM.append 33 3 40 #[.string (ByteArray.mk #[]), .string (ByteArray.mk #[]), .int .i64 0] x6.1 1 (srcSlc 3 (⟨some ⟨x14, 0, none⟩, 1, 1⟩))) fun (x15 : Slc) =>
  HM.pure (x15, ())) (
  HM.pure (x6.1, ()))) fun (x10 : Slc × Unit) =>
  HM.pure (.inl (x10.1, IntKind.wrap .i64 (x6.2.1 + 1), ()))) (
  HM.pure (.inr (x6.1, x6.2.1, ())))) (⟨none, 0, 0⟩, 0, ())) fun (x5 : Slc × Int × Unit) =>
  HM.pure (x5.1, ()))

theorem retain_Store_Match_den (p0 : Option Addr) (p1 : ByteArray) : denFn Tryd.prog [42, 41, 21] 35 [0, 1, 4, 5, 7, 9, 15, 16, 17, 18, 23] [0, 1, 5, 7, 9, 15, 16, 17, 18, 23] Tryd.f19.results.toList [.one .slc] (bodyOf Tryd.f19) [Kind.val (.one .ptr) p0, Kind.val (.one .str) p1] = retain_Store_Match p0 p1 := by kernel_rfl
theorem retain_Store_Match_calls (p0 : Option Addr) (p1 : ByteArray) (h : Heap) (Q : Value → Heap → Prop) (hh : retain_Store_Match p0 p1 h fun x h' => Q (.slice x.1.a x.1.len x.1.cap) h') :
    HCalls Tryd.prog 19 #[.pointer p0, .string p1] h Q := by
  rw [← retain_Store_Match_den] at hh
  exact calls_of_den Tryd.func19 (by kernel_rfl) Tryd.ntmps19 (by kernel_rfl) (fun f hf => by
      rcases List.mem_cons.1 hf with rfl | hf
      · exact Tryd.call42
      rcases List.mem_cons.1 hf with rfl | hf
      · exact Tryd.call41
      rcases List.mem_cons.1 hf with rfl | hf
      · exact Tryd.call21
      cases hf) orders hh

/-- aqueduct/aqueductref17.Match -/
def ref17_Match (p0 : Option Addr) (p1 : ByteArray) : HM (Slc × Unit) :=
  HM.bind (α := Slc × Int × Unit) (HM.loop (σ := Slc × Int × Unit) (τ := Slc × Int × Unit) (fun (x2 : Slc × Int × Unit) =>
  HM.bind (α := Addr) (HM.nonnil p0) fun (x3 : Addr) =>
  HM.bind (α := Slc) (HM.load1 .slc (Addr.add x3 1)) fun (x4 : Slc) =>
  HM.ite (decide (x2.2.1 < (((x4.len : Nat) : Int) : Int))) (
  HM.bind (α := Addr) (HM.nonnil p0) fun (x5 : Addr) =>
  HM.bind (α := Slc) (HM.load1 .slc (Addr.add x5 1)) fun (x6 : Slc) =>
  HM.bind (α := Addr) (HM.idx x6.a x6.len x2.2.1 3) fun (x7 : Addr) =>
  HM.bind (α := ByteArray) (HM.load1 .str (Addr.add x7 0)) fun (x8 : ByteArray) =>
  HM.bind (α := Bool) (HM.call1 Tryd.prog (.one .bool) 43 #[.string p1, .string x8]) fun (x9 : Bool) =>
  HM.bind (α := Slc × Unit) (HM.ite x9 (
  HM.bind (α := Addr) (HM.nonnil p0) fun (x11 : Addr) =>
  HM.bind (α := Slc) (HM.load1 .slc (Addr.add x11 1)) fun (x12 : Slc) =>
  HM.bind (α := Addr) (HM.idx x12.a x12.len x2.2.1 3) fun (x13 : Addr) =>
  HM.bind (α := ByteArray × ByteArray × Int × Unit) (HM.loadN [.str, .str, .int .i64] x13) fun (x14 : ByteArray × ByteArray × Int × Unit) =>
  HM.bind (α := Nat) (HM.new (.cells #[.string x14.1, .string x14.2.1, .int .i64 x14.2.2.1] 35)) fun (x15 : Nat) =>
  HM.bind (α := Slc) (HM.append 35 3 40 #[.string (ByteArray.mk #[]), .string (ByteArray.mk #[]), .int .i64 0] x2.1 1 (srcSlc 3 (⟨some ⟨x15, 0, none⟩, 1, 1⟩))) fun (x16 : Slc) =>
  HM.pure (x16, ())) (
  HM.pure (x2.1, ()))) fun (x10 : Slc × Unit) =>
  HM.pure (.inl (x10.1, IntKind.wrap .i64 (x2.2.1 + 1), ()))) (
  HM.pure (.inr (x2.1, x2.2.1, ())))) (⟨none, 0, 0⟩, 0, ())) fun (x1 : Slc × Int × Unit) =>
  HM.pure (x1.1, ())

theorem ref17_Match_den (p0 : Option Addr) (p1 : ByteArray) : denFn Tryd.prog [43] 39 [0, 1, 4, 5, 6, 7, 14, 27] [0, 1, 5, 6, 7, 14, 27] Tryd.f20.results.toList [.one .slc] (bodyOf Tryd.f20) [Kind.val (.one .ptr) p0, Kind.val (.one .str) p1] = ref17_Match p0 p1 := by kernel_rfl
theorem ref17_Match_calls (p0 : Option Addr) (p1 : ByteArray) (h : Heap) (Q : Value → Heap → Prop) (hh : ref17_Match p0 p1 h fun x h' => Q (.slice x.1.a x.1.len x.1.cap) h') :
    HCalls Tryd.prog 20 #[.pointer p0, .string p1] h Q := by
  rw [← ref17_Match_den] at hh
  exact calls_of_den Tryd.func20 (by kernel_rfl) Tryd.ntmps20 (by kernel_rfl) (fun f hf => by
      rcases List.mem_cons.1 hf with rfl | hf
      · exact Tryd.call43
      cases hf) orders hh

/-- aqueduct/topic.Match -/
def topic_Match (p0 : ByteArray) (p1 : ByteArray) : HM (Bool × Unit) :=
  HM.bind (α := Bool × Unit) (HM.bind (α := Int) (HM.call1 Tryd.prog (.one (.int .u8)) 44 #[.string p0]) fun (x1 : Int) =>
  HM.ite (!(x1 == 0)) (
  HM.pure (true, ())) (
  HM.bind (α := Int) (HM.call1 Tryd.prog (.one (.int .u8)) 38 #[.string p1]) fun (x2 : Int) =>
  HM.pure (!(x2 == 0), ()))) fun (x3 : Bool × Unit) =>
  HM.ite x3.1 (
  HM.pure (false, ())) (
  HM.bind (α := Bool × Unit) (HM.bind (α := Int) (HM.strIdx p1 0) fun (x4 : Int) =>
  HM.ite (x4 == 36) (
  HM.bind (α := ByteArray) (HM.substr p0 none (some 1)) fun (x5 : ByteArray) =>
  HM.ite (decide (x5 = (ByteArray.mk #[43]))) (
  HM.pure (true, ())) (
  HM.bind (α := ByteArray) (HM.substr p0 none (some 1)) fun (x6 : ByteArray) =>
  HM.pure (decide (x6 = (ByteArray.mk #[35])), ()))) (
  HM.pure (false, ()))) fun (x7 : Bool × Unit) =>
  HM.ite x7.1 (
  HM.pure (false, ())) (
  HM.bind (α := Slc) (HM.call1 Tryd.prog (.one .slc) 45 #[.string p0]) fun (x8 : Slc) =>
  HM.bind (α := Slc) (HM.call1 Tryd.prog (.one .slc) 45 #[.string p1]) fun (x9 : Slc) =>
  HM.bind (α := Addr) (HM.idx x8.a x8.len (IntKind.wrap .i64 (((x8.len : Nat) : Int) - 1)) 1) fun (x10 : Addr) =>
  HM.bind (α := ByteArray) (HM.load1 .str x10) fun (x11 : ByteArray) =>
  HM.bind (α := Slc × Unit) (HM.ite (decide (x11 = (ByteArray.mk #[35]))) (
  HM.bind (α := Slc) (HM.slice x8 none (some (IntKind.wrap .i64 (((x8.len : Nat) : Int) - 1))) none 1) fun (x13 : Slc) =>
  HM.pure (x13, ())) (
  HM.pure (x8, ()))) fun (x12 : Slc × Unit) =>
  HM.bind (α := Bool × Unit) (HM.ite (decide (((x9.len : Nat) : Int) < (((x12.1.len : Nat) : Int) : Int))) (
  HM.pure (true, ())) (
  HM.ite (!(decide (x11 = (ByteArray.mk #[35])))) (
  HM.pure (decide (((x12.1.len : Nat) : Int) < (((x9.len : Nat) : Int) : Int)), ())) (
  HM.pure (false, ())))) fun (x14 : Bool × Unit) =>
  HM.ite x14.1 (
  HM.pure (false, ())) (
  HM.bind (α := Slc) (HM.slice x9 none (some ((x12.1.len : Nat) : Int)) none 1) fun (x15 : Slc) =>
  HM.bind (α := Bool) (HM.call1 Tryd.prog (.one .bool) 46 #[.slice x12.1.a x12.1.len x12.1.cap, .slice x15.a x15.len x15.cap, .func (.func 47) #[] #[]]) fun (x16 : Bool) =>
  HM.pure (x16, ()))))

theorem topic_Match_den (p0 : ByteArray) (p1 : ByteArray) : denFn Tryd.prog [44, 38, 45, 46] 68 [0, 1, 4, 5, 6, 7, 15, 28, 40, 61] [0, 1, 5, 6, 7, 15, 28, 40, 61] Tryd.f21.results.toList [.one .bool] (bodyOf Tryd.f21) [Kind.val (.one .str) p0, Kind.val (.one .str) p1] = topic_Match p0 p1 := by kernel_rfl
theorem topic_Match_calls (p0 : ByteArray) (p1 : ByteArray) (h : Heap) (Q : Value → Heap → Prop) (hh : topic_Match p0 p1 h fun x h' => Q (.bool x.1) h') :
    HCalls Tryd.prog 21 #[.string p0, .string p1] h Q := by
  rw [← topic_Match_den] at hh
  exact calls_of_den Tryd.func21 (by kernel_rfl) Tryd.ntmps21 (by kernel_rfl) (fun f hf => by
      rcases List.mem_cons.1 hf with rfl | hf
      · exact Tryd.call44
      rcases List.mem_cons.1 hf with rfl | hf
      · exact Tryd.call38
      rcases List.mem_cons.1 hf with rfl | hf
      · exact Tryd.call45
      rcases List.mem_cons.1 hf with rfl | hf
      · exact Tryd.call46
      cases hf) orders hh

/-- aqueduct/topic.CheckName -/
def topic_CheckName (p0 : ByteArray) : HM (Int × Unit) :=
  HM.bind (α := Bool × Unit) (HM.bind (α := Bool) (HM.call1 Tryd.prog (.one .bool) 69 #[.string p0]) fun (x1 : Bool) =>
  HM.ite (!x1) (
  HM.pure (true, ())) (
  HM.bind (α := Bool) (HM.call1 Tryd.prog (.one .bool) 70 #[.string p0, .string (ByteArray.mk #[43])]) fun (x2 : Bool) =>
  HM.ite x2 (
  HM.pure (true, ())) (
  HM.bind (α := Bool) (HM.call1 Tryd.prog (.one .bool) 70 #[.string p0, .string (ByteArray.mk #[35])]) fun (x3 : Bool) =>
  HM.pure (x3, ())))) fun (x4 : Bool × Unit) =>
  HM.ite x4.1 (
  HM.pure (144, ())) (
  HM.pure (0, ()))

theorem topic_CheckName_den (p0 : ByteArray) : denFn Tryd.prog [69, 70] 14 [0, 2, 13] [0, 13] Tryd.f38.results.toList [.one (.int .u8)] (bodyOf Tryd.f38) [Kind.val (.one .str) p0] = topic_CheckName p0 := by kernel_rfl
theorem topic_CheckName_calls (p0 : ByteArray) (h : Heap) (Q : Value → Heap → Prop) (hh : topic_CheckName p0 h fun x h' => Q (.int .u8 x.1) h') :
    HCalls Tryd.prog 38 #[.string p0] h Q := by
  rw [← topic_CheckName_den] at hh
  exact calls_of_den Tryd.func38 (by kernel_rfl) Tryd.ntmps38 (by kernel_rfl) (fun f hf => by
      rcases List.mem_cons.1 hf with rfl | hf
      · exact Tryd.call69
      rcases List.mem_cons.1 hf with rfl | hf
      · exact Tryd.call70
      cases hf) orders hh

/-- aqueduct/aqueductref07.CheckName -/
def ref07_CheckName (p0 : ByteArray) : HM (Int × Unit) :=
  HM.bind (α := Bool) (HM.call1 Tryd.prog (.one .bool) 71 #[.string p0]) fun (x1 : Bool) =>
  HM.bind (α := Bool) (HM.call1 Tryd.prog (.one .bool) 72 #[.string p0, .int .u8 43]) fun (x2 : Bool) =>
  HM.bind (α := Bool) (HM.call1 Tryd.prog (.one .bool) 72 #[.string p0, .int .u8 35]) fun (x3 : Bool) =>
  HM.bind (α := Bool × Unit) (HM.ite (!x1) (
  HM.pure (true, ())) (
  HM.ite x2 (
  HM.pure (true, ())) (
  HM.pure (x3, ())))) fun (x4 : Bool × Unit) =>
  HM.ite x4.1 (
  HM.pure (144, ())) (
  HM.pure (0, ()))

theorem ref07_CheckName_den (p0 : ByteArray) : denFn Tryd.prog [71, 72] 20 [0, 2, 3, 4, 5, 19] [0, 3, 4, 5, 19] Tryd.f39.results.toList [.one (.int .i64)] (bodyOf Tryd.f39) [Kind.val (.one .str) p0] = ref07_CheckName p0 := by kernel_rfl
theorem ref07_CheckName_calls (p0 : ByteArray) (h : Heap) (Q : Value → Heap → Prop) (hh : ref07_CheckName p0 h fun x h' => Q (.int .i64 x.1) h') :
    HCalls Tryd.prog 39 #[.string p0] h Q := by
  rw [← ref07_CheckName_den] at hh
  exact calls_of_den Tryd.func39 (by kernel_rfl) Tryd.ntmps39 (by kernel_rfl) (fun f hf => by
      rcases List.mem_cons.1 hf with rfl | hf
      · exact Tryd.call71
      rcases List.mem_cons.1 hf with rfl | hf
      · exact Tryd.call72
      cases hf) orders hh

/-- aqueduct/aqueductref17.without -/
def ref17_without (p0 : Slc) (p1 : ByteArray) : HM (Slc × Unit) :=
  HM.bind (α := Slc × Int × Unit) (HM.loop (σ := Slc × Int × Unit) (τ := Slc × Int × Unit) (fun (x2 : Slc × Int × Unit) =>
  HM.ite (decide (x2.2.1 < (((p0.len : Nat) : Int) : Int))) (
  HM.bind (α := Addr) (HM.idx p0.a p0.len x2.2.1 3) fun (x3 : Addr) =>
  HM.bind (α := ByteArray) (HM.load1 .str (Addr.add x3 0)) fun (x4 : ByteArray) =>
  HM.bind (α := Slc × Unit) (HM.ite (!(decide (x4 = p1))) (
  HM.bind (α := Addr) (HM.idx p0.a p0.len x2.2.1 3) fun (x6 : Addr) =>
  HM.bind (α := ByteArray × ByteArray × Int × Unit) (HM.loadN [.str, .str, .int .i64] x6) fun (x7 : ByteArray × ByteArray × Int × Unit) =>
  HM.bind (α := Nat) (HM.new (.cells #[.string x7.1, .string x7.2.1, .int .i64 x7.2.2.1] 35)) fun (x8 : Nat) =>
  HM.bind (α := Slc) (HM.append 35 3 40 #[.string (ByteArray.mk #[]), .string (ByteArray.mk #[]), .int .i64 0] x2.1 1 (srcSlc 3 (⟨some ⟨x8, 0, none⟩, 1, 1⟩))) fun (x9 : Slc) =>
  HM.pure (x9, ())) (
  HM.pure (x2.1, ()))) fun (x5 : Slc × Unit) =>
  HM.pure (.inl (x5.1, IntKind.wrap .i64 (x2.2.1 + 1), ()))) (
  HM.pure (.inr (x2.1, x2.2.1, ())))) (⟨none, 0, 0⟩, 0, ())) fun (x1 : Slc × Int × Unit) =>
  HM.pure (x1.1, ())

theorem ref17_without_den (p0 : Slc) (p1 : ByteArray) : denFn Tryd.prog [] 28 [0, 1, 4, 5, 6, 10, 19] [0, 1, 5, 6, 10, 19] Tryd.f40.results.toList [.one .slc] (bodyOf Tryd.f40) [Kind.val (.one .slc) p0, Kind.val (.one .str) p1] = ref17_without p0 p1 := by kernel_rfl
theorem ref17_without_calls (p0 : Slc) (p1 : ByteArray) (h : Heap) (Q : Value → Heap → Prop) (hh : ref17_without p0 p1 h fun x h' => Q (.slice x.1.a x.1.len x.1.cap) h') :
    HCalls Tryd.prog 40 #[.slice p0.a p0.len p0.cap, .string p1] h Q := by
  rw [← ref17_without_den] at hh
  exact calls_of_den Tryd.func40 (by kernel_rfl) Tryd.ntmps40 (by kernel_rfl) (fun f hf => by cases hf) orders hh

/-- aqueduct/aqueductref07.Match -/
def ref07_Match (p0 : ByteArray) (p1 : ByteArray) : HM (Bool × Unit) :=
  HM.bind (α := Int) (HM.call1 Tryd.prog (.one (.int .i64)) 76 #[.string p0]) fun (x1 : Int) =>
  HM.bind (α := Int) (HM.call1 Tryd.prog (.one (.int .i64)) 39 #[.string p1]) fun (x2 : Int) =>
  HM.bind (α := Bool × Unit) (HM.ite (!(x1 == 0)) (
  HM.pure (true, ())) (
  HM.pure (!(x2 == 0), ()))) fun (x3 : Bool × Unit) =>
  HM.ite x3.1 (
  HM.pure (false, ())) (
  HM.bind (α := Bool × Unit) (HM.bind (α := Int) (HM.strIdx p1 0) fun (x4 : Int) =>
  HM.ite (x4 == 36) (
  HM.bind (α := Int) (HM.strIdx p0 0) fun (x5 : Int) =>
  HM.ite (x5 == 43) (
  HM.pure (true, ())) (
  HM.bind (α := Int) (HM.strIdx p0 0) fun (x6 : Int) =>
  HM.pure (x6 == 35, ()))) (
  HM.pure (false, ()))) fun (x7 : Bool × Unit) =>
  HM.ite x7.1 (
  HM.pure (false, ())) (
  HM.bind (α := Slc) (HM.call1 Tryd.prog (.one .slc) 77 #[.string p0]) fun (x8 : Slc) =>
  HM.bind (α := Slc) (HM.call1 Tryd.prog (.one .slc) 77 #[.string p1]) fun (x9 : Slc) =>
  HM.bind (α := (Int × Unit) ⊕ (Bool × Unit)) (HM.loop (σ := Int × Unit) (τ := (Int × Unit) ⊕ (Bool × Unit)) (fun (x11 : Int × Unit) =>
  HM.ite (decide (x11.1 < (((x8.len : Nat) : Int) : Int))) (
  HM.bind (α := Addr) (HM.idx x8.a x8.len x11.1 1) fun (x12 : Addr) =>
  HM.bind (α := ByteArray) (HM.load1 .str x12) fun (x13 : ByteArray) =>
  HM.ite (decide (x13 = (ByteArray.mk #[35]))) (
  HM.pure (.inr (.inr (true, ())))) (
  HM.ite (decide (((x9.len : Nat) : Int) ≤ (x11.1 : Int))) (
  HM.pure (.inr (.inr (false, ())))) (
  HM.bind (α := Bool × Unit) (HM.bind (α := Addr) (HM.idx x8.a x8.len x11.1 1) fun (x14 : Addr) =>
  HM.bind (α := ByteArray) (HM.load1 .str x14) fun (x15 : ByteArray) =>
  HM.ite (!(decide (x15 = (ByteArray.mk #[43])))) (
  HM.bind (α := Addr) (HM.idx x8.a x8.len x11.1 1) fun (x16 : Addr) =>
  HM.bind (α := ByteArray) (HM.load1 .str x16) fun (x17 : ByteArray) =>
  HM.bind (α := Addr) (HM.idx x9.a x9.len x11.1 1) fun (x18 : Addr) =>
  HM.bind (α := ByteArray) (HM.load1 .str x18) fun (x19 : ByteArray) =>
  HM.pure (!(decide (x17 = x19)), ())) (
  HM.pure (false, ()))) fun (x20 : Bool × Unit) =>
  HM.ite x20.1 (
  HM.pure (.inr (.inr (false, ())))) (
  HM.pure (.inl (IntKind.wrap .i64 (x11.1 + 1), ())))))) (
  HM.pure (.inr (.inl (x11.1, ()))))) (0, ())) (Sum.elim (fun (x10 : Int × Unit) =>
  HM.pure (((x8.len : Nat) : Int) == ((x9.len : Nat) : Int), ())) HM.pure)))

theorem ref07_Match_den (p0 : ByteArray) (p1 : ByteArray) : denFn Tryd.prog [76, 39, 77] 73 [0, 1, 4, 5, 6, 7, 8, 9, 19, 32, 40, 47, 51, 67] [0, 1, 5, 6, 7, 8, 9, 19, 32, 40, 47, 51, 67] Tryd.f43.results.toList [.one .bool] (bodyOf Tryd.f43) [Kind.val (.one .str) p0, Kind.val (.one .str) p1] = ref07_Match p0 p1 := by kernel_rfl
theorem ref07_Match_calls (p0 : ByteArray) (p1 : ByteArray) (h : Heap) (Q : Value → Heap → Prop) (hh : ref07_Match p0 p1 h fun x h' => Q (.bool x.1) h') :
    HCalls Tryd.prog 43 #[.string p0, .string p1] h Q := by
  rw [← ref07_Match_den] at hh
  exact calls_of_den Tryd.func43 (by kernel_rfl) Tryd.ntmps43 (by kernel_rfl) (fun f hf => by
      rcases List.mem_cons.1 hf with rfl | hf
      · exact Tryd.call76
      rcases List.mem_cons.1 hf with rfl | hf
      · exact Tryd.call39
      rcases List.mem_cons.1 hf with rfl | hf
      · exact Tryd.call77
      cases hf) orders hh

/-- aqueduct/topic.CheckFilter -/
def topic_CheckFilter (p0 : ByteArray) : HM (Int × Unit) :=
  HM.bind (α := Bool) (HM.call1 Tryd.prog (.one .bool) 69 #[.string p0]) fun (x1 : Bool) =>
  HM.ite (!x1) (
  HM.pure (143, ())) (
  HM.bind (α := Slc) (HM.call1 Tryd.prog (.one .slc) 45 #[.string p0]) fun (x2 : Slc) =>
  HM.bind (α := (Int × Unit) ⊕ (Int × Unit)) (HM.loop (σ := Int × Unit) (τ := (Int × Unit) ⊕ (Int × Unit)) (fun (x4 : Int × Unit) =>
  HM.ite (decide (x4.1 < (((x2.len : Nat) : Int) : Int))) (
  HM.bind (α := Addr) (HM.idx x2.a x2.len x4.1 1) fun (x5 : Addr) =>
  HM.bind (α := ByteArray) (HM.load1 .str x5) fun (x6 : ByteArray) =>
  HM.bind (α := (Unit) ⊕ ((Int × Unit) ⊕ ((Int × Unit) ⊕ (Int × Unit)))) (HM.bind (α := (Unit) ⊕ ((Unit) ⊕ ((Int × Unit) ⊕ ((Int × Unit) ⊕ (Int × Unit))))) (HM.bind (α := (Unit) ⊕ ((Unit) ⊕ ((Unit) ⊕ ((Int × Unit) ⊕ ((Int × Unit) ⊕ (Int × Unit)))))) (HM.bind (α := Bool) (HM.call1 Tryd.prog (.one .bool) 70 #[.string x6, .string (ByteArray.mk #[35])]) fun (x10 : Bool) =>
  HM.ite x10 (
  HM.pure (.inl ())) (
  HM.bind (α := Bool) (HM.call1 Tryd.prog (.one .bool) 70 #[.string x6, .string (ByteArray.mk #[43])]) fun (x11 : Bool) =>
  HM.ite x11 (
  HM.pure (.inr (.inl ()))) (
  HM.pure (.inr (.inr (.inl ())))))) (Sum.elim (fun (x9 : Unit) =>
  HM.ite (decide (x4.1 < ((IntKind.wrap .i64 (((x2.len : Nat) : Int) - 1)) : Int))) (
  HM.pure (.inr (.inr (.inr (.inr (143, ())))))) (
  HM.pure (.inl ()))) HM.pure)) (Sum.elim (fun (x8 : Unit) =>
  HM.ite (decide (1 < (((ByteArray.size x6 : Nat) : Int) : Int))) (
  HM.pure (.inr (.inr (.inr (143, ()))))) (
  HM.pure (.inl ()))) HM.pure)) (Sum.elim (fun (x7 : Unit) =>
  HM.pure (.inl (IntKind.wrap .i64 (x4.1 + 1), ()))) HM.pure)) (
  HM.pure (.inr (.inl (x4.1, ()))))) (0, ())) (Sum.elim (fun (x3 : Int × Unit) =>
  HM.pure (0, ())) HM.pure))

theorem topic_CheckFilter_den (p0 : ByteArray) : denFn Tryd.prog [69, 45, 70] 33 [0, 2, 3, 4, 5, 8, 11, 12, 13, 14, 18, 21, 28, 31] [0, 3, 4, 5, 8, 11, 12, 13, 14, 18, 21, 28, 31] Tryd.f44.results.toList [.one (.int .u8)] (bodyOf Tryd.f44) [Kind.val (.one .str) p0] = topic_CheckFilter p0 := by kernel_rfl
theorem topic_CheckFilter_calls (p0 : ByteArray) (h : Heap) (Q : Value → Heap → Prop) (hh : topic_CheckFilter p0 h fun x h' => Q (.int .u8 x.1) h') :
    HCalls Tryd.prog 44 #[.string p0] h Q := by
  rw [← topic_CheckFilter_den] at hh
  exact calls_of_den Tryd.func44 (by kernel_rfl) Tryd.ntmps44 (by kernel_rfl) (fun f hf => by
      rcases List.mem_cons.1 hf with rfl | hf
      · exact Tryd.call69
      rcases List.mem_cons.1 hf with rfl | hf
      · exact Tryd.call45
      rcases List.mem_cons.1 hf with rfl | hf
      · exact Tryd.call70
      cases hf) orders hh

/-- aqueduct/topic.Levels -/
def topic_Levels (p0 : ByteArray) : HM (Slc × Unit) :=
  HM.bind (α := Slc) (HM.call1 Tryd.prog (.one .slc) 78 #[.string p0, .string (ByteArray.mk #[47])]) fun (x1 : Slc) =>
  HM.pure (x1, ())

theorem topic_Levels_den (p0 : ByteArray) : denFn Tryd.prog [78] 5 [0, 2] [0] Tryd.f45.results.toList [.one .slc] (bodyOf Tryd.f45) [Kind.val (.one .str) p0] = topic_Levels p0 := by kernel_rfl
theorem topic_Levels_calls (p0 : ByteArray) (h : Heap) (Q : Value → Heap → Prop) (hh : topic_Levels p0 h fun x h' => Q (.slice x.1.a x.1.len x.1.cap) h') :
    HCalls Tryd.prog 45 #[.string p0] h Q := by
  rw [← topic_Levels_den] at hh
  exact calls_of_den Tryd.func45 (by kernel_rfl) Tryd.ntmps45 (by kernel_rfl) (fun f hf => by
      rcases List.mem_cons.1 hf with rfl | hf
      · exact Tryd.call78
      cases hf) orders hh

/-- slices.EqualFunc[[]string,[]string,string,string] -/
def slices_EqualFunc (p0 : Slc) (p1 : Slc) (p2 : Value) : HM (Bool × Unit) :=
  HM.ite (!(((p0.len : Nat) : Int) == ((p1.len : Nat) : Int))) (
  HM.pure (false, ())) (
  HM.bind (α := (Int × Unit) ⊕ (Bool × Unit)) (HM.loop (σ := Int × Unit) (τ := (Int × Unit) ⊕ (Bool × Unit)) (fun (x2 : Int × Unit) =>
  HM.ite (decide (x2.1 < (((p0.len : Nat) : Int) : Int))) (
  HM.bind (α := Addr) (HM.idx p0.a p0.len x2.1 1) fun (x3 : Addr) =>
  HM.bind (α := ByteArray) (HM.load1 .str x3) fun (x4 : ByteArray) =>
  HM.bind (α := Addr) (HM.idx p1.a p1.len x2.1 1) fun (x5 : Addr) =>
  HM.bind (α := ByteArray) (HM.load1 .str x5) fun (x6 : ByteArray) =>
  HM.bind (α := Bool) (HM.callV1 Tryd.prog (.one .bool) p2 #[.string x4, .string x6]) fun (x7 : Bool) =>
  HM.ite (!x7) (
  HM.pure (.inr (.inr (false, ())))) (
  HM.pure (.inl (IntKind.wrap .i64 (x2.1 + 1), ())))) (
  HM.pure (.inr (.inl (x2.1, ()))))) (0, ())) (Sum.elim (fun (x1 : Int × Unit) =>
  HM.pure (true, ())) HM.pure))

theorem slices_EqualFunc_den (p0 : Slc) (p1 : Slc) (p2 : Value) : denFn Tryd.prog [] 32 [0, 1, 2, 6, 7, 8, 9, 14, 15, 16, 17, 18, 30] [0, 1, 2, 7, 8, 9, 14, 15, 16, 17, 18, 30] Tryd.f46.results.toList [.one .bool] (bodyOf Tryd.f46) [Kind.val (.one .slc) p0, Kind.val (.one .slc) p1, Kind.val (.one .any) p2] = slices_EqualFunc p0 p1 p2 := by kernel_rfl
theorem slices_EqualFunc_calls (p0 : Slc) (p1 : Slc) (p2 : Value) (h : Heap) (Q : Value → Heap → Prop) (hh : slices_EqualFunc p0 p1 p2 h fun x h' => Q (.bool x.1) h') :
    HCalls Tryd.prog 46 #[.slice p0.a p0.len p0.cap, .slice p1.a p1.len p1.cap, p2] h Q := by
  rw [← slices_EqualFunc_den] at hh
  exact calls_of_den Tryd.func46 (by kernel_rfl) Tryd.ntmps46 (by kernel_rfl) (fun f hf => by cases hf) orders hh

/-- aqueduct/topic.Match$1 -/
def topic_Match_f1 (p0 : ByteArray) (p1 : ByteArray) : HM (Bool × Unit) :=
  HM.bind (α := Bool × Unit) (HM.ite (decide (p0 = (ByteArray.mk #[43]))) (
  HM.pure (true, ())) (
  HM.pure (decide (p0 = p1), ()))) fun (x1 : Bool × Unit) =>
  HM.pure (x1.1, ())

theorem topic_Match_f1_den (p0 : ByteArray) (p1 : ByteArray) : denFn Tryd.prog [] 12 [0, 1, 4] [0, 1] Tryd.f47.results.toList [.one .bool] (bodyOf Tryd.f47) [Kind.val (.one .str) p0, Kind.val (.one .str) p1] = topic_Match_f1 p0 p1 := by kernel_rfl
theorem topic_Match_f1_calls (p0 : ByteArray) (p1 : ByteArray) (h : Heap) (Q : Value → Heap → Prop) (hh : topic_Match_f1 p0 p1 h fun x h' => Q (.bool x.1) h') :
    HCalls Tryd.prog 47 #[.string p0, .string p1] h Q := by
  rw [← topic_Match_f1_den] at hh
  exact calls_of_den Tryd.func47 (by kernel_rfl) Tryd.ntmps47 (by kernel_rfl) (fun f hf => by cases hf) orders hh

/-- aqueduct/topic.sized -/
def topic_sized (p0 : ByteArray) : HM (Bool × Unit) :=
  HM.bind (α := Int × Bool × Unit) (HM.callN Tryd.prog [.one (.int .i64), .one .bool] 103 #[.string p0]) fun (x1 : Int × Bool × Unit) =>
  HM.bind (α := Bool × Unit) (HM.ite (!x1.2.1) (
  HM.ite (!(decide (p0 = (ByteArray.mk #[])))) (
  HM.ite (decide (((ByteArray.size p0 : Nat) : Int) ≤ (256 : Int))) (
  HM.bind (α := Int) (HM.call1 Tryd.prog (.one (.int .i64)) 104 #[.string p0, .string (ByteArray.mk #[47])]) fun (x2 : Int) =>
  HM.pure (decide (x2 < (32 : Int)), ())) (
  HM.pure (false, ()))) (
  HM.pure (false, ()))) (
  HM.pure (false, ()))) fun (x3 : Bool × Unit) =>
  HM.pure (x3.1, ())

theorem topic_sized_den (p0 : ByteArray) : denFn Tryd.prog [103, 104] 26 [0, 2, 4] [0, 4] Tryd.f69.results.toList [.one .bool] (bodyOf Tryd.f69) [Kind.val (.one .str) p0] = topic_sized p0 := by kernel_rfl
theorem topic_sized_calls (p0 : ByteArray) (h : Heap) (Q : Value → Heap → Prop) (hh : topic_sized p0 h fun x h' => Q (.bool x.1) h') :
    HCalls Tryd.prog 69 #[.string p0] h Q := by
  rw [← topic_sized_den] at hh
  exact calls_of_den Tryd.func69 (by kernel_rfl) Tryd.ntmps69 (by kernel_rfl) (fun f hf => by
      rcases List.mem_cons.1 hf with rfl | hf
      · exact Tryd.call103
      rcases List.mem_cons.1 hf with rfl | hf
      · exact Tryd.call104
      cases hf) orders hh

/-- aqueduct/aqueductref07.sized -/
def ref07_sized (p0 : ByteArray) : HM (Bool × Unit) :=
  HM.bind (α := Int × Bool × Unit) (HM.callN Tryd.prog [.one (.int .i64), .one .bool] 106 #[.string p0]) fun (x1 : Int × Bool × Unit) =>
  HM.bind (α := Bool × Unit) (HM.ite x1.2.1 (
  HM.pure (true, ())) (
  HM.ite (((ByteArray.size p0 : Nat) : Int) == 0) (
  HM.pure (true, ())) (
  HM.pure (decide (256 < (((ByteArray.size p0 : Nat) : Int) : Int)), ())))) fun (x2 : Bool × Unit) =>
  HM.ite x2.1 (
  HM.pure (false, ())) (
  HM.bind (α := Slc) (HM.call1 Tryd.prog (.one .slc) 77 #[.string p0]) fun (x3 : Slc) =>
  HM.pure (decide (((x3.len : Nat) : Int) ≤ (32 : Int)), ()))

theorem ref07_sized_den (p0 : ByteArray) : denFn Tryd.prog [106, 77] 27 [0, 2, 4, 5, 21] [0, 4, 5, 21] Tryd.f71.results.toList [.one .bool] (bodyOf Tryd.f71) [Kind.val (.one .str) p0] = ref07_sized p0 := by kernel_rfl
theorem ref07_sized_calls (p0 : ByteArray) (h : Heap) (Q : Value → Heap → Prop) (hh : ref07_sized p0 h fun x h' => Q (.bool x.1) h') :
    HCalls Tryd.prog 71 #[.string p0] h Q := by
  rw [← ref07_sized_den] at hh
  exact calls_of_den Tryd.func71 (by kernel_rfl) Tryd.ntmps71 (by kernel_rfl) (fun f hf => by
      rcases List.mem_cons.1 hf with rfl | hf
      · exact Tryd.call106
      rcases List.mem_cons.1 hf with rfl | hf
      · exact Tryd.call77
      cases hf) orders hh

/-- aqueduct/aqueductref07.has -/
def ref07_has (p0 : ByteArray) (p1 : Int) : HM (Bool × Unit) :=
  HM.bind (α := (Int × Unit) ⊕ (Bool × Unit)) (HM.loop (σ := Int × Unit) (τ := (Int × Unit) ⊕ (Bool × Unit)) (fun (x2 : Int × Unit) =>
  HM.ite (decide (x2.1 < (((ByteArray.size p0 : Nat) : Int) : Int))) (
  HM.bind (α := Int) (HM.strIdx p0 x2.1) fun (x3 : Int) =>
  HM.ite (x3 == p1) (
  HM.pure (.inr (.inr (true, ())))) (
  HM.pure (.inl (IntKind.wrap .i64 (x2.1 + 1), ())))) (
  HM.pure (.inr (.inl (x2.1, ()))))) (0, ())) (Sum.elim (fun (x1 : Int × Unit) =>
  HM.pure (false, ())) HM.pure)

theorem ref07_has_den (p0 : ByteArray) (p1 : Int) : denFn Tryd.prog [] 17 [0, 1, 4, 5, 9, 16] [0, 1, 5, 9, 16] Tryd.f72.results.toList [.one .bool] (bodyOf Tryd.f72) [Kind.val (.one .str) p0, Kind.val (.one (.int .u8)) p1] = ref07_has p0 p1 := by kernel_rfl
theorem ref07_has_calls (p0 : ByteArray) (p1 : Int) (h : Heap) (Q : Value → Heap → Prop) (hh : ref07_has p0 p1 h fun x h' => Q (.bool x.1) h') :
    HCalls Tryd.prog 72 #[.string p0, .int .u8 p1] h Q := by
  rw [← ref07_has_den] at hh
  exact calls_of_den Tryd.func72 (by kernel_rfl) Tryd.ntmps72 (by kernel_rfl) (fun f hf => by cases hf) orders hh

/-- aqueduct/aqueductref07.CheckFilter -/
def ref07_CheckFilter (p0 : ByteArray) : HM (Int × Unit) :=
  HM.bind (α := Bool) (HM.call1 Tryd.prog (.one .bool) 71 #[.string p0]) fun (x1 : Bool) =>
  HM.ite (!x1) (
  HM.pure (143, ())) (
  HM.bind (α := Slc) (HM.call1 Tryd.prog (.one .slc) 77 #[.string p0]) fun (x2 : Slc) =>
  HM.bind (α := (Int × Unit) ⊕ (Int × Unit)) (HM.loop (σ := Int × Unit) (τ := (Int × Unit) ⊕ (Int × Unit)) (fun (x4 : Int × Unit) =>
  HM.ite (decide (x4.1 < (((x2.len : Nat) : Int) : Int))) (
  HM.bind (α := Addr) (HM.idx x2.a x2.len x4.1 1) fun (x5 : Addr) =>
  HM.bind (α := ByteArray) (HM.load1 .str x5) fun (x6 : ByteArray) =>
  HM.bind (α := Bool) (HM.call1 Tryd.prog (.one .bool) 72 #[.string x6, .int .u8 43]) fun (x7 : Bool) =>
  HM.bind (α := Addr) (HM.idx x2.a x2.len x4.1 1) fun (x8 : Addr) =>
  HM.bind (α := ByteArray) (HM.load1 .str x8) fun (x9 : ByteArray) =>
  HM.bind (α := Bool) (HM.call1 Tryd.prog (.one .bool) 72 #[.string x9, .int .u8 35]) fun (x10 : Bool) =>
  HM.bind (α := Bool × Unit) (HM.ite x7 (
  HM.bind (α := Addr) (HM.idx x2.a x2.len x4.1 1) fun (x11 : Addr) =>
  HM.bind (α := ByteArray) (HM.load1 .str x11) fun (x12 : ByteArray) =>
  HM.pure (!(decide (x12 = (ByteArray.mk #[43]))), ())) (
  HM.pure (false, ()))) fun (x13 : Bool × Unit) =>
  HM.ite x13.1 (
  HM.pure (.inr (.inr (143, ())))) (
  HM.bind (α := Bool × Unit) (HM.ite x10 (
  HM.bind (α := Addr) (HM.idx x2.a x2.len x4.1 1) fun (x14 : Addr) =>
  HM.bind (α := ByteArray) (HM.load1 .str x14) fun (x15 : ByteArray) =>
  HM.ite (!(decide (x15 = (ByteArray.mk #[35])))) (
  HM.pure (true, ())) (
  HM.pure (decide (x4.1 < ((IntKind.wrap .i64 (((x2.len : Nat) : Int) - 1)) : Int)), ()))) (
  HM.pure (false, ()))) fun (x16 : Bool × Unit) =>
  HM.ite x16.1 (
  HM.pure (.inr (.inr (143, ())))) (
  HM.pure (.inl (IntKind.wrap .i64 (x4.1 + 1), ()))))) (
  HM.pure (.inr (.inl (x4.1, ()))))) (0, ())) (Sum.elim (fun (x3 : Int × Unit) =>
  HM.pure (0, ())) HM.pure))

theorem ref07_CheckFilter_den (p0 : ByteArray) : denFn Tryd.prog [71, 77, 72] 53 [0, 2, 3, 4, 5, 6, 7, 11, 17, 37, 52] [0, 3, 4, 5, 6, 7, 11, 17, 37, 52] Tryd.f76.results.toList [.one (.int .i64)] (bodyOf Tryd.f76) [Kind.val (.one .str) p0] = ref07_CheckFilter p0 := by kernel_rfl
theorem ref07_CheckFilter_calls (p0 : ByteArray) (h : Heap) (Q : Value → Heap → Prop) (hh : ref07_CheckFilter p0 h fun x h' => Q (.int .i64 x.1) h') :
    HCalls Tryd.prog 76 #[.string p0] h Q := by
  rw [← ref07_CheckFilter_den] at hh
  exact calls_of_den Tryd.func76 (by kernel_rfl) Tryd.ntmps76 (by kernel_rfl) (fun f hf => by
      rcases List.mem_cons.1 hf with rfl | hf
      · exact Tryd.call71
      rcases List.mem_cons.1 hf with rfl | hf
      · exact Tryd.call77
      rcases List.mem_cons.1 hf with rfl | hf
      · exact Tryd.call72
      cases hf) orders hh

/-- aqueduct/aqueductref07.Levels -/
def ref07_Levels (p0 : ByteArray) : HM (Slc × Unit) :=
  HM.bind (α := Slc × ByteArray × Int × Unit) (HM.loop (σ := Slc × ByteArray × Int × Unit) (τ := Slc × ByteArray × Int × Unit) (fun (x2 : Slc × ByteArray × Int × Unit) =>
  HM.ite (decide (x2.2.2.1 < (((ByteArray.size p0 : Nat) : Int) : Int))) (
  HM.bind (α := Slc × ByteArray × Unit) (HM.bind (α := Int) (HM.strIdx p0 x2.2.2.1) fun (x4 : Int) =>
  HM.ite (x4 == 47) (
  HM.bind (α := Nat) (HM.new (.cells #[.string x2.2.1] 9)) fun (x5 : Nat) =>
  HM.bind (α := Slc) (HM.append 9 1 16 #[.string (ByteArray.mk #[])] x2.1 1 (srcSlc 1 (⟨some ⟨x5, 0, none⟩, 1, 1⟩))) fun (x6 : Slc) =>
  HM.pure (x6, ByteArray.mk #[], ())) (
  HM.bind (α := ByteArray) (HM.substr p0 (some x2.2.2.1) (some (IntKind.wrap .i64 (x2.2.2.1 + 1)))) fun (x7 : ByteArray) =>
  HM.req (ByteArray.size x2.2.1 + ByteArray.size x7 ≤ 9223372036854775807) <|
  HM.pure (x2.1, x2.2.1 ++ x7, ()))) fun (x3 : Slc × ByteArray × Unit) =>
  HM.pure (.inl (x3.1, x3.2.1, IntKind.wrap .i64 (x2.2.2.1 + 1), ()))) (
  HM.pure (.inr (x2.1, x2.2.1, x2.2.2.1, ())))) (⟨none, 0, 0⟩, ByteArray.mk #[], 0, ())) fun (x1 : Slc × ByteArray × Int × Unit) =>
  HM.bind (α := Nat) (HM.new (.cells #[.string x1.2.1] 9)) fun (x8 : Nat) =>
  HM.bind (α := Slc) (HM.append 9 1 16 #[.string (ByteArray.mk #[])] x1.1 1 (srcSlc 1 (⟨some ⟨x8, 0, none⟩, 1, 1⟩))) fun (x9 : Slc) =>
  HM.pure (x9, ())

theorem ref07_Levels_den (p0 : ByteArray) : denFn Tryd.prog [] 31 [0, 2, 3, 4, 5, 9, 15] [0, 3, 4, 5, 9, 15] Tryd.f77.results.toList [.one .slc] (bodyOf Tryd.f77) [Kind.val (.one .str) p0] = ref07_Levels p0 := by kernel_rfl
theorem ref07_Levels_calls (p0 : ByteArray) (h : Heap) (Q : Value → Heap → Prop) (hh : ref07_Levels p0 h fun x h' => Q (.slice x.1.a x.1.len x.1.cap) h') :
    HCalls Tryd.prog 77 #[.string p0] h Q := by
  rw [← ref07_Levels_den] at hh
  exact calls_of_den Tryd.func77 (by kernel_rfl) Tryd.ntmps77 (by kernel_rfl) (fun f hf => by cases hf) orders hh

/-- aqueduct/text.Fault -/
def text_Fault (p0 : ByteArray) : HM (Int × Bool × Unit) :=
  HM.bind (α := (Int × Unit) ⊕ (Int × Bool × Unit)) (HM.loop (σ := Int × Unit) (τ := (Int × Unit) ⊕ (Int × Bool × Unit)) (fun (x2 : Int × Unit) =>
  HM.ite (decide (x2.1 < (((ByteArray.size p0 : Nat) : Int) : Int))) (
  HM.bind (α := ByteArray) (HM.substr p0 (some x2.1) none) fun (x3 : ByteArray) =>
  HM.bind (α := Int) (HM.call1 Tryd.prog (.one (.int .i64)) 125 #[.string x3]) fun (x4 : Int) =>
  HM.ite (x4 == 0) (
  HM.pure (.inr (.inr (x2.1, true, ())))) (
  HM.pure (.inl (IntKind.wrap .i64 (x2.1 + x4), ())))) (
  HM.pure (.inr (.inl (x2.1, ()))))) (0, ())) (Sum.elim (fun (x1 : Int × Unit) =>
  HM.pure (0, false, ())) HM.pure)

theorem text_Fault_den (p0 : ByteArray) : denFn Tryd.prog [125] 20 [0, 2, 3, 4, 5, 9, 15] [0, 4, 5, 9, 15] Tryd.f103.results.toList [.one (.int .i64), .one .bool] (bodyOf Tryd.f103) [Kind.val (.one .str) p0] = text_Fault p0 := by kernel_rfl
theorem text_Fault_calls (p0 : ByteArray) (h : Heap) (Q : Value → Heap → Prop) (hh : text_Fault p0 h fun x h' => Q (.tuple #[.int .i64 x.1, .bool x.2.1]) h') :
    HCalls Tryd.prog 103 #[.string p0] h Q := by
  rw [← text_Fault_den] at hh
  exact calls_of_den Tryd.func103 (by kernel_rfl) Tryd.ntmps103 (by kernel_rfl) (fun f hf => by
      rcases List.mem_cons.1 hf with rfl | hf
      · exact Tryd.call125
      cases hf) orders hh

/-- aqueduct/aqueductref02.Fault -/
def ref02_Fault (p0 : ByteArray) : HM (Int × Bool × Unit) :=
  HM.bind (α := (Int × Unit) ⊕ (Int × Bool × Unit)) (HM.loop (σ := Int × Unit) (τ := (Int × Unit) ⊕ (Int × Bool × Unit)) (fun (x2 : Int × Unit) =>
  HM.ite (decide (x2.1 < (((ByteArray.size p0 : Nat) : Int) : Int))) (
  HM.bind (α := Int) (HM.call1 Tryd.prog (.one (.int .i64)) 129 #[.string p0, .int .i64 x2.1]) fun (x3 : Int) =>
  HM.ite (x3 == 0) (
  HM.pure (.inr (.inr (x2.1, true, ())))) (
  HM.pure (.inl (IntKind.wrap .i64 (x2.1 + x3), ())))) (
  HM.pure (.inr (.inl (x2.1, ()))))) (0, ())) (Sum.elim (fun (x1 : Int × Unit) =>
  HM.pure (0, false, ())) HM.pure)

theorem ref02_Fault_den (p0 : ByteArray) : denFn Tryd.prog [129] 19 [0, 2, 3, 4, 5, 9, 14] [0, 4, 5, 9, 14] Tryd.f106.results.toList [.one (.int .i64), .one .bool] (bodyOf Tryd.f106) [Kind.val (.one .str) p0] = ref02_Fault p0 := by kernel_rfl
theorem ref02_Fault_calls (p0 : ByteArray) (h : Heap) (Q : Value → Heap → Prop) (hh : ref02_Fault p0 h fun x h' => Q (.tuple #[.int .i64 x.1, .bool x.2.1]) h') :
    HCalls Tryd.prog 106 #[.string p0] h Q := by
  rw [← ref02_Fault_den] at hh
  exact calls_of_den Tryd.func106 (by kernel_rfl) Tryd.ntmps106 (by kernel_rfl) (fun f hf => by
      rcases List.mem_cons.1 hf with rfl | hf
      · exact Tryd.call129
      cases hf) orders hh

/-- aqueduct/text.next -/
def text_next (p0 : ByteArray) : HM (Int × Unit) :=
  HM.bind (α := Int × Int × Unit) (HM.callN Tryd.prog [.one (.int .i32), .one (.int .i64)] 156 #[.string p0]) fun (x1 : Int × Int × Unit) =>
  HM.bind (α := Bool × Unit) (HM.ite (x1.1 == 0) (
  HM.pure (true, ())) (
  HM.ite (x1.1 == 65533) (
  HM.pure (decide (x1.2.1 < (2 : Int)), ())) (
  HM.pure (false, ())))) fun (x2 : Bool × Unit) =>
  HM.ite x2.1 (
  HM.pure (0, ())) (
  HM.pure (x1.2.1, ()))

theorem text_next_den (p0 : ByteArray) : denFn Tryd.prog [156] 21 [0, 2, 3, 4, 19] [0, 3, 4, 19] Tryd.f125.results.toList [.one (.int .i64)] (bodyOf Tryd.f125) [Kind.val (.one .str) p0] = text_next p0 := by kernel_rfl
theorem text_next_calls (p0 : ByteArray) (h : Heap) (Q : Value → Heap → Prop) (hh : text_next p0 h fun x h' => Q (.int .i64 x.1) h') :
    HCalls Tryd.prog 125 #[.string p0] h Q := by
  rw [← text_next_den] at hh
  exact calls_of_den Tryd.func125 (by kernel_rfl) Tryd.ntmps125 (by kernel_rfl) (fun f hf => by
      rcases List.mem_cons.1 hf with rfl | hf
      · exact Tryd.call156
      cases hf) orders hh

/-- aqueduct/aqueductref02.Char -/
def ref02_Char (p0 : ByteArray) (p1 : Int) : HM (Int × Unit) :=
  HM.bind (α := Int) (HM.strIdx p0 p1) fun (x1 : Int) =>
  HM.bind (α := Bool × Unit) (HM.ite (decide (1 ≤ ((IntKind.wrap .i64 x1) : Int))) (
  HM.pure (decide ((IntKind.wrap .i64 x1) ≤ (127 : Int)), ())) (
  HM.pure (false, ()))) fun (x2 : Bool × Unit) =>
  HM.ite x2.1 (
  HM.pure (1, ())) (
  HM.bind (α := Bool) (HM.call1 Tryd.prog (.one .bool) 161 #[.string p0, .int .i64 (IntKind.wrap .i64 (p1 + 1)), .int .i64 128, .int .i64 191]) fun (x3 : Bool) =>
  HM.bind (α := Bool) (HM.call1 Tryd.prog (.one .bool) 161 #[.string p0, .int .i64 (IntKind.wrap .i64 (p1 + 2)), .int .i64 128, .int .i64 191]) fun (x4 : Bool) =>
  HM.bind (α := Bool) (HM.call1 Tryd.prog (.one .bool) 161 #[.string p0, .int .i64 (IntKind.wrap .i64 (p1 + 3)), .int .i64 128, .int .i64 191]) fun (x5 : Bool) =>
  HM.bind (α := Bool × Unit) (HM.ite (decide (194 ≤ ((IntKind.wrap .i64 x1) : Int))) (
  HM.ite (decide ((IntKind.wrap .i64 x1) ≤ (223 : Int))) (
  HM.pure (x3, ())) (
  HM.pure (false, ()))) (
  HM.pure (false, ()))) fun (x6 : Bool × Unit) =>
  HM.ite x6.1 (
  HM.pure (2, ())) (
  HM.bind (α := Bool × Unit) (HM.ite (decide (224 ≤ ((IntKind.wrap .i64 x1) : Int))) (
  HM.ite (decide ((IntKind.wrap .i64 x1) ≤ (239 : Int))) (
  HM.ite x3 (
  HM.pure (x4, ())) (
  HM.pure (false, ()))) (
  HM.pure (false, ()))) (
  HM.pure (false, ()))) fun (x7 : Bool × Unit) =>
  HM.ite x7.1 (
  HM.bind (α := Bool) (HM.call1 Tryd.prog (.one .bool) 161 #[.string p0, .int .i64 (IntKind.wrap .i64 (p1 + 1)), .int .i64 160, .int .i64 191]) fun (x8 : Bool) =>
  HM.bind (α := Bool) (HM.call1 Tryd.prog (.one .bool) 161 #[.string p0, .int .i64 (IntKind.wrap .i64 (p1 + 1)), .int .i64 128, .int .i64 159]) fun (x9 : Bool) =>
  HM.bind (α := Bool × Unit) (HM.ite ((IntKind.wrap .i64 x1) == 224) (
  HM.ite (!x8) (
  HM.pure (true, ())) (
  HM.ite ((IntKind.wrap .i64 x1) == 237) (
  HM.pure (!x9, ())) (
  HM.pure (false, ())))) (
  HM.ite ((IntKind.wrap .i64 x1) == 237) (
  HM.pure (!x9, ())) (
  HM.pure (false, ())))) fun (x10 : Bool × Unit) =>
  HM.ite x10.1 (
  HM.pure (0, ())) (
  HM.pure (3, ()))) (
  HM.bind (α := Bool × Unit) (HM.ite (decide (240 ≤ ((IntKind.wrap .i64 x1) : Int))) (
  HM.ite (decide ((IntKind.wrap .i64 x1) ≤ (244 : Int))) (
  HM.ite x3 (
  HM.ite x4 (
  HM.pure (x5, ())) (
  HM.pure (false, ()))) (
  HM.pure (false, ()))) (
  HM.pure (false, ()))) (
  HM.pure (false, ()))) fun (x11 : Bool × Unit) =>
  HM.ite x11.1 (
  HM.bind (α := Bool) (HM.call1 Tryd.prog (.one .bool) 161 #[.string p0, .int .i64 (IntKind.wrap .i64 (p1 + 1)), .int .i64 144, .int .i64 191]) fun (x12 : Bool) =>
  HM.bind (α := Bool) (HM.call1 Tryd.prog (.one .bool) 161 #[.string p0, .int .i64 (IntKind.wrap .i64 (p1 + 1)), .int .i64 128, .int .i64 143]) fun (x13 : Bool) =>
  HM.bind (α := Bool × Unit) (HM.ite ((IntKind.wrap .i64 x1) == 240) (
  HM.ite (!x12) (
  HM.pure (true, ())) (
  HM.ite ((IntKind.wrap .i64 x1) == 244) (
  HM.pure (!x13, ())) (
  HM.pure (false, ())))) (
  HM.ite ((IntKind.wrap .i64 x1) == 244) (
  HM.pure (!x13, ())) (
  HM.pure (false, ())))) fun (x14 : Bool × Unit) =>
  HM.ite x14.1 (
  HM.pure (0, ())) (
  HM.pure (4, ()))) (
  HM.pure (0, ())))))

theorem ref02_Char_den (p0 : ByteArray) (p1 : Int) : denFn Tryd.prog [161] 115 [0, 1, 4, 5, 6, 7, 8, 9, 10, 11, 12, 22, 43, 55, 77, 92, 114] [0, 1, 5, 6, 7, 8, 9, 10, 11, 12, 22, 43, 55, 77, 92, 114] Tryd.f129.results.toList [.one (.int .i64)] (bodyOf Tryd.f129) [Kind.val (.one .str) p0, Kind.val (.one (.int .i64)) p1] = ref02_Char p0 p1 := by kernel_rfl
theorem ref02_Char_calls (p0 : ByteArray) (p1 : Int) (h : Heap) (Q : Value → Heap → Prop) (hh : ref02_Char p0 p1 h fun x h' => Q (.int .i64 x.1) h') :
    HCalls Tryd.prog 129 #[.string p0, .int .i64 p1] h Q := by
  rw [← ref02_Char_den] at hh
  exact calls_of_den Tryd.func129 (by kernel_rfl) Tryd.ntmps129 (by kernel_rfl) (fun f hf => by
      rcases List.mem_cons.1 hf with rfl | hf
      · exact Tryd.call161
      cases hf) orders hh

/-- aqueduct/aqueductref02.tail -/
def ref02_tail (p0 : ByteArray) (p1 : Int) (p2 : Int) (p3 : Int) : HM (Bool × Unit) :=
  HM.bind (α := Bool × Unit) (HM.ite (decide (p1 < (((ByteArray.size p0 : Nat) : Int) : Int))) (
  HM.bind (α := Int) (HM.strIdx p0 p1) fun (x1 : Int) =>
  HM.ite (decide (p2 ≤ ((IntKind.wrap .i64 x1) : Int))) (
  HM.bind (α := Int) (HM.strIdx p0 p1) fun (x2 : Int) =>
  HM.pure (decide ((IntKind.wrap .i64 x2) ≤ (p3 : Int)), ())) (
  HM.pure (false, ()))) (
  HM.pure (false, ()))) fun (x3 : Bool × Unit) =>
  HM.pure (x3.1, ())

theorem ref02_tail_den (p0 : ByteArray) (p1 : Int) (p2 : Int) (p3 : Int) : denFn Tryd.prog [] 29 [0, 1, 2, 3, 8] [0, 1, 2, 3] Tryd.f161.results.toList [.one .bool] (bodyOf Tryd.f161) [Kind.val (.one .str) p0, Kind.val (.one (.int .i64)) p1, Kind.val (.one (.int .i64)) p2, Kind.val (.one (.int .i64)) p3] = ref02_tail p0 p1 p2 p3 := by kernel_rfl
theorem ref02_tail_calls (p0 : ByteArray) (p1 : Int) (p2 : Int) (p3 : Int) (h : Heap) (Q : Value → Heap → Prop) (hh : ref02_tail p0 p1 p2 p3 h fun x h' => Q (.bool x.1) h') :
    HCalls Tryd.prog 161 #[.string p0, .int .i64 p1, .int .i64 p2, .int .i64 p3] h Q := by
  rw [← ref02_tail_den] at hh
  exact calls_of_den Tryd.func161 (by kernel_rfl) Tryd.ntmps161 (by kernel_rfl) (fun f hf => by cases hf) orders hh

end Go.Proofs.YtmdagnoknmfhcaaDoor
