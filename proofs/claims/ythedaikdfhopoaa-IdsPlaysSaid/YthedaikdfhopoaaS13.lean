/-
  The shallow forms of functions of the program, written by gen.py; each is held against the program by the kernel.
-/
import Derived.Test.YthedaikdfhopoaaHj
import Derived.Test.YthedaikdfhopoaaProg
import Derived.KernelRfl
namespace Go.Proofs.Ythedaikdfhopoaa
open Go.H Go.Proofs
set_option linter.unusedVariables false

theorem orders : Try.prog.follows .mixedOrders = true := by kernel_rfl

/-- aqueduct/ids.New -/
def ids_New (p0 : Int) : HM (Option Addr × Unit) :=
  HM.bind (α := Nat) (HM.new (.map #[] 0)) fun (x1 : Nat) =>
  HM.bind (α := Nat) (HM.new (.cells #[.int .i64 (if 1 < ((if 64 < (p0 : Int) then 64 else p0) : Int) then (if 64 < (p0 : Int) then 64 else p0) else 1), .int .i64 0, .map (some x1)] 49)) fun (x2 : Nat) =>
  HM.pure (some ⟨x2, 0, none⟩, ())

theorem ids_New_den (p0 : Int) : denFn Try.prog [] 9 [0, 2] [0] Try.f7.results.toList [.one .ptr] (bodyOf Try.f7) [Kind.val (.one (.int .i64)) p0] = ids_New p0 := by kernel_rfl
theorem ids_New_calls (p0 : Int) (h : Heap) (Q : Value → Heap → Prop) (hh : ids_New p0 h fun x h' => Q (.pointer x.1) h') :
    HCalls Try.prog 7 #[.int .i64 p0] h Q := by
  rw [← ids_New_den] at hh
  exact calls_of_den Try.func7 (by kernel_rfl) Try.ntmps7 (by kernel_rfl) (fun f hf => by cases hf) orders hh

/-- (*aqueduct/ids.Pool).Left -/
def ids_Pool_Left (p0 : Option Addr) : HM (Int × Unit) :=
  HM.ite (Option.isNone p0) (
  HM.pure (0, ())) (
  HM.bind (α := Addr) (HM.nonnil p0) fun (x1 : Addr) =>
  HM.bind (α := Int) (HM.load1 (.int .i64) (Addr.add x1 0)) fun (x2 : Int) =>
  HM.bind (α := Addr) (HM.nonnil p0) fun (x3 : Addr) =>
  HM.bind (α := Option Nat) (HM.load1 .map (Addr.add x3 2)) fun (x4 : Option Nat) =>
  HM.bind (α := Int) (HM.mapLen x4) fun (x5 : Int) =>
  HM.pure (IntKind.wrap .i64 (x2 - x5), ()))

theorem ids_Pool_Left_den (p0 : Option Addr) : denFn Try.prog [] 15 [0, 2, 4] [0, 4] Try.f8.results.toList [.one (.int .i64)] (bodyOf Try.f8) [Kind.val (.one .ptr) p0] = ids_Pool_Left p0 := by kernel_rfl
theorem ids_Pool_Left_calls (p0 : Option Addr) (h : Heap) (Q : Value → Heap → Prop) (hh : ids_Pool_Left p0 h fun x h' => Q (.int .i64 x.1) h') :
    HCalls Try.prog 8 #[.pointer p0] h Q := by
  rw [← ids_Pool_Left_den] at hh
  exact calls_of_den Try.func8 (by kernel_rfl) Try.ntmps8 (by kernel_rfl) (fun f hf => by cases hf) orders hh

/-- (*aqueduct/ids.Pool).Claim -/
def ids_Pool_Claim (p0 : Option Addr) (p1 : Int) : HM (Int × Unit) :=
  HM.ite (Option.isNone p0) (
  HM.pure (128, ())) (
  HM.bind (α := Bool × Unit) (HM.ite (decide (p1 < (1 : Int))) (
  HM.pure (true, ())) (
  HM.pure (decide (65535 < (p1 : Int)), ()))) fun (x1 : Bool × Unit) =>
  HM.ite x1.1 (
  HM.pure (129, ())) (
  HM.bind (α := Addr) (HM.nonnil p0) fun (x2 : Addr) =>
  HM.bind (α := Option Nat) (HM.load1 .map (Addr.add x2 2)) fun (x3 : Option Nat) =>
  HM.bind (α := Bool × Bool) (HM.lookup (.int .i64) (.bool false) (.one .bool) x3 (.int .i64 p1)) fun (x4 : Bool × Bool) =>
  HM.ite x4.1 (
  HM.pure (145, ())) (
  HM.bind (α := Int) (HM.call1 Try.prog (.one (.int .i64)) 8 #[.pointer p0]) fun (x5 : Int) =>
  HM.ite (x5 == 0) (
  HM.pure (147, ())) (
  HM.bind (α := Addr) (HM.nonnil p0) fun (x6 : Addr) =>
  HM.bind (α := Option Nat) (HM.load1 .map (Addr.add x6 2)) fun (x7 : Option Nat) =>
  HM.bind (α := Unit) (HM.mapSet (.int .i64) x7 (.int .i64 p1) (.bool true)) fun (_ : Unit) =>
  HM.pure (0, ())))))

theorem ids_Pool_Claim_den (p0 : Option Addr) (p1 : Int) : denFn Try.prog [8] 31 [0, 1, 4, 5, 8, 15, 22] [0, 1, 5, 8, 15, 22] Try.f9.results.toList [.one (.int .u8)] (bodyOf Try.f9) [Kind.val (.one .ptr) p0, Kind.val (.one (.int .i64)) p1] = ids_Pool_Claim p0 p1 := by kernel_rfl
theorem ids_Pool_Claim_calls (p0 : Option Addr) (p1 : Int) (h : Heap) (Q : Value → Heap → Prop) (hh : ids_Pool_Claim p0 p1 h fun x h' => Q (.int .u8 x.1) h') :
    HCalls Try.prog 9 #[.pointer p0, .int .i64 p1] h Q := by
  rw [← ids_Pool_Claim_den] at hh
  exact calls_of_den Try.func9 (by kernel_rfl) Try.ntmps9 (by kernel_rfl) (fun f hf => by
      rcases List.mem_cons.1 hf with rfl | hf
      · exact Try.call8
      cases hf) orders hh

/-- (*aqueduct/ids.Pool).Take -/
def ids_Pool_Take (p0 : Option Addr) : HM (Int × Int × Unit) :=
  HM.ite (Option.isNone p0) (
  HM.pure (0, 128, ())) (
  HM.bind (α := Int) (HM.call1 Try.prog (.one (.int .i64)) 8 #[.pointer p0]) fun (x1 : Int) =>
  HM.ite (x1 == 0) (
  HM.pure (0, 147, ())) (
  HM.bind (α := Unit) (HM.loop (σ := Unit) (τ := Unit) (fun (x3 : Unit) =>
  HM.bind (α := Addr) (HM.nonnil p0) fun (x4 : Addr) =>
  HM.bind (α := Int) (HM.load1 (.int .i64) (Addr.add x4 1)) fun (x5 : Int) =>
  HM.req (65535 ≠ (0 : Int)) <|
  HM.bind (α := Addr) (HM.nonnil p0) fun (x6 : Addr) =>
  HM.bind (α := Unit) (HM.store1 (Addr.add x6 1) (.int .i64 (IntKind.wrap .i64 ((Int.tmod x5 65535) + 1)))) fun (_ : Unit) =>
  HM.bind (α := Addr) (HM.nonnil p0) fun (x7 : Addr) =>
  HM.bind (α := Option Nat) (HM.load1 .map (Addr.add x7 2)) fun (x8 : Option Nat) =>
  HM.bind (α := Addr) (HM.nonnil p0) fun (x9 : Addr) =>
  HM.bind (α := Int) (HM.load1 (.int .i64) (Addr.add x9 1)) fun (x10 : Int) =>
  HM.bind (α := Bool × Bool) (HM.lookup (.int .i64) (.bool false) (.one .bool) x8 (.int .i64 x10)) fun (x11 : Bool × Bool) =>
  HM.ite (!x11.1) (
  HM.pure (.inr ())) (
  HM.pure (.inl ()))) ()) fun (x2 : Unit) =>
  HM.bind (α := Addr) (HM.nonnil p0) fun (x12 : Addr) =>
  HM.bind (α := Option Nat) (HM.load1 .map (Addr.add x12 2)) fun (x13 : Option Nat) =>
  HM.bind (α := Addr) (HM.nonnil p0) fun (x14 : Addr) =>
  HM.bind (α := Int) (HM.load1 (.int .i64) (Addr.add x14 1)) fun (x15 : Int) =>
  HM.bind (α := Unit) (HM.mapSet (.int .i64) x13 (.int .i64 x15) (.bool true)) fun (_ : Unit) =>
  HM.bind (α := Addr) (HM.nonnil p0) fun (x16 : Addr) =>
  HM.bind (α := Int) (HM.load1 (.int .i64) (Addr.add x16 1)) fun (x17 : Int) =>
  HM.pure (x17, 0, ())))

theorem ids_Pool_Take_den (p0 : Option Addr) : denFn Try.prog [8] 42 [0, 2, 3, 4, 7, 29] [0, 4, 7, 29] Try.f11.results.toList [.one (.int .i64), .one (.int .u8)] (bodyOf Try.f11) [Kind.val (.one .ptr) p0] = ids_Pool_Take p0 := by kernel_rfl
theorem ids_Pool_Take_calls (p0 : Option Addr) (h : Heap) (Q : Value → Heap → Prop) (hh : ids_Pool_Take p0 h fun x h' => Q (.tuple #[.int .i64 x.1, .int .u8 x.2.1]) h') :
    HCalls Try.prog 11 #[.pointer p0] h Q := by
  rw [← ids_Pool_Take_den] at hh
  exact calls_of_den Try.func11 (by kernel_rfl) Try.ntmps11 (by kernel_rfl) (fun f hf => by
      rcases List.mem_cons.1 hf with rfl | hf
      · exact Try.call8
      cases hf) orders hh

/-- (*aqueduct/ids.Pool).Free -/
def ids_Pool_Free (p0 : Option Addr) (p1 : Int) : HM (Bool × Unit) :=
  HM.bind (α := Bool × Unit) (HM.ite (Option.isNone p0) (
  HM.pure (true, ())) (
  HM.bind (α := Addr) (HM.nonnil p0) fun (x1 : Addr) =>
  HM.bind (α := Option Nat) (HM.load1 .map (Addr.add x1 2)) fun (x2 : Option Nat) =>
  HM.bind (α := Bool × Bool) (HM.lookup (.int .i64) (.bool false) (.one .bool) x2 (.int .i64 p1)) fun (x3 : Bool × Bool) =>
  HM.pure (!x3.1, ()))) fun (x4 : Bool × Unit) =>
  HM.ite x4.1 (
  HM.pure (false, ())) (
  HM.bind (α := Addr) (HM.nonnil p0) fun (x5 : Addr) =>
  HM.bind (α := Option Nat) (HM.load1 .map (Addr.add x5 2)) fun (x6 : Option Nat) =>
  HM.bind (α := Unit) (HM.mapDel (.int .i64) x6 (.int .i64 p1)) fun (_ : Unit) =>
  HM.pure (true, ()))

theorem ids_Pool_Free_den (p0 : Option Addr) (p1 : Int) : denFn Try.prog [] 21 [0, 1, 4, 15] [0, 1, 15] Try.f12.results.toList [.one .bool] (bodyOf Try.f12) [Kind.val (.one .ptr) p0, Kind.val (.one (.int .i64)) p1] = ids_Pool_Free p0 p1 := by kernel_rfl
theorem ids_Pool_Free_calls (p0 : Option Addr) (p1 : Int) (h : Heap) (Q : Value → Heap → Prop) (hh : ids_Pool_Free p0 p1 h fun x h' => Q (.bool x.1) h') :
    HCalls Try.prog 12 #[.pointer p0, .int .i64 p1] h Q := by
  rw [← ids_Pool_Free_den] at hh
  exact calls_of_den Try.func12 (by kernel_rfl) Try.ntmps12 (by kernel_rfl) (fun f hf => by cases hf) orders hh

/-- aqueduct/aqueductref13.New -/
def ref13_New (p0 : Int) : HM (Option Addr × Unit) :=
  HM.bind (α := Int × Unit) (HM.ite (decide (p0 < (1 : Int))) (
  HM.pure (1, ())) (
  HM.pure (p0, ()))) fun (x1 : Int × Unit) =>
  HM.bind (α := Int × Unit) (HM.ite (decide (64 < (x1.1 : Int))) (
  HM.pure (64, ())) (
  HM.pure (x1.1, ()))) fun (x2 : Int × Unit) =>
  HM.bind (α := Nat) (HM.new (.cells #[.int .i64 x2.1, .int .i64 0, .slice none 0 0] 46)) fun (x3 : Nat) =>
  HM.pure (some ⟨x3, 0, none⟩, ())

theorem ref13_New_den (p0 : Int) : denFn Try.prog [] 10 [0, 2, 4, 6] [0, 4, 6] Try.f13.results.toList [.one .ptr] (bodyOf Try.f13) [Kind.val (.one (.int .i64)) p0] = ref13_New p0 := by kernel_rfl
theorem ref13_New_calls (p0 : Int) (h : Heap) (Q : Value → Heap → Prop) (hh : ref13_New p0 h fun x h' => Q (.pointer x.1) h') :
    HCalls Try.prog 13 #[.int .i64 p0] h Q := by
  rw [← ref13_New_den] at hh
  exact calls_of_den Try.func13 (by kernel_rfl) Try.ntmps13 (by kernel_rfl) (fun f hf => by cases hf) orders hh

/-- aqueduct/aqueductref13.Claim -/
def ref13_Claim (p0 : Option Addr) (p1 : Int) : HM (Int × Unit) :=
  HM.bind (α := Bool × Unit) (HM.ite (decide (p1 < (1 : Int))) (
  HM.pure (true, ())) (
  HM.pure (decide (65535 < (p1 : Int)), ()))) fun (x1 : Bool × Unit) =>
  HM.ite x1.1 (
  HM.pure (129, ())) (
  HM.bind (α := Bool) (HM.call1 Try.prog (.one .bool) 19 #[.pointer p0, .int .i64 p1]) fun (x2 : Bool) =>
  HM.ite x2 (
  HM.pure (145, ())) (
  HM.bind (α := Addr) (HM.nonnil p0) fun (x3 : Addr) =>
  HM.bind (α := Slc) (HM.load1 .slc (Addr.add x3 2)) fun (x4 : Slc) =>
  HM.bind (α := Addr) (HM.nonnil p0) fun (x5 : Addr) =>
  HM.bind (α := Int) (HM.load1 (.int .i64) (Addr.add x5 0)) fun (x6 : Int) =>
  HM.ite (decide (x6 ≤ (((x4.len : Nat) : Int) : Int))) (
  HM.pure (147, ())) (
  HM.bind (α := Unit) (HM.callN Try.prog [] 20 #[.pointer p0, .int .i64 p1]) fun (x7 : Unit) =>
  HM.pure (0, ()))))

theorem ref13_Claim_den (p0 : Option Addr) (p1 : Int) : denFn Try.prog [19, 20] 29 [0, 1, 4, 5, 11, 15, 25] [0, 1, 5, 11, 15, 25] Try.f14.results.toList [.one (.int .i64)] (bodyOf Try.f14) [Kind.val (.one .ptr) p0, Kind.val (.one (.int .i64)) p1] = ref13_Claim p0 p1 := by kernel_rfl
theorem ref13_Claim_calls (p0 : Option Addr) (p1 : Int) (h : Heap) (Q : Value → Heap → Prop) (hh : ref13_Claim p0 p1 h fun x h' => Q (.int .i64 x.1) h') :
    HCalls Try.prog 14 #[.pointer p0, .int .i64 p1] h Q := by
  rw [← ref13_Claim_den] at hh
  exact calls_of_den Try.func14 (by kernel_rfl) Try.ntmps14 (by kernel_rfl) (fun f hf => by
      rcases List.mem_cons.1 hf with rfl | hf
      · exact Try.call19
      rcases List.mem_cons.1 hf with rfl | hf
      · exact Try.call20
      cases hf) orders hh

/-- aqueduct/aqueductref13.Free -/
def ref13_Free (p0 : Option Addr) (p1 : Int) : HM (Bool × Unit) :=
  HM.bind (α := Slc × Int × Unit) (HM.loop (σ := Slc × Int × Unit) (τ := Slc × Int × Unit) (fun (x2 : Slc × Int × Unit) =>
  HM.bind (α := Addr) (HM.nonnil p0) fun (x3 : Addr) =>
  HM.bind (α := Slc) (HM.load1 .slc (Addr.add x3 2)) fun (x4 : Slc) =>
  HM.ite (decide (x2.2.1 < (((x4.len : Nat) : Int) : Int))) (
  HM.bind (α := Addr) (HM.nonnil p0) fun (x5 : Addr) =>
  HM.bind (α := Slc) (HM.load1 .slc (Addr.add x5 2)) fun (x6 : Slc) =>
  HM.bind (α := Addr) (HM.idx x6.a x6.len x2.2.1 1) fun (x7 : Addr) =>
  HM.bind (α := Int) (HM.load1 (.int .i64) x7) fun (x8 : Int) =>
  HM.bind (α := Slc × Unit) (HM.ite (!(x8 == p1)) (
  HM.bind (α := Addr) (HM.nonnil p0) fun (x10 : Addr) =>
  HM.bind (α := Slc) (HM.load1 .slc (Addr.add x10 2)) fun (x11 : Slc) =>
  HM.bind (α := Addr) (HM.idx x11.a x11.len x2.2.1 1) fun (x12 : Addr) =>
  HM.bind (α := Int) (HM.load1 (.int .i64) x12) fun (x13 : Int) =>
  HM.bind (α := Nat) (HM.new (.cells #[.int .i64 x13] 3)) fun (x14 : Nat) =>
  HM.bind (α := Slc) (HM.append 3 1 8 #[.int .i64 0] x2.1 1 (srcSlc 1 (⟨some ⟨x14, 0, none⟩, 1, 1⟩))) fun (x15 : Slc) =>
  HM.pure (x15, ())) (
  HM.pure (x2.1, ()))) fun (x9 : Slc × Unit) =>
  HM.pure (.inl (x9.1, IntKind.wrap .i64 (x2.2.1 + 1), ()))) (
  HM.pure (.inr (x2.1, x2.2.1, ())))) (⟨none, 0, 0⟩, 0, ())) fun (x1 : Slc × Int × Unit) =>
  HM.bind (α := Addr) (HM.nonnil p0) fun (x16 : Addr) =>
  HM.bind (α := Slc) (HM.load1 .slc (Addr.add x16 2)) fun (x17 : Slc) =>
  HM.bind (α := Addr) (HM.nonnil p0) fun (x18 : Addr) =>
  HM.bind (α := Unit) (HM.store1 (Addr.add x18 2) (.slice x1.1.a x1.1.len x1.1.cap)) fun (_ : Unit) =>
  HM.pure (decide (((x1.1.len : Nat) : Int) < (((x17.len : Nat) : Int) : Int)), ())

theorem ref13_Free_den (p0 : Option Addr) (p1 : Int) : denFn Try.prog [] 49 [0, 1, 4, 5, 6, 7, 14, 25] [0, 1, 5, 6, 7, 14, 25] Try.f15.results.toList [.one .bool] (bodyOf Try.f15) [Kind.val (.one .ptr) p0, Kind.val (.one (.int .i64)) p1] = ref13_Free p0 p1 := by kernel_rfl
theorem ref13_Free_calls (p0 : Option Addr) (p1 : Int) (h : Heap) (Q : Value → Heap → Prop) (hh : ref13_Free p0 p1 h fun x h' => Q (.bool x.1) h') :
    HCalls Try.prog 15 #[.pointer p0, .int .i64 p1] h Q := by
  rw [← ref13_Free_den] at hh
  exact calls_of_den Try.func15 (by kernel_rfl) Try.ntmps15 (by kernel_rfl) (fun f hf => by cases hf) orders hh

/-- aqueduct/aqueductref13.Take -/
def ref13_Take (p0 : Option Addr) : HM (Int × Int × Unit) :=
  HM.bind (α := Addr) (HM.nonnil p0) fun (x1 : Addr) =>
  HM.bind (α := Slc) (HM.load1 .slc (Addr.add x1 2)) fun (x2 : Slc) =>
  HM.bind (α := Addr) (HM.nonnil p0) fun (x3 : Addr) =>
  HM.bind (α := Int) (HM.load1 (.int .i64) (Addr.add x3 0)) fun (x4 : Int) =>
  HM.ite (decide (x4 ≤ (((x2.len : Nat) : Int) : Int))) (
  HM.pure (0, 147, ())) (
  HM.bind (α := Addr) (HM.nonnil p0) fun (x5 : Addr) =>
  HM.bind (α := Int) (HM.load1 (.int .i64) (Addr.add x5 1)) fun (x6 : Int) =>
  HM.bind (α := Int × Int × Unit) (HM.loop (σ := Int × Int × Unit) (τ := Int × Int × Unit) (fun (x8 : Int × Int × Unit) =>
  HM.ite (decide (x8.2.1 ≤ (64 : Int))) (
  HM.bind (α := Int × Unit) (HM.ite (decide (65535 < ((IntKind.wrap .i64 (x8.1 + 1)) : Int))) (
  HM.pure (1, ())) (
  HM.pure (IntKind.wrap .i64 (x8.1 + 1), ()))) fun (x9 : Int × Unit) =>
  HM.bind (α := Bool) (HM.call1 Try.prog (.one .bool) 19 #[.pointer p0, .int .i64 x9.1]) fun (x10 : Bool) =>
  HM.ite (!x10) (
  HM.pure (.inr (x9.1, x8.2.1, ()))) (
  HM.pure (.inl (x9.1, IntKind.wrap .i64 (x8.2.1 + 1), ())))) (
  HM.pure (.inr (x8.1, x8.2.1, ())))) (x6, 0, ())) fun (x7 : Int × Int × Unit) =>
  HM.bind (α := Addr) (HM.nonnil p0) fun (x11 : Addr) =>
  HM.bind (α := Unit) (HM.store1 (Addr.add x11 1) (.int .i64 x7.1)) fun (_ : Unit) =>
  HM.bind (α := Unit) (HM.callN Try.prog [] 20 #[.pointer p0, .int .i64 x7.1]) fun (x12 : Unit) =>
  HM.pure (x7.1, 0, ()))

theorem ref13_Take_den (p0 : Option Addr) : denFn Try.prog [19, 20] 42 [0, 2, 3, 4, 5, 6, 16, 22, 28, 33] [0, 4, 5, 6, 16, 22, 28, 33] Try.f16.results.toList [.one (.int .i64), .one (.int .i64)] (bodyOf Try.f16) [Kind.val (.one .ptr) p0] = ref13_Take p0 := by kernel_rfl
theorem ref13_Take_calls (p0 : Option Addr) (h : Heap) (Q : Value → Heap → Prop) (hh : ref13_Take p0 h fun x h' => Q (.tuple #[.int .i64 x.1, .int .i64 x.2.1]) h') :
    HCalls Try.prog 16 #[.pointer p0] h Q := by
  rw [← ref13_Take_den] at hh
  exact calls_of_den Try.func16 (by kernel_rfl) Try.ntmps16 (by kernel_rfl) (fun f hf => by
      rcases List.mem_cons.1 hf with rfl | hf
      · exact Try.call19
      rcases List.mem_cons.1 hf with rfl | hf
      · exact Try.call20
      cases hf) orders hh

/-- aqueduct/aqueductlaw13.equal -/
def law13_equal (p0 : Slc) (p1 : Slc) : HM (Bool × Unit) :=
  HM.ite (!(((p0.len : Nat) : Int) == ((p1.len : Nat) : Int))) (
  HM.pure (false, ())) (
  HM.bind (α := (Int × Unit) ⊕ (Bool × Unit)) (HM.loop (σ := Int × Unit) (τ := (Int × Unit) ⊕ (Bool × Unit)) (fun (x2 : Int × Unit) =>
  HM.ite (decide (x2.1 < (((p0.len : Nat) : Int) : Int))) (
  HM.bind (α := Addr) (HM.idx p0.a p0.len x2.1 1) fun (x3 : Addr) =>
  HM.bind (α := Int) (HM.load1 (.int .i64) x3) fun (x4 : Int) =>
  HM.bind (α := Addr) (HM.idx p1.a p1.len x2.1 1) fun (x5 : Addr) =>
  HM.bind (α := Int) (HM.load1 (.int .i64) x5) fun (x6 : Int) =>
  HM.ite (!(x4 == x6)) (
  HM.pure (.inr (.inr (false, ())))) (
  HM.pure (.inl (IntKind.wrap .i64 (x2.1 + 1), ())))) (
  HM.pure (.inr (.inl (x2.1, ()))))) (0, ())) (Sum.elim (fun (x1 : Int × Unit) =>
  HM.pure (true, ())) HM.pure))

theorem law13_equal_den (p0 : Slc) (p1 : Slc) : denFn Try.prog [] 26 [0, 1, 4, 5, 10, 12, 13, 14, 24] [0, 1, 5, 10, 12, 13, 14, 24] Try.f17.results.toList [.one .bool] (bodyOf Try.f17) [Kind.val (.one .slc) p0, Kind.val (.one .slc) p1] = law13_equal p0 p1 := by kernel_rfl
theorem law13_equal_calls (p0 : Slc) (p1 : Slc) (h : Heap) (Q : Value → Heap → Prop) (hh : law13_equal p0 p1 h fun x h' => Q (.bool x.1) h') :
    HCalls Try.prog 17 #[.slice p0.a p0.len p0.cap, .slice p1.a p1.len p1.cap] h Q := by
  rw [← law13_equal_den] at hh
  exact calls_of_den Try.func17 (by kernel_rfl) Try.ntmps17 (by kernel_rfl) (fun f hf => by cases hf) orders hh

/-- (*aqueduct/ids.Pool).Used -/
def ids_Pool_Used (p0 : Option Addr) : HM (Slc × Unit) :=
  HM.ite (Option.isNone p0) (
  HM.pure (⟨none, 0, 0⟩, ())) (
  HM.bind (α := Addr) (HM.nonnil p0) fun (x1 : Addr) =>
  HM.bind (α := Option Nat) (HM.load1 .map (Addr.add x1 2)) fun (x2 : Option Nat) =>
  HM.bind (α := Value) (HM.call1 Try.prog (.one .any) 22 #[.map x2]) fun (x3 : Value) =>
  HM.bind (α := Slc) (HM.call1 Try.prog (.one .slc) 21 #[x3]) fun (x4 : Slc) =>
  HM.pure (x4, ()))

theorem ids_Pool_Used_den (p0 : Option Addr) : denFn Try.prog [22, 21] 11 [0, 2, 4] [0, 4] Try.f18.results.toList [.one .slc] (bodyOf Try.f18) [Kind.val (.one .ptr) p0] = ids_Pool_Used p0 := by kernel_rfl
theorem ids_Pool_Used_calls (p0 : Option Addr) (h : Heap) (Q : Value → Heap → Prop) (hh : ids_Pool_Used p0 h fun x h' => Q (.slice x.1.a x.1.len x.1.cap) h') :
    HCalls Try.prog 18 #[.pointer p0] h Q := by
  rw [← ids_Pool_Used_den] at hh
  exact calls_of_den Try.func18 (by kernel_rfl) Try.ntmps18 (by kernel_rfl) (fun f hf => by
      rcases List.mem_cons.1 hf with rfl | hf
      · exact Try.call22
      rcases List.mem_cons.1 hf with rfl | hf
      · exact Try.call21
      cases hf) orders hh

/-- aqueduct/aqueductref13.In -/
def ref13_In (p0 : Option Addr) (p1 : Int) : HM (Bool × Unit) :=
  HM.bind (α := (Int × Unit) ⊕ (Bool × Unit)) (HM.loop (σ := Int × Unit) (τ := (Int × Unit) ⊕ (Bool × Unit)) (fun (x2 : Int × Unit) =>
  HM.bind (α := Addr) (HM.nonnil p0) fun (x3 : Addr) =>
  HM.bind (α := Slc) (HM.load1 .slc (Addr.add x3 2)) fun (x4 : Slc) =>
  HM.ite (decide (x2.1 < (((x4.len : Nat) : Int) : Int))) (
  HM.bind (α := Addr) (HM.nonnil p0) fun (x5 : Addr) =>
  HM.bind (α := Slc) (HM.load1 .slc (Addr.add x5 2)) fun (x6 : Slc) =>
  HM.bind (α := Addr) (HM.idx x6.a x6.len x2.1 1) fun (x7 : Addr) =>
  HM.bind (α := Int) (HM.load1 (.int .i64) x7) fun (x8 : Int) =>
  HM.ite (x8 == p1) (
  HM.pure (.inr (.inr (true, ())))) (
  HM.pure (.inl (IntKind.wrap .i64 (x2.1 + 1), ())))) (
  HM.pure (.inr (.inl (x2.1, ()))))) (0, ())) (Sum.elim (fun (x1 : Int × Unit) =>
  HM.pure (false, ())) HM.pure)

theorem ref13_In_den (p0 : Option Addr) (p1 : Int) : denFn Try.prog [] 24 [0, 1, 4, 5, 12, 23] [0, 1, 5, 12, 23] Try.f19.results.toList [.one .bool] (bodyOf Try.f19) [Kind.val (.one .ptr) p0, Kind.val (.one (.int .i64)) p1] = ref13_In p0 p1 := by kernel_rfl
theorem ref13_In_calls (p0 : Option Addr) (p1 : Int) (h : Heap) (Q : Value → Heap → Prop) (hh : ref13_In p0 p1 h fun x h' => Q (.bool x.1) h') :
    HCalls Try.prog 19 #[.pointer p0, .int .i64 p1] h Q := by
  rw [← ref13_In_den] at hh
  exact calls_of_den Try.func19 (by kernel_rfl) Try.ntmps19 (by kernel_rfl) (fun f hf => by cases hf) orders hh

/-- aqueduct/aqueductref13.put -/
def ref13_put (p0 : Option Addr) (p1 : Int) : HM (Unit) :=
  HM.bind (α := Bool × Slc × Int × Unit) (HM.loop (σ := Bool × Slc × Int × Unit) (τ := Bool × Slc × Int × Unit) (fun (x2 : Bool × Slc × Int × Unit) =>
  HM.bind (α := Addr) (HM.nonnil p0) fun (x3 : Addr) =>
  HM.bind (α := Slc) (HM.load1 .slc (Addr.add x3 2)) fun (x4 : Slc) =>
  HM.ite (decide (x2.2.2.1 < (((x4.len : Nat) : Int) : Int))) (
  HM.bind (α := Bool × Unit) (HM.ite (!x2.1) (
  HM.bind (α := Addr) (HM.nonnil p0) fun (x5 : Addr) =>
  HM.bind (α := Slc) (HM.load1 .slc (Addr.add x5 2)) fun (x6 : Slc) =>
  HM.bind (α := Addr) (HM.idx x6.a x6.len x2.2.2.1 1) fun (x7 : Addr) =>
  HM.bind (α := Int) (HM.load1 (.int .i64) x7) fun (x8 : Int) =>
  HM.pure (decide (p1 < (x8 : Int)), ())) (
  HM.pure (false, ()))) fun (x9 : Bool × Unit) =>
  HM.bind (α := Slc × Bool × Unit) (HM.ite x9.1 (
  HM.bind (α := Nat) (HM.new (.cells #[.int .i64 p1] 3)) fun (x11 : Nat) =>
  HM.bind (α := Slc) (HM.append 3 1 8 #[.int .i64 0] x2.2.1 1 (srcSlc 1 (⟨some ⟨x11, 0, none⟩, 1, 1⟩))) fun (x12 : Slc) =>
  HM.pure (x12, true, ())) (
  HM.pure (x2.2.1, x2.1, ()))) fun (x10 : Slc × Bool × Unit) =>
  HM.bind (α := Addr) (HM.nonnil p0) fun (x13 : Addr) =>
  HM.bind (α := Slc) (HM.load1 .slc (Addr.add x13 2)) fun (x14 : Slc) =>
  HM.bind (α := Addr) (HM.idx x14.a x14.len x2.2.2.1 1) fun (x15 : Addr) =>
  HM.bind (α := Int) (HM.load1 (.int .i64) x15) fun (x16 : Int) =>
  HM.bind (α := Nat) (HM.new (.cells #[.int .i64 x16] 3)) fun (x17 : Nat) =>
  HM.bind (α := Slc) (HM.append 3 1 8 #[.int .i64 0] x10.1 1 (srcSlc 1 (⟨some ⟨x17, 0, none⟩, 1, 1⟩))) fun (x18 : Slc) =>
  HM.pure (.inl (x10.2.1, x18, IntKind.wrap .i64 (x2.2.2.1 + 1), ()))) (
  HM.pure (.inr (x2.1, x2.2.1, x2.2.2.1, ())))) (false, ⟨none, 0, 0⟩, 0, ())) fun (x1 : Bool × Slc × Int × Unit) =>
  HM.bind (α := Slc × Unit) (HM.ite (!x1.1) (
  HM.bind (α := Nat) (HM.new (.cells #[.int .i64 p1] 3)) fun (x20 : Nat) =>
  HM.bind (α := Slc) (HM.append 3 1 8 #[.int .i64 0] x1.2.1 1 (srcSlc 1 (⟨some ⟨x20, 0, none⟩, 1, 1⟩))) fun (x21 : Slc) =>
  HM.pure (x21, ())) (
  HM.pure (x1.2.1, ()))) fun (x19 : Slc × Unit) =>
  HM.bind (α := Addr) (HM.nonnil p0) fun (x22 : Addr) =>
  HM.bind (α := Unit) (HM.store1 (Addr.add x22 2) (.slice x19.1.a x19.1.len x19.1.cap)) fun (_ : Unit) =>
  HM.pure ()

theorem ref13_put_den (p0 : Option Addr) (p1 : Int) : denFn Try.prog [] 53 [0, 1, 4, 5, 6, 13, 28, 44] [0, 1, 4, 5, 6, 13, 28, 44] Try.f20.results.toList [] (bodyOf Try.f20) [Kind.val (.one .ptr) p0, Kind.val (.one (.int .i64)) p1] = ref13_put p0 p1 := by kernel_rfl
theorem ref13_put_calls (p0 : Option Addr) (p1 : Int) (h : Heap) (Q : Value → Heap → Prop) (hh : ref13_put p0 p1 h fun x h' => Q (.tuple #[]) h') :
    HCalls Try.prog 20 #[.pointer p0, .int .i64 p1] h Q := by
  rw [← ref13_put_den] at hh
  exact calls_of_den Try.func20 (by kernel_rfl) Try.ntmps20 (by kernel_rfl) (fun f hf => by cases hf) orders hh

/-- aqueduct/aqueductlaw13.wakes -/
def law13_wakes : HM (Bool × Unit) :=
  HM.bind (α := Option Addr) (HM.call1 Try.prog (.one .ptr) 7 #[.int .i64 5]) fun (x1 : Option Addr) =>
  HM.bind (α := Int × Int × Unit) (HM.callN Try.prog [.one (.int .i64), .one (.int .u8)] 11 #[.pointer x1]) fun (x2 : Int × Int × Unit) =>
  HM.bind (α := Int × Int × Unit) (HM.callN Try.prog [.one (.int .i64), .one (.int .u8)] 11 #[.pointer x1]) fun (x3 : Int × Int × Unit) =>
  HM.bind (α := Bool) (HM.call1 Try.prog (.one .bool) 12 #[.pointer x1, .int .i64 1]) fun (x4 : Bool) =>
  HM.bind (α := Int × Int × Unit) (HM.callN Try.prog [.one (.int .i64), .one (.int .u8)] 11 #[.pointer x1]) fun (x5 : Int × Int × Unit) =>
  HM.bind (α := Bool × Unit) (HM.ite (x2.2.1 == 0) (
  HM.ite (x3.2.1 == 0) (
  HM.ite (x5.2.1 == 0) (
  HM.ite x4 (
  HM.ite (x2.1 == 1) (
  HM.ite (x3.1 == 2) (
  HM.ite (x5.1 == 3) (
  HM.bind (α := Int) (HM.call1 Try.prog (.one (.int .i64)) 8 #[.pointer x1]) fun (x6 : Int) =>
  HM.pure (x6 == 3, ())) (
  HM.pure (false, ()))) (
  HM.pure (false, ()))) (
  HM.pure (false, ()))) (
  HM.pure (false, ()))) (
  HM.pure (false, ()))) (
  HM.pure (false, ()))) (
  HM.pure (false, ()))) fun (x7 : Bool × Unit) =>
  HM.pure (x7.1, ())

theorem law13_wakes_den : denFn Try.prog [7, 11, 12, 8] 57 [0, 1, 2, 3, 4, 5, 6, 7, 8] [1, 2, 3, 4, 5, 6, 7, 8] Try.f10.results.toList [.one .bool] (bodyOf Try.f10) [] = law13_wakes := by kernel_rfl
theorem law13_wakes_calls (h : Heap) (Q : Value → Heap → Prop) (hh : law13_wakes h fun x h' => Q (.bool x.1) h') :
    HCalls Try.prog 10 #[] h Q := by
  rw [← law13_wakes_den] at hh
  exact calls_of_den Try.func10 (by kernel_rfl) Try.ntmps10 (by kernel_rfl) (fun f hf => by
      rcases List.mem_cons.1 hf with rfl | hf
      · exact Try.call7
      rcases List.mem_cons.1 hf with rfl | hf
      · exact Try.call11
      rcases List.mem_cons.1 hf with rfl | hf
      · exact Try.call12
      rcases List.mem_cons.1 hf with rfl | hf
      · exact Try.call8
      cases hf) orders hh

/-- aqueduct/aqueductlaw13.IdsNil -/
def law13_IdsNil (p0 : Int) : HM (Bool × Unit) :=
  HM.bind (α := Int × Int × Unit) (HM.callN Try.prog [.one (.int .i64), .one (.int .u8)] 11 #[.pointer none]) fun (x1 : Int × Int × Unit) =>
  HM.bind (α := Bool × Unit) (HM.bind (α := Bool) (HM.call1 Try.prog (.one .bool) 10 #[]) fun (x2 : Bool) =>
  HM.ite x2 (
  HM.ite (x1.1 == 0) (
  HM.ite (x1.2.1 == 128) (
  HM.bind (α := Int) (HM.call1 Try.prog (.one (.int .u8)) 9 #[.pointer none, .int .i64 p0]) fun (x3 : Int) =>
  HM.ite (x3 == 128) (
  HM.bind (α := Bool) (HM.call1 Try.prog (.one .bool) 12 #[.pointer none, .int .i64 p0]) fun (x4 : Bool) =>
  HM.ite (!x4) (
  HM.bind (α := Slc) (HM.call1 Try.prog (.one .slc) 18 #[.pointer none]) fun (x5 : Slc) =>
  HM.ite (((x5.len : Nat) : Int) == 0) (
  HM.bind (α := Int) (HM.call1 Try.prog (.one (.int .i64)) 8 #[.pointer none]) fun (x6 : Int) =>
  HM.pure (x6 == 0, ())) (
  HM.pure (false, ()))) (
  HM.pure (false, ()))) (
  HM.pure (false, ()))) (
  HM.pure (false, ()))) (
  HM.pure (false, ()))) (
  HM.pure (false, ()))) fun (x7 : Bool × Unit) =>
  HM.pure (x7.1, ())

theorem law13_IdsNil_den (p0 : Int) : denFn Try.prog [11, 10, 9, 12, 18, 8] 43 [0, 2, 3, 4, 5] [0, 3, 4, 5] Try.f6.results.toList [.one .bool] (bodyOf Try.f6) [Kind.val (.one (.int .i64)) p0] = law13_IdsNil p0 := by kernel_rfl
theorem law13_IdsNil_calls (p0 : Int) (h : Heap) (Q : Value → Heap → Prop) (hh : law13_IdsNil p0 h fun x h' => Q (.bool x.1) h') :
    HCalls Try.prog 6 #[.int .i64 p0] h Q := by
  rw [← law13_IdsNil_den] at hh
  exact calls_of_den Try.func6 (by kernel_rfl) Try.ntmps6 (by kernel_rfl) (fun f hf => by
      rcases List.mem_cons.1 hf with rfl | hf
      · exact Try.call11
      rcases List.mem_cons.1 hf with rfl | hf
      · exact Try.call10
      rcases List.mem_cons.1 hf with rfl | hf
      · exact Try.call9
      rcases List.mem_cons.1 hf with rfl | hf
      · exact Try.call12
      rcases List.mem_cons.1 hf with rfl | hf
      · exact Try.call18
      rcases List.mem_cons.1 hf with rfl | hf
      · exact Try.call8
      cases hf) orders hh

/-- aqueduct/aqueductlaw13.IdsRound -/
def law13_IdsRound (p0 : Slc) (p1 : Int) : HM (Bool × Unit) :=
  HM.bind (α := Option Addr) (HM.call1 Try.prog (.one .ptr) 7 #[.int .i64 p1]) fun (x1 : Option Addr) =>
  HM.bind (α := Nat) (HM.new (.map #[] 0)) fun (x2 : Nat) =>
  HM.bind (α := Slc) (HM.slice p0 none (some (if 40 < (((p0.len : Nat) : Int) : Int) then 40 else ((p0.len : Nat) : Int))) none 1) fun (x3 : Slc) =>
  HM.bind (α := Int × Unit) (HM.loop (σ := Int × Unit) (τ := Int × Unit) (fun (x5 : Int × Unit) =>
  HM.ite (decide (x5.1 < (((x3.len : Nat) : Int) : Int))) (
  HM.bind (α := Addr) (HM.idx x3.a x3.len x5.1 1) fun (x6 : Addr) =>
  HM.bind (α := Int) (HM.load1 (.int .i64) x6) fun (x7 : Int) =>
  HM.bind (α := Bool × Unit) (HM.bind (α := Int) (HM.call1 Try.prog (.one (.int .i64)) 8 #[.pointer x1]) fun (x8 : Int) =>
  HM.ite (decide (1 < (x8 : Int))) (
  HM.bind (α := Int) (HM.call1 Try.prog (.one (.int .u8)) 9 #[.pointer x1, .int .i64 x7]) fun (x9 : Int) =>
  HM.pure (x9 == 0, ())) (
  HM.pure (false, ()))) fun (x10 : Bool × Unit) =>
  HM.bind (α := Unit) (HM.ite x10.1 (
  HM.bind (α := Unit) (HM.mapSet (.int .i64) (some x2) (.int .i64 x7) (.bool true)) fun (_ : Unit) =>
  HM.pure ()) (
  HM.pure ())) fun (x11 : Unit) =>
  HM.pure (.inl (IntKind.wrap .i64 (x5.1 + 1), ()))) (
  HM.pure (.inr (x5.1, ())))) (0, ())) fun (x4 : Int × Unit) =>
  HM.bind (α := Bool) (HM.call1 Try.prog (.one .bool) 10 #[]) fun (x12 : Bool) =>
  HM.ite (!x12) (
  HM.pure (false, ())) (
  HM.bind (α := (Int × Int × Unit) ⊕ (Bool × Unit)) (HM.loop (σ := Int × Int × Unit) (τ := (Int × Int × Unit) ⊕ (Bool × Unit)) (fun (x14 : Int × Int × Unit) =>
  HM.ite (decide (x14.2.1 < (65635 : Int))) (
  HM.req (65535 ≠ (0 : Int)) <|
  HM.bind (α := Int × Unit) (HM.loop (σ := Int × Unit) (τ := Int × Unit) (fun (x16 : Int × Unit) =>
  HM.bind (α := Bool × Bool) (HM.lookup (.int .i64) (.bool false) (.one .bool) (some x2) (.int .i64 x16.1)) fun (x17 : Bool × Bool) =>
  HM.ite x17.1 (
  HM.req (65535 ≠ (0 : Int)) <|
  HM.pure (.inl (IntKind.wrap .i64 ((Int.tmod x16.1 65535) + 1), ()))) (
  HM.pure (.inr (x16.1, ())))) (IntKind.wrap .i64 ((Int.tmod x14.1 65535) + 1), ())) fun (x15 : Int × Unit) =>
  HM.bind (α := Int × Int × Unit) (HM.callN Try.prog [.one (.int .i64), .one (.int .u8)] 11 #[.pointer x1]) fun (x18 : Int × Int × Unit) =>
  HM.bind (α := Bool × Unit) (HM.ite (!(x18.2.1 == 0)) (
  HM.pure (true, ())) (
  HM.ite (!(x18.1 == x15.1)) (
  HM.pure (true, ())) (
  HM.bind (α := Bool) (HM.call1 Try.prog (.one .bool) 12 #[.pointer x1, .int .i64 x18.1]) fun (x19 : Bool) =>
  HM.pure (!x19, ())))) fun (x20 : Bool × Unit) =>
  HM.ite x20.1 (
  HM.pure (.inr (.inr (false, ())))) (
  HM.pure (.inl (x15.1, IntKind.wrap .i64 (x14.2.1 + 1), ())))) (
  HM.pure (.inr (.inl (x14.1, x14.2.1, ()))))) (0, 0, ())) (Sum.elim (fun (x13 : Int × Int × Unit) =>
  HM.pure (true, ())) HM.pure))

theorem law13_IdsRound_den (p0 : Slc) (p1 : Int) : denFn Try.prog [7, 8, 9, 10, 11, 12] 69 [0, 1, 4, 5, 6, 8, 9, 10, 11, 19, 20, 21, 22, 33, 38, 39, 40, 46, 67] [0, 1, 5, 6, 8, 9, 10, 11, 19, 20, 21, 22, 33, 38, 39, 40, 46, 67] Try.f3.results.toList [.one .bool] (bodyOf Try.f3) [Kind.val (.one .slc) p0, Kind.val (.one (.int .i64)) p1] = law13_IdsRound p0 p1 := by kernel_rfl
theorem law13_IdsRound_calls (p0 : Slc) (p1 : Int) (h : Heap) (Q : Value → Heap → Prop) (hh : law13_IdsRound p0 p1 h fun x h' => Q (.bool x.1) h') :
    HCalls Try.prog 3 #[.slice p0.a p0.len p0.cap, .int .i64 p1] h Q := by
  rw [← law13_IdsRound_den] at hh
  exact calls_of_den Try.func3 (by kernel_rfl) Try.ntmps3 (by kernel_rfl) (fun f hf => by
      rcases List.mem_cons.1 hf with rfl | hf
      · exact Try.call7
      rcases List.mem_cons.1 hf with rfl | hf
      · exact Try.call8
      rcases List.mem_cons.1 hf with rfl | hf
      · exact Try.call9
      rcases List.mem_cons.1 hf with rfl | hf
      · exact Try.call10
      rcases List.mem_cons.1 hf with rfl | hf
      · exact Try.call11
      rcases List.mem_cons.1 hf with rfl | hf
      · exact Try.call12
      cases hf) orders hh

/-- aqueduct/aqueductlaw13.IdsPlays -/
def law13_IdsPlays (p0 : Int) (p1 : Slc) : HM (Bool × Unit) :=
  HM.bind (α := Option Addr) (HM.call1 Try.prog (.one .ptr) 7 #[.int .i64 p0]) fun (x1 : Option Addr) =>
  HM.bind (α := Option Addr) (HM.call1 Try.prog (.one .ptr) 13 #[.int .i64 p0]) fun (x2 : Option Addr) =>
  HM.bind (α := Bool) (HM.call1 Try.prog (.one .bool) 10 #[]) fun (x3 : Bool) =>
  HM.ite (!x3) (
  HM.pure (false, ())) (
  HM.bind (α := Slc) (HM.slice p1 none (some (if 60 < (((p1.len : Nat) : Int) : Int) then 60 else ((p1.len : Nat) : Int))) none 3) fun (x4 : Slc) =>
  HM.bind (α := (Int × Unit) ⊕ (Bool × Unit)) (HM.loop (σ := Int × Unit) (τ := (Int × Unit) ⊕ (Bool × Unit)) (fun (x6 : Int × Unit) =>
  HM.ite (decide (x6.1 < (((x4.len : Nat) : Int) : Int))) (
  HM.bind (α := Addr) (HM.idx x4.a x4.len x6.1 3) fun (x7 : Addr) =>
  HM.bind (α := Int × Int × Int × Unit) (HM.loadN [.int .i64, .int .i64, .int .i64] x7) fun (x8 : Int × Int × Int × Unit) =>
  HM.bind (α := Nat) (HM.new (.cells #[.int .i64 0, .int .i64 0, .int .i64 0] 38)) fun (x9 : Nat) =>
  HM.bind (α := Unit) (HM.storeN ⟨x9, 0, none⟩ [.int .i64 x8.1, .int .i64 x8.2.1, .int .i64 x8.2.2.1]) fun (_ : Unit) =>
  HM.bind (α := Int) (HM.load1 (.int .i64) (Addr.add ⟨x9, 0, none⟩ 0)) fun (x10 : Int) =>
  HM.req (4 ≠ (0 : Int)) <|
  HM.bind (α := Bool × Unit) (HM.ite ((Int.tmod x10 4) == 1) (
  HM.pure ((Int.tmod x10 4) == 1, ())) (
  HM.pure ((Int.tmod x10 4) == (-1), ()))) fun (x11 : Bool × Unit) =>
  HM.bind (α := (Unit) ⊕ ((Int × Unit) ⊕ ((Int × Unit) ⊕ (Bool × Unit)))) (HM.ite x11.1 (
  HM.bind (α := Int) (HM.load1 (.int .i64) (Addr.add ⟨x9, 0, none⟩ 1)) fun (x13 : Int) =>
  HM.bind (α := Int) (HM.load1 (.int .i64) (Addr.add ⟨x9, 0, none⟩ 1)) fun (x14 : Int) =>
  HM.bind (α := Int) (HM.call1 Try.prog (.one (.int .u8)) 9 #[.pointer x1, .int .i64 x13]) fun (x15 : Int) =>
  HM.bind (α := Int) (HM.load1 (.int .i64) (Addr.add ⟨x9, 0, none⟩ 1)) fun (x16 : Int) =>
  HM.req ((.int .i64 x16 : Value) = .int .i64 x14) <|
  HM.bind (α := Int) (HM.call1 Try.prog (.one (.int .i64)) 14 #[.pointer x2, .int .i64 x14]) fun (x17 : Int) =>
  HM.ite (!((IntKind.wrap .i64 x15) == x17)) (
  HM.pure (.inr (.inr (.inr (false, ()))))) (
  HM.pure (.inl ()))) (
  HM.bind (α := Bool × Unit) (HM.ite ((Int.tmod x10 4) == 2) (
  HM.pure ((Int.tmod x10 4) == 2, ())) (
  HM.pure ((Int.tmod x10 4) == (-2), ()))) fun (x18 : Bool × Unit) =>
  HM.bind (α := (Unit) ⊕ ((Unit) ⊕ ((Int × Unit) ⊕ ((Int × Unit) ⊕ (Bool × Unit))))) (HM.ite x18.1 (
  HM.bind (α := Int) (HM.load1 (.int .i64) (Addr.add ⟨x9, 0, none⟩ 1)) fun (x20 : Int) =>
  HM.bind (α := Int) (HM.load1 (.int .i64) (Addr.add ⟨x9, 0, none⟩ 1)) fun (x21 : Int) =>
  HM.bind (α := Bool) (HM.call1 Try.prog (.one .bool) 12 #[.pointer x1, .int .i64 x20]) fun (x22 : Bool) =>
  HM.bind (α := Int) (HM.load1 (.int .i64) (Addr.add ⟨x9, 0, none⟩ 1)) fun (x23 : Int) =>
  HM.req ((.int .i64 x23 : Value) = .int .i64 x21) <|
  HM.bind (α := Bool) (HM.call1 Try.prog (.one .bool) 15 #[.pointer x2, .int .i64 x21]) fun (x24 : Bool) =>
  HM.ite (!(x22 == x24)) (
  HM.pure (.inr (.inr (.inr (.inr (false, ())))))) (
  HM.pure (.inl ()))) (
  HM.bind (α := Int) (HM.load1 (.int .i64) (Addr.add ⟨x9, 0, none⟩ 2)) fun (x25 : Int) =>
  HM.req (70 ≠ (0 : Int)) <|
  HM.bind (α := (Int × Unit) ⊕ ((Unit) ⊕ ((Unit) ⊕ ((Int × Unit) ⊕ ((Int × Unit) ⊕ (Bool × Unit)))))) (HM.loop (σ := Int × Unit) (τ := (Int × Unit) ⊕ ((Unit) ⊕ ((Unit) ⊕ ((Int × Unit) ⊕ ((Int × Unit) ⊕ (Bool × Unit)))))) (fun (x27 : Int × Unit) =>
  HM.ite (decide (x27.1 < ((IntKind.wrap .i64 (1 + (Int.tmod (if 0 < (x25 : Int) then x25 else 0) 70))) : Int))) (
  HM.bind (α := Int × Int × Unit) (HM.callN Try.prog [.one (.int .i64), .one (.int .u8)] 11 #[.pointer x1]) fun (x28 : Int × Int × Unit) =>
  HM.bind (α := Int × Int × Unit) (HM.callN Try.prog [.one (.int .i64), .one (.int .i64)] 16 #[.pointer x2]) fun (x29 : Int × Int × Unit) =>
  HM.bind (α := Bool × Unit) (HM.ite (!(x28.1 == x29.1)) (
  HM.pure (true, ())) (
  HM.pure (!((IntKind.wrap .i64 x28.2.1) == x29.2.1), ()))) fun (x30 : Bool × Unit) =>
  HM.ite x30.1 (
  HM.pure (.inr (.inr (.inr (.inr (.inr (.inr (false, ())))))))) (
  HM.pure (.inl (IntKind.wrap .i64 (x27.1 + 1), ())))) (
  HM.pure (.inr (.inl (x27.1, ()))))) (0, ())) (Sum.elim (fun (x26 : Int × Unit) =>
  HM.pure (.inl ())) HM.pure))) (Sum.elim (fun (x19 : Unit) =>
  HM.pure (.inl ())) HM.pure))) (Sum.elim (fun (x12 : Unit) =>
  HM.bind (α := Bool × Unit) (HM.bind (α := Addr) (HM.nonnil x2) fun (x31 : Addr) =>
  HM.bind (α := Slc) (HM.load1 .slc (Addr.add x31 2)) fun (x32 : Slc) =>
  HM.bind (α := Slc) (HM.call1 Try.prog (.one .slc) 18 #[.pointer x1]) fun (x33 : Slc) =>
  HM.bind (α := Slc) (HM.load1 .slc (Addr.add x31 2)) fun (x34 : Slc) =>
  HM.req ((.slice x34.a x34.len x34.cap : Value) = .slice x32.a x32.len x32.cap) <|
  HM.bind (α := Bool) (HM.call1 Try.prog (.one .bool) 17 #[.slice x33.a x33.len x33.cap, .slice x32.a x32.len x32.cap]) fun (x35 : Bool) =>
  HM.ite (!x35) (
  HM.pure (true, ())) (
  HM.bind (α := Addr) (HM.nonnil x2) fun (x36 : Addr) =>
  HM.bind (α := Int) (HM.load1 (.int .i64) (Addr.add x36 0)) fun (x37 : Int) =>
  HM.bind (α := Addr) (HM.nonnil x2) fun (x38 : Addr) =>
  HM.bind (α := Slc) (HM.load1 .slc (Addr.add x38 2)) fun (x39 : Slc) =>
  HM.bind (α := Int) (HM.call1 Try.prog (.one (.int .i64)) 8 #[.pointer x1]) fun (x40 : Int) =>
  HM.req ((.int .i64 ((x39.len : Nat) : Int) : Value) = .int .i64 ((x39.len : Nat) : Int)) <|
  HM.bind (α := Slc) (HM.load1 .slc (Addr.add x38 2)) fun (x41 : Slc) =>
  HM.req ((.slice x41.a x41.len x41.cap : Value) = .slice x39.a x39.len x39.cap) <|
  HM.bind (α := Int) (HM.load1 (.int .i64) (Addr.add x36 0)) fun (x42 : Int) =>
  HM.req ((.int .i64 x42 : Value) = .int .i64 x37) <|
  HM.pure (!(x40 == (IntKind.wrap .i64 (x37 - ((x39.len : Nat) : Int)))), ()))) fun (x43 : Bool × Unit) =>
  HM.ite x43.1 (
  HM.pure (.inr (.inr (false, ())))) (
  HM.pure (.inl (IntKind.wrap .i64 (x6.1 + 1), ())))) HM.pure)) (
  HM.pure (.inr (.inl (x6.1, ()))))) (0, ())) (Sum.elim (fun (x5 : Int × Unit) =>
  HM.pure (true, ())) HM.pure))

theorem law13_IdsPlays_den (p0 : Int) (p1 : Slc) : denFn Try.prog [7, 13, 10, 9, 14, 12, 15, 11, 16, 18, 17, 8] 108 [0, 1, 4, 5, 6, 8, 9, 10, 11, 12, 18, 23, 24, 25, 26, 31, 36, 37, 38, 57, 59, 71, 72, 83, 106] [0, 1, 5, 6, 8, 9, 10, 11, 12, 18, 23, 24, 25, 26, 31, 36, 37, 38, 57, 59, 71, 72, 83, 106] Try.f4.results.toList [.one .bool] (bodyOf Try.f4) [Kind.val (.one (.int .i64)) p0, Kind.val (.one .slc) p1] = law13_IdsPlays p0 p1 := by kernel_rfl
theorem law13_IdsPlays_calls (p0 : Int) (p1 : Slc) (h : Heap) (Q : Value → Heap → Prop) (hh : law13_IdsPlays p0 p1 h fun x h' => Q (.bool x.1) h') :
    HCalls Try.prog 4 #[.int .i64 p0, .slice p1.a p1.len p1.cap] h Q := by
  rw [← law13_IdsPlays_den] at hh
  exact calls_of_den Try.func4 (by kernel_rfl) Try.ntmps4 (by kernel_rfl) (fun f hf => by
      rcases List.mem_cons.1 hf with rfl | hf
      · exact Try.call7
      rcases List.mem_cons.1 hf with rfl | hf
      · exact Try.call13
      rcases List.mem_cons.1 hf with rfl | hf
      · exact Try.call10
      rcases List.mem_cons.1 hf with rfl | hf
      · exact Try.call9
      rcases List.mem_cons.1 hf with rfl | hf
      · exact Try.call14
      rcases List.mem_cons.1 hf with rfl | hf
      · exact Try.call12
      rcases List.mem_cons.1 hf with rfl | hf
      · exact Try.call15
      rcases List.mem_cons.1 hf with rfl | hf
      · exact Try.call11
      rcases List.mem_cons.1 hf with rfl | hf
      · exact Try.call16
      rcases List.mem_cons.1 hf with rfl | hf
      · exact Try.call18
      rcases List.mem_cons.1 hf with rfl | hf
      · exact Try.call17
      rcases List.mem_cons.1 hf with rfl | hf
      · exact Try.call8
      cases hf) orders hh

/-- aqueduct/aqueductlaw13.IdsHeld -/
def law13_IdsHeld (p0 : Int) (p1 : Slc) : HM (Bool × Unit) :=
  HM.bind (α := Option Addr) (HM.call1 Try.prog (.one .ptr) 7 #[.int .i64 p0]) fun (x1 : Option Addr) =>
  HM.bind (α := Nat) (HM.new (.map #[] 0)) fun (x2 : Nat) =>
  HM.bind (α := Slc) (HM.slice p1 none (some (if 100 < (((p1.len : Nat) : Int) : Int) then 100 else ((p1.len : Nat) : Int))) none 3) fun (x3 : Slc) =>
  HM.bind (α := (Int × Unit) ⊕ (Bool × Unit)) (HM.loop (σ := Int × Unit) (τ := (Int × Unit) ⊕ (Bool × Unit)) (fun (x5 : Int × Unit) =>
  HM.ite (decide (x5.1 < (((x3.len : Nat) : Int) : Int))) (
  HM.bind (α := Addr) (HM.idx x3.a x3.len x5.1 3) fun (x6 : Addr) =>
  HM.bind (α := Int × Int × Int × Unit) (HM.loadN [.int .i64, .int .i64, .int .i64] x6) fun (x7 : Int × Int × Int × Unit) =>
  HM.bind (α := Nat) (HM.new (.cells #[.int .i64 0, .int .i64 0, .int .i64 0] 38)) fun (x8 : Nat) =>
  HM.bind (α := Unit) (HM.storeN ⟨x8, 0, none⟩ [.int .i64 x7.1, .int .i64 x7.2.1, .int .i64 x7.2.2.1]) fun (_ : Unit) =>
  HM.bind (α := Int) (HM.load1 (.int .i64) (Addr.add ⟨x8, 0, none⟩ 0)) fun (x9 : Int) =>
  HM.req (4 ≠ (0 : Int)) <|
  HM.bind (α := Bool × Unit) (HM.ite ((Int.tmod x9 4) == 1) (
  HM.pure ((Int.tmod x9 4) == 1, ())) (
  HM.pure ((Int.tmod x9 4) == (-1), ()))) fun (x10 : Bool × Unit) =>
  HM.bind (α := (Unit) ⊕ ((Int × Unit) ⊕ ((Int × Unit) ⊕ (Bool × Unit)))) (HM.ite x10.1 (
  HM.bind (α := Int) (HM.load1 (.int .i64) (Addr.add ⟨x8, 0, none⟩ 1)) fun (x12 : Int) =>
  HM.bind (α := Int) (HM.call1 Try.prog (.one (.int .u8)) 9 #[.pointer x1, .int .i64 x12]) fun (x13 : Int) =>
  HM.bind (α := (Unit) ⊕ ((Unit) ⊕ ((Int × Unit) ⊕ ((Int × Unit) ⊕ (Bool × Unit))))) (HM.ite (x13 == 0) (
  HM.bind (α := Bool × Unit) (HM.bind (α := Int) (HM.load1 (.int .i64) (Addr.add ⟨x8, 0, none⟩ 1)) fun (x15 : Int) =>
  HM.bind (α := Bool × Bool) (HM.lookup (.int .i64) (.bool false) (.one .bool) (some x2) (.int .i64 x15)) fun (x16 : Bool × Bool) =>
  HM.ite x16.1 (
  HM.pure (true, ())) (
  HM.bind (α := Int) (HM.load1 (.int .i64) (Addr.add ⟨x8, 0, none⟩ 1)) fun (x17 : Int) =>
  HM.ite (decide (x17 < (1 : Int))) (
  HM.pure (true, ())) (
  HM.bind (α := Int) (HM.load1 (.int .i64) (Addr.add ⟨x8, 0, none⟩ 1)) fun (x18 : Int) =>
  HM.pure (decide (65535 < (x18 : Int)), ())))) fun (x19 : Bool × Unit) =>
  HM.ite x19.1 (
  HM.pure (.inr (.inr (.inr (.inr (false, ())))))) (
  HM.bind (α := Int) (HM.load1 (.int .i64) (Addr.add ⟨x8, 0, none⟩ 1)) fun (x20 : Int) =>
  HM.bind (α := Unit) (HM.mapSet (.int .i64) (some x2) (.int .i64 x20) (.bool true)) fun (_ : Unit) =>
  HM.pure (.inl ()))) (
  HM.pure (.inl ()))) (Sum.elim (fun (x14 : Unit) =>
  HM.pure (.inl ())) HM.pure)) (
  HM.bind (α := Bool × Unit) (HM.ite ((Int.tmod x9 4) == 2) (
  HM.pure ((Int.tmod x9 4) == 2, ())) (
  HM.pure ((Int.tmod x9 4) == (-2), ()))) fun (x21 : Bool × Unit) =>
  HM.bind (α := (Unit) ⊕ ((Unit) ⊕ ((Int × Unit) ⊕ ((Int × Unit) ⊕ (Bool × Unit))))) (HM.ite x21.1 (
  HM.bind (α := Int) (HM.load1 (.int .i64) (Addr.add ⟨x8, 0, none⟩ 1)) fun (x23 : Int) =>
  HM.bind (α := Int) (HM.load1 (.int .i64) (Addr.add ⟨x8, 0, none⟩ 1)) fun (x24 : Int) =>
  HM.bind (α := Bool × Bool) (HM.lookup (.int .i64) (.bool false) (.one .bool) (some x2) (.int .i64 x24)) fun (x25 : Bool × Bool) =>
  HM.bind (α := Bool) (HM.call1 Try.prog (.one .bool) 12 #[.pointer x1, .int .i64 x23]) fun (x26 : Bool) =>
  HM.bind (α := Bool × Bool) (HM.lookup (.int .i64) (.bool false) (.one .bool) (some x2) (.int .i64 x24)) fun (x27 : Bool × Bool) =>
  HM.req ((.bool x27.1 : Value) = .bool x25.1) <|
  HM.bind (α := Int) (HM.load1 (.int .i64) (Addr.add ⟨x8, 0, none⟩ 1)) fun (x28 : Int) =>
  HM.req ((.int .i64 x28 : Value) = .int .i64 x24) <|
  HM.ite (!(x26 == x25.1)) (
  HM.pure (.inr (.inr (.inr (.inr (false, ())))))) (
  HM.bind (α := Int) (HM.load1 (.int .i64) (Addr.add ⟨x8, 0, none⟩ 1)) fun (x29 : Int) =>
  HM.bind (α := Unit) (HM.mapDel (.int .i64) (some x2) (.int .i64 x29)) fun (_ : Unit) =>
  HM.pure (.inl ()))) (
  HM.bind (α := Int × Int × Unit) (HM.callN Try.prog [.one (.int .i64), .one (.int .u8)] 11 #[.pointer x1]) fun (x30 : Int × Int × Unit) =>
  HM.bind (α := (Unit) ⊕ ((Unit) ⊕ ((Unit) ⊕ ((Int × Unit) ⊕ ((Int × Unit) ⊕ (Bool × Unit)))))) (HM.ite (x30.2.1 == 0) (
  HM.bind (α := Bool × Unit) (HM.bind (α := Bool × Bool) (HM.lookup (.int .i64) (.bool false) (.one .bool) (some x2) (.int .i64 x30.1)) fun (x32 : Bool × Bool) =>
  HM.ite x32.1 (
  HM.pure (true, ())) (
  HM.ite (decide (x30.1 < (1 : Int))) (
  HM.pure (true, ())) (
  HM.pure (decide (65535 < (x30.1 : Int)), ())))) fun (x33 : Bool × Unit) =>
  HM.ite x33.1 (
  HM.pure (.inr (.inr (.inr (.inr (.inr (false, ()))))))) (
  HM.bind (α := Unit) (HM.mapSet (.int .i64) (some x2) (.int .i64 x30.1) (.bool true)) fun (_ : Unit) =>
  HM.pure (.inl ()))) (
  HM.pure (.inl ()))) (Sum.elim (fun (x31 : Unit) =>
  HM.pure (.inl ())) HM.pure))) (Sum.elim (fun (x22 : Unit) =>
  HM.pure (.inl ())) HM.pure))) (Sum.elim (fun (x11 : Unit) =>
  HM.bind (α := Bool × Unit) (HM.bind (α := Slc) (HM.call1 Try.prog (.one .slc) 18 #[.pointer x1]) fun (x34 : Slc) =>
  HM.bind (α := Int) (HM.mapLen (some x2)) fun (x35 : Int) =>
  HM.ite (!(((x34.len : Nat) : Int) == x35)) (
  HM.pure (true, ())) (
  HM.bind (α := Int) (HM.mapLen (some x2)) fun (x36 : Int) =>
  HM.ite (decide ((if 1 < ((if 64 < (p0 : Int) then 64 else p0) : Int) then (if 64 < (p0 : Int) then 64 else p0) else 1) < (x36 : Int))) (
  HM.pure (true, ())) (
  HM.bind (α := Int) (HM.call1 Try.prog (.one (.int .i64)) 8 #[.pointer x1]) fun (x37 : Int) =>
  HM.pure (decide (x37 < (0 : Int)), ())))) fun (x38 : Bool × Unit) =>
  HM.ite x38.1 (
  HM.pure (.inr (.inr (false, ())))) (
  HM.pure (.inl (IntKind.wrap .i64 (x5.1 + 1), ())))) HM.pure)) (
  HM.pure (.inr (.inl (x5.1, ()))))) (0, ())) (Sum.elim (fun (x4 : Int × Unit) =>
  HM.bind (α := Bool) (HM.call1 Try.prog (.one .bool) 10 #[]) fun (x39 : Bool) =>
  HM.pure (x39, ())) HM.pure)

theorem law13_IdsHeld_den (p0 : Int) (p1 : Slc) : denFn Try.prog [7, 9, 12, 11, 18, 8, 10] 110 [0, 1, 4, 5, 6, 8, 9, 10, 11, 19, 20, 21, 22, 27, 34, 45, 48, 56, 70, 74, 85, 107] [0, 1, 5, 6, 8, 9, 10, 11, 19, 20, 21, 22, 27, 34, 45, 48, 56, 70, 74, 85, 107] Try.f5.results.toList [.one .bool] (bodyOf Try.f5) [Kind.val (.one (.int .i64)) p0, Kind.val (.one .slc) p1] = law13_IdsHeld p0 p1 := by kernel_rfl
theorem law13_IdsHeld_calls (p0 : Int) (p1 : Slc) (h : Heap) (Q : Value → Heap → Prop) (hh : law13_IdsHeld p0 p1 h fun x h' => Q (.bool x.1) h') :
    HCalls Try.prog 5 #[.int .i64 p0, .slice p1.a p1.len p1.cap] h Q := by
  rw [← law13_IdsHeld_den] at hh
  exact calls_of_den Try.func5 (by kernel_rfl) Try.ntmps5 (by kernel_rfl) (fun f hf => by
      rcases List.mem_cons.1 hf with rfl | hf
      · exact Try.call7
      rcases List.mem_cons.1 hf with rfl | hf
      · exact Try.call9
      rcases List.mem_cons.1 hf with rfl | hf
      · exact Try.call12
      rcases List.mem_cons.1 hf with rfl | hf
      · exact Try.call11
      rcases List.mem_cons.1 hf with rfl | hf
      · exact Try.call18
      rcases List.mem_cons.1 hf with rfl | hf
      · exact Try.call8
      rcases List.mem_cons.1 hf with rfl | hf
      · exact Try.call10
      cases hf) orders hh

/-- slices.Sorted[int] -/
def slices_Sorted (p0 : Value) : HM (Slc × Unit) :=
  HM.bind (α := Slc) (HM.call1 Try.prog (.one .slc) 23 #[p0]) fun (x1 : Slc) =>
  HM.bind (α := Unit) (HM.callN Try.prog [] 24 #[.slice x1.a x1.len x1.cap]) fun (x2 : Unit) =>
  HM.pure (x1, ())

theorem slices_Sorted_den (p0 : Value) : denFn Try.prog [23, 24] 9 [0, 2, 3] [0, 3] Try.f21.results.toList [.one .slc] (bodyOf Try.f21) [Kind.val (.one .any) p0] = slices_Sorted p0 := by kernel_rfl
theorem slices_Sorted_calls (p0 : Value) (h : Heap) (Q : Value → Heap → Prop) (hh : slices_Sorted p0 h fun x h' => Q (.slice x.1.a x.1.len x.1.cap) h') :
    HCalls Try.prog 21 #[p0] h Q := by
  rw [← slices_Sorted_den] at hh
  exact calls_of_den Try.func21 (by kernel_rfl) Try.ntmps21 (by kernel_rfl) (fun f hf => by
      rcases List.mem_cons.1 hf with rfl | hf
      · exact Try.call23
      rcases List.mem_cons.1 hf with rfl | hf
      · exact Try.call24
      cases hf) orders hh

/-- maps.Keys[map[int]bool,int,bool] -/
def maps_Keys (p0 : Option Nat) : HM (Value × Unit) :=
  HM.bind (α := Nat) (HM.new (.cells #[.map p0] 25)) fun (x1 : Nat) =>
  HM.pure (.func (.func 25) #[] #[.pointer (some ⟨x1, 0, none⟩)], ())

theorem maps_Keys_den (p0 : Option Nat) : denFn Try.prog [] 4 [0, 1, 2] [0, 1] Try.f22.results.toList [.one .any] (bodyOf Try.f22) [Kind.val (.one .map) p0] = maps_Keys p0 := by kernel_rfl
theorem maps_Keys_calls (p0 : Option Nat) (h : Heap) (Q : Value → Heap → Prop) (hh : maps_Keys p0 h fun x h' => Q (x.1) h') :
    HCalls Try.prog 22 #[.map p0] h Q := by
  rw [← maps_Keys_den] at hh
  exact calls_of_den Try.func22 (by kernel_rfl) Try.ntmps22 (by kernel_rfl) (fun f hf => by cases hf) orders hh

/-- slices.Collect[int] -/
def slices_Collect (p0 : Value) : HM (Slc × Unit) :=
  HM.bind (α := Slc) (HM.call1 Try.prog (.one .slc) 26 #[.slice none 0 0, p0]) fun (x1 : Slc) =>
  HM.pure (x1, ())

theorem slices_Collect_den (p0 : Value) : denFn Try.prog [26] 5 [0, 2] [0] Try.f23.results.toList [.one .slc] (bodyOf Try.f23) [Kind.val (.one .any) p0] = slices_Collect p0 := by kernel_rfl
theorem slices_Collect_calls (p0 : Value) (h : Heap) (Q : Value → Heap → Prop) (hh : slices_Collect p0 h fun x h' => Q (.slice x.1.a x.1.len x.1.cap) h') :
    HCalls Try.prog 23 #[p0] h Q := by
  rw [← slices_Collect_den] at hh
  exact calls_of_den Try.func23 (by kernel_rfl) Try.ntmps23 (by kernel_rfl) (fun f hf => by
      rcases List.mem_cons.1 hf with rfl | hf
      · exact Try.call26
      cases hf) orders hh

end Go.Proofs.Ythedaikdfhopoaa
