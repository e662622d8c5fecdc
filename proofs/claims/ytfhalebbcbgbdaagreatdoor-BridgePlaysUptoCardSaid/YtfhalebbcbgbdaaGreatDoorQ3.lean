/-
  Q3: what the proof BridgePlaysProof reaches of our texts: Sg.
-/
import Derived.Test.YtfhalebbcbgbdaaGreatDoorQ2
import Derived.Test.YtfhalebbcbgbdaaGreatDoorProg
import Derived.KernelRfl
namespace Go.Proofs.YtfhalebbcbgbdaaGreatDoor
open Go.H Go.Proofs
set_option linter.unusedVariables false
set_option linter.unusedSimpArgs false
set_option maxRecDepth 100000
set_option maxHeartbeats 4000000
def bridge_Delay (p0 : Int) (p1 : Int) (p2 : Int) (p3 : Int) : HM (Int × Unit) :=
  HM.bind (α := Int × Int × Unit) (HM.loop (σ := Int × Int × Unit) (τ := Int × Int × Unit) (fun x2 =>
  HM.bind (α := Bool × Unit) (HM.ite (decide (0 < (x2.2.1 : Int))) (
  HM.pure (decide (x2.1 < ((if (if 1 < ((if 1048576 < (p1 : Int) then 1048576 else p1) : Int) then (if 1048576 < (p1 : Int) then 1048576 else p1) else 1) < ((if 1048576 < (p2 : Int) then 1048576 else p2) : Int) then (if 1048576 < (p2 : Int) then 1048576 else p2) else (if 1 < ((if 1048576 < (p1 : Int) then 1048576 else p1) : Int) then (if 1048576 < (p1 : Int) then 1048576 else p1) else 1)) : Int)), ())) (
  HM.pure (false, ()))) fun x3 =>
  HM.ite x3.1 (
  HM.pure (.inl (IntKind.wrap .i64 (x2.1 * 2), IntKind.wrap .i64 (x2.2.1 - 1), ()))) (
  HM.pure (.inr (x2.1, x2.2.1, ())))) (if 1 < ((if 1048576 < (p1 : Int) then 1048576 else p1) : Int) then (if 1048576 < (p1 : Int) then 1048576 else p1) else 1, p0, ())) fun x1 =>
  HM.req (2 ≠ (0 : Int)) <|
  HM.req ((IntKind.wrap .u64 (IntKind.wrap .i64 ((IntKind.wrap .i64 (Int.tdiv (if (if (if 1 < ((if 1048576 < (p1 : Int) then 1048576 else p1) : Int) then (if 1048576 < (p1 : Int) then 1048576 else p1) else 1) < ((if 1048576 < (p2 : Int) then 1048576 else p2) : Int) then (if 1048576 < (p2 : Int) then 1048576 else p2) else (if 1 < ((if 1048576 < (p1 : Int) then 1048576 else p1) : Int) then (if 1048576 < (p1 : Int) then 1048576 else p1) else 1)) < (x1.1 : Int) then (if (if 1 < ((if 1048576 < (p1 : Int) then 1048576 else p1) : Int) then (if 1048576 < (p1 : Int) then 1048576 else p1) else 1) < ((if 1048576 < (p2 : Int) then 1048576 else p2) : Int) then (if 1048576 < (p2 : Int) then 1048576 else p2) else (if 1 < ((if 1048576 < (p1 : Int) then 1048576 else p1) : Int) then (if 1048576 < (p1 : Int) then 1048576 else p1) else 1)) else x1.1) 2)) + 1))) ≠ (0 : Int)) <|
  HM.pure (IntKind.wrap .i64 ((if (if (if 1 < ((if 1048576 < (p1 : Int) then 1048576 else p1) : Int) then (if 1048576 < (p1 : Int) then 1048576 else p1) else 1) < ((if 1048576 < (p2 : Int) then 1048576 else p2) : Int) then (if 1048576 < (p2 : Int) then 1048576 else p2) else (if 1 < ((if 1048576 < (p1 : Int) then 1048576 else p1) : Int) then (if 1048576 < (p1 : Int) then 1048576 else p1) else 1)) < (x1.1 : Int) then (if (if 1 < ((if 1048576 < (p1 : Int) then 1048576 else p1) : Int) then (if 1048576 < (p1 : Int) then 1048576 else p1) else 1) < ((if 1048576 < (p2 : Int) then 1048576 else p2) : Int) then (if 1048576 < (p2 : Int) then 1048576 else p2) else (if 1 < ((if 1048576 < (p1 : Int) then 1048576 else p1) : Int) then (if 1048576 < (p1 : Int) then 1048576 else p1) else 1)) else x1.1) + (IntKind.wrap .i64 (Int.tmod p3 (IntKind.wrap .u64 (IntKind.wrap .i64 ((IntKind.wrap .i64 (Int.tdiv (if (if (if 1 < ((if 1048576 < (p1 : Int) then 1048576 else p1) : Int) then (if 1048576 < (p1 : Int) then 1048576 else p1) else 1) < ((if 1048576 < (p2 : Int) then 1048576 else p2) : Int) then (if 1048576 < (p2 : Int) then 1048576 else p2) else (if 1 < ((if 1048576 < (p1 : Int) then 1048576 else p1) : Int) then (if 1048576 < (p1 : Int) then 1048576 else p1) else 1)) < (x1.1 : Int) then (if (if 1 < ((if 1048576 < (p1 : Int) then 1048576 else p1) : Int) then (if 1048576 < (p1 : Int) then 1048576 else p1) else 1) < ((if 1048576 < (p2 : Int) then 1048576 else p2) : Int) then (if 1048576 < (p2 : Int) then 1048576 else p2) else (if 1 < ((if 1048576 < (p1 : Int) then 1048576 else p1) : Int) then (if 1048576 < (p1 : Int) then 1048576 else p1) else 1)) else x1.1) 2)) + 1)))))), ())
theorem bridge_Delay_den (p0 : Int) (p1 : Int) (p2 : Int) (p3 : Int) : denFn Tryz.prog [] 40 [0, 1, 2, 3, 8, 9, 23] [0, 1, 2, 3, 9, 23] Tryz.f34.results.toList [.one (.int .i64)] (bodyOf Tryz.f34) [Kind.val (.one (.int .i64)) p0, Kind.val (.one (.int .i64)) p1, Kind.val (.one (.int .i64)) p2, Kind.val (.one (.int .u64)) p3] = bridge_Delay p0 p1 p2 p3 := by kernel_rfl
theorem bridge_Delay_calls (p0 : Int) (p1 : Int) (p2 : Int) (p3 : Int) (h : Heap) (Q : Value → Heap → Prop) (hh : bridge_Delay p0 p1 p2 p3 h fun x h' => Q (.int .i64 x.1) h') :
    HCalls Tryz.prog 34 #[.int .i64 p0, .int .i64 p1, .int .i64 p2, .int .u64 p3] h Q :=
  calls_of_eq Tryz.func34 (by kernel_rfl) Tryz.ntmps34 (by kernel_rfl) CN orders (bridge_Delay_den p0 p1 p2 p3) hh
def law23_rule (p0 : ByteArray × Int × Int × ByteArray × ByteArray × Unit) : HM ((ByteArray × Int × Int × ByteArray × ByteArray × Unit) × (ByteArray × Int × Int × ByteArray × ByteArray × Unit) × Unit) :=
  HM.bind (α := Nat) (HM.new (.cells #[.string p0.1, .int .i64 p0.2.1, .int .i64 p0.2.2.1, .string p0.2.2.2.1, .string p0.2.2.2.2.1] 127)) fun x1 =>
  HM.bind (α := Nat) (HM.new (.cells #[.string (ByteArray.mk #[]), .int .i64 0, .int .i64 0, .string (ByteArray.mk #[]), .string (ByteArray.mk #[])] 123)) fun x2 =>
  HM.bind (α := Nat) (HM.new (.cells #[.string (ByteArray.mk #[]), .int .i64 0, .int .i64 0, .string (ByteArray.mk #[]), .string (ByteArray.mk #[])] 128)) fun x3 =>
  HM.bind (α := ByteArray) (HM.load1 .str (Addr.add ⟨x1, 0, none⟩ 0)) fun x4 =>
  HM.bind (α := Int) (HM.load1 (.int .i64) (Addr.add ⟨x1, 0, none⟩ 1)) fun x5 =>
  HM.bind (α := Int) (HM.load1 (.int .i64) (Addr.add ⟨x1, 0, none⟩ 2)) fun x6 =>
  HM.bind (α := ByteArray) (HM.load1 .str (Addr.add ⟨x1, 0, none⟩ 3)) fun x7 =>
  HM.bind (α := ByteArray) (HM.load1 .str (Addr.add ⟨x1, 0, none⟩ 4)) fun x8 =>
  HM.bind (α := ByteArray × Int × Int × ByteArray × ByteArray × Unit) (HM.loadN [.str, .int .i64, .int .i64, .str, .str] ⟨x1, 0, none⟩) fun x9 =>
  HM.bind (α := Unit) (HM.storeN ⟨x2, 0, none⟩ [.string x4, .int .i64 x5, .int .i64 x6, .string x7, .string x8]) fun _ =>
  HM.bind (α := ByteArray × Int × Int × ByteArray × ByteArray × Unit) (HM.loadN [.str, .int .i64, .int .i64, .str, .str] ⟨x1, 0, none⟩) fun x10 =>
  HM.req ((.agg #[.string x10.1, .int .i64 x10.2.1, .int .i64 x10.2.2.1, .string x10.2.2.2.1, .string x10.2.2.2.2.1] : Value) = .agg #[.string x9.1, .int .i64 x9.2.1, .int .i64 x9.2.2.1, .string x9.2.2.2.1, .string x9.2.2.2.2.1]) <|
  HM.bind (α := Unit) (HM.storeN ⟨x3, 0, none⟩ [.string x9.1, .int .i64 x9.2.1, .int .i64 x9.2.2.1, .string x9.2.2.2.1, .string x9.2.2.2.2.1]) fun _ =>
  HM.bind (α := ByteArray × Int × Int × ByteArray × ByteArray × Unit) (HM.loadN [.str, .int .i64, .int .i64, .str, .str] ⟨x2, 0, none⟩) fun x11 =>
  HM.bind (α := ByteArray × Int × Int × ByteArray × ByteArray × Unit) (HM.loadN [.str, .int .i64, .int .i64, .str, .str] ⟨x3, 0, none⟩) fun x12 =>
  HM.pure ((x11.1, x11.2.1, x11.2.2.1, x11.2.2.2.1, x11.2.2.2.2.1, ()), (x12.1, x12.2.1, x12.2.2.1, x12.2.2.2.1, x12.2.2.2.2.1, ()), ())
theorem law23_rule_den (p0 : ByteArray × Int × Int × ByteArray × ByteArray × Unit) : denFn Tryz.prog [] 16 [0, 1, 2, 3] [0, 1, 2, 3] Tryz.f35.results.toList [.agg [.str, .int .i64, .int .i64, .str, .str], .agg [.str, .int .i64, .int .i64, .str, .str]] (bodyOf Tryz.f35) [Kind.val (.agg [.str, .int .i64, .int .i64, .str, .str]) p0] = law23_rule p0 := by kernel_rfl
theorem law23_rule_calls (p0 : ByteArray × Int × Int × ByteArray × ByteArray × Unit) (h : Heap) (Q : Value → Heap → Prop) (hh : law23_rule p0 h fun x h' => Q (.tuple #[.agg #[.string x.1.1, .int .i64 x.1.2.1, .int .i64 x.1.2.2.1, .string x.1.2.2.2.1, .string x.1.2.2.2.2.1], .agg #[.string x.2.1.1, .int .i64 x.2.1.2.1, .int .i64 x.2.1.2.2.1, .string x.2.1.2.2.2.1, .string x.2.1.2.2.2.2.1]]) h') :
    HCalls Tryz.prog 35 #[.agg #[.string p0.1, .int .i64 p0.2.1, .int .i64 p0.2.2.1, .string p0.2.2.2.1, .string p0.2.2.2.2.1]] h Q :=
  calls_of_eq Tryz.func35 (by kernel_rfl) Tryz.ntmps35 (by kernel_rfl) CN orders (law23_rule_den p0) hh
def remap_Rule_Check (p0 : ByteArray × Int × Int × ByteArray × ByteArray × Unit) : HM (Int × Unit) :=
  HM.bind (α := Nat) (HM.new (.cells #[.string p0.1, .int .i64 p0.2.1, .int .i64 p0.2.2.1, .string p0.2.2.2.1, .string p0.2.2.2.2.1] 123)) fun x1 =>
  HM.bind (α := ByteArray) (HM.load1 .str (Addr.add ⟨x1, 0, none⟩ 0)) fun x2 =>
  HM.bind (α := Int) (HM.call1 Tryz.prog (.one (.int .u8)) 65 #[.string x2]) fun x3 =>
  HM.ite (!(x3 == 0)) (
  HM.pure (143, ())) (
  HM.bind (α := Bool × Unit) (HM.bind (α := ByteArray) (HM.load1 .str (Addr.add ⟨x1, 0, none⟩ 3)) fun x4 =>
  HM.bind (α := Bool) (HM.call1 Tryz.prog (.one .bool) 66 #[.string x4]) fun x5 =>
  HM.ite (!x5) (
  HM.pure (true, ())) (
  HM.bind (α := ByteArray) (HM.load1 .str (Addr.add ⟨x1, 0, none⟩ 4)) fun x6 =>
  HM.bind (α := Bool) (HM.call1 Tryz.prog (.one .bool) 66 #[.string x6]) fun x7 =>
  HM.pure (!x7, ()))) fun x8 =>
  HM.ite x8.1 (
  HM.pure (144, ())) (
  HM.bind (α := Bool × Unit) (HM.bind (α := Int) (HM.load1 (.int .i64) (Addr.add ⟨x1, 0, none⟩ 1)) fun x9 =>
  HM.ite (decide (x9 < (0 : Int))) (
  HM.pure (true, ())) (
  HM.bind (α := Int) (HM.load1 (.int .i64) (Addr.add ⟨x1, 0, none⟩ 1)) fun x10 =>
  HM.pure (decide (2 < (x10 : Int)), ()))) fun x11 =>
  HM.ite x11.1 (
  HM.pure (128, ())) (
  HM.bind (α := Bool × Unit) (HM.bind (α := Int) (HM.load1 (.int .i64) (Addr.add ⟨x1, 0, none⟩ 2)) fun x12 =>
  HM.ite (decide (x12 < (0 : Int))) (
  HM.pure (true, ())) (
  HM.bind (α := Int) (HM.load1 (.int .i64) (Addr.add ⟨x1, 0, none⟩ 2)) fun x13 =>
  HM.pure (decide (2 < (x13 : Int)), ()))) fun x14 =>
  HM.ite x14.1 (
  HM.pure (155, ())) (
  HM.pure (0, ())))))
theorem remap_Rule_Check_den (p0 : ByteArray × Int × Int × ByteArray × ByteArray × Unit) : denFn Tryz.prog [65, 66] 37 [0, 1, 2, 3, 8, 19, 28] [0, 1, 3, 8, 19, 28] Tryz.f36.results.toList [.one (.int .u8)] (bodyOf Tryz.f36) [Kind.val (.agg [.str, .int .i64, .int .i64, .str, .str]) p0] = remap_Rule_Check p0 := by kernel_rfl
theorem remap_Rule_Check_calls (p0 : ByteArray × Int × Int × ByteArray × ByteArray × Unit) (h : Heap) (Q : Value → Heap → Prop) (hh : remap_Rule_Check p0 h fun x h' => Q (.int .u8 x.1) h') :
    HCalls Tryz.prog 36 #[.agg #[.string p0.1, .int .i64 p0.2.1, .int .i64 p0.2.2.1, .string p0.2.2.2.1, .string p0.2.2.2.2.1]] h Q :=
  calls_of_eq Tryz.func36 (by kernel_rfl) Tryz.ntmps36 (by kernel_rfl) (CC Tryz.call65 (CC Tryz.call66 CN)) orders (remap_Rule_Check_den p0) hh
def slices_Clone_Rule (p0 : Slc) : HM (Slc × Unit) :=
  HM.ite (Option.isNone p0.a) (
  HM.pure (⟨none, 0, 0⟩, ())) (
  HM.bind (α := Nat) (HM.new (.cells #[] 123)) fun x1 =>
  HM.bind (α := Slc) (HM.append 123 5 64 #[.string (ByteArray.mk #[]), .int .i64 0, .int .i64 0, .string (ByteArray.mk #[]), .string (ByteArray.mk #[])] (⟨some ⟨x1, 0, none⟩, 0, 0⟩) p0.len (srcSlc 5 p0)) fun x2 =>
  HM.pure (x2, ()))
theorem slices_Clone_Rule_den (p0 : Slc) : denFn Tryz.prog [] 8 [0, 2, 4] [0, 4] Tryz.f37.results.toList [.one .slc] (bodyOf Tryz.f37) [Kind.val (.one .slc) p0] = slices_Clone_Rule p0 := by kernel_rfl
theorem slices_Clone_Rule_calls (p0 : Slc) (h : Heap) (Q : Value → Heap → Prop) (hh : slices_Clone_Rule p0 h fun x h' => Q (.slice x.1.a x.1.len x.1.cap) h') :
    HCalls Tryz.prog 37 #[.slice p0.a p0.len p0.cap] h Q :=
  calls_of_eq Tryz.func37 (by kernel_rfl) Tryz.ntmps37 (by kernel_rfl) CN orders (slices_Clone_Rule_den p0) hh
def outflow_New (p0 : Int) : HM (Option Addr × Unit) :=
  HM.bind (α := Option Addr) (HM.call1 Tryz.prog (.one .ptr) 67 #[.int .i64 64]) fun x1 =>
  HM.bind (α := Int) (HM.call1 Tryz.prog (.one (.int .i64)) 68 #[.int .i64 p0]) fun x2 =>
  HM.bind (α := Nat) (HM.new (.cells #[.pointer x1, .int .i64 x2, .bool false, .slice none 0 0, .slice none 0 0] 178)) fun x3 =>
  HM.pure (some ⟨x3, 0, none⟩, ())
theorem outflow_New_den (p0 : Int) : denFn Tryz.prog [67, 68] 8 [0, 2] [0] Tryz.f38.results.toList [.one .ptr] (bodyOf Tryz.f38) [Kind.val (.one (.int .i64)) p0] = outflow_New p0 := by kernel_rfl
theorem outflow_New_calls (p0 : Int) (h : Heap) (Q : Value → Heap → Prop) (hh : outflow_New p0 h fun x h' => Q (.pointer x.1) h') :
    HCalls Tryz.prog 38 #[.int .i64 p0] h Q :=
  calls_of_eq Tryz.func38 (by kernel_rfl) Tryz.ntmps38 (by kernel_rfl) (CC Tryz.call67 (CC Tryz.call68 CN)) orders (outflow_New_den p0) hh
def ref10_Check (p0 : ByteArray × Int × Int × ByteArray × ByteArray × Unit) : HM (Int × Unit) :=
  HM.bind (α := Nat) (HM.new (.cells #[.string p0.1, .int .i64 p0.2.1, .int .i64 p0.2.2.1, .string p0.2.2.2.1, .string p0.2.2.2.2.1] 128)) fun x1 =>
  HM.bind (α := ByteArray) (HM.load1 .str (Addr.add ⟨x1, 0, none⟩ 0)) fun x2 =>
  HM.bind (α := Int) (HM.call1 Tryz.prog (.one (.int .i64)) 69 #[.string x2]) fun x3 =>
  HM.bind (α := ByteArray) (HM.load1 .str (Addr.add ⟨x1, 0, none⟩ 3)) fun x4 =>
  HM.bind (α := Int) (HM.call1 Tryz.prog (.one (.int .i64)) 70 #[.string x4]) fun x5 =>
  HM.bind (α := ByteArray) (HM.load1 .str (Addr.add ⟨x1, 0, none⟩ 4)) fun x6 =>
  HM.bind (α := Int) (HM.call1 Tryz.prog (.one (.int .i64)) 70 #[.string x6]) fun x7 =>
  HM.ite (!(x3 == 0)) (
  HM.pure (143, ())) (
  HM.bind (α := Bool × Unit) (HM.bind (α := ByteArray) (HM.load1 .str (Addr.add ⟨x1, 0, none⟩ 3)) fun x8 =>
  HM.ite (!(decide (x8 = (ByteArray.mk #[])))) (
  HM.ite (!(x5 == 0)) (
  HM.pure (true, ())) (
  HM.bind (α := ByteArray) (HM.load1 .str (Addr.add ⟨x1, 0, none⟩ 4)) fun x9 =>
  HM.ite (!(decide (x9 = (ByteArray.mk #[])))) (
  HM.pure (!(x7 == 0), ())) (
  HM.pure (false, ())))) (
  HM.bind (α := ByteArray) (HM.load1 .str (Addr.add ⟨x1, 0, none⟩ 4)) fun x10 =>
  HM.ite (!(decide (x10 = (ByteArray.mk #[])))) (
  HM.pure (!(x7 == 0), ())) (
  HM.pure (false, ())))) fun x11 =>
  HM.ite x11.1 (
  HM.pure (144, ())) (
  HM.bind (α := Bool × Unit) (HM.bind (α := Int) (HM.load1 (.int .i64) (Addr.add ⟨x1, 0, none⟩ 1)) fun x12 =>
  HM.ite (decide (x12 < (0 : Int))) (
  HM.pure (true, ())) (
  HM.bind (α := Int) (HM.load1 (.int .i64) (Addr.add ⟨x1, 0, none⟩ 1)) fun x13 =>
  HM.pure (decide (2 < (x13 : Int)), ()))) fun x14 =>
  HM.ite x14.1 (
  HM.pure (128, ())) (
  HM.bind (α := Bool × Unit) (HM.bind (α := Int) (HM.load1 (.int .i64) (Addr.add ⟨x1, 0, none⟩ 2)) fun x15 =>
  HM.ite (decide (x15 < (0 : Int))) (
  HM.pure (true, ())) (
  HM.bind (α := Int) (HM.load1 (.int .i64) (Addr.add ⟨x1, 0, none⟩ 2)) fun x16 =>
  HM.pure (decide (2 < (x16 : Int)), ()))) fun x17 =>
  HM.ite x17.1 (
  HM.pure (155, ())) (
  HM.pure (0, ())))))
theorem ref10_Check_den (p0 : ByteArray × Int × Int × ByteArray × ByteArray × Unit) : denFn Tryz.prog [69, 70] 49 [0, 1, 2, 3, 4, 5, 16, 32, 40, 48] [0, 1, 3, 4, 5, 16, 32, 40, 48] Tryz.f39.results.toList [.one (.int .i64)] (bodyOf Tryz.f39) [Kind.val (.agg [.str, .int .i64, .int .i64, .str, .str]) p0] = ref10_Check p0 := by kernel_rfl
theorem ref10_Check_calls (p0 : ByteArray × Int × Int × ByteArray × ByteArray × Unit) (h : Heap) (Q : Value → Heap → Prop) (hh : ref10_Check p0 h fun x h' => Q (.int .i64 x.1) h') :
    HCalls Tryz.prog 39 #[.agg #[.string p0.1, .int .i64 p0.2.1, .int .i64 p0.2.2.1, .string p0.2.2.2.1, .string p0.2.2.2.2.1]] h Q :=
  calls_of_eq Tryz.func39 (by kernel_rfl) Tryz.ntmps39 (by kernel_rfl) (CC Tryz.call69 (CC Tryz.call70 CN)) orders (ref10_Check_den p0) hh
def ref14_New (p0 : Int) : HM (Option Addr × Unit) :=
  HM.bind (α := Option Addr) (HM.call1 Tryz.prog (.one .ptr) 71 #[.int .i64 64]) fun x1 =>
  HM.bind (α := Int) (HM.call1 Tryz.prog (.one (.int .i64)) 47 #[.int .i64 p0]) fun x2 =>
  HM.bind (α := Nat) (HM.new (.cells #[.pointer x1, .int .i64 x2, .bool false, .slice none 0 0, .slice none 0 0] 98)) fun x3 =>
  HM.pure (some ⟨x3, 0, none⟩, ())
theorem ref14_New_den (p0 : Int) : denFn Tryz.prog [71, 47] 12 [0, 2, 3, 4] [0, 3, 4] Tryz.f40.results.toList [.one .ptr] (bodyOf Tryz.f40) [Kind.val (.one (.int .i64)) p0] = ref14_New p0 := by kernel_rfl
theorem ref14_New_calls (p0 : Int) (h : Heap) (Q : Value → Heap → Prop) (hh : ref14_New p0 h fun x h' => Q (.pointer x.1) h') :
    HCalls Tryz.prog 40 #[.int .i64 p0] h Q :=
  calls_of_eq Tryz.func40 (by kernel_rfl) Tryz.ntmps40 (by kernel_rfl) (CC Tryz.call71 (CC Tryz.call47 CN)) orders (ref14_New_den p0) hh
def ref16_Text (p0 : Int × Int × Int × Int × Unit) : HM (ByteArray × Unit) :=
  HM.bind (α := Nat) (HM.new (.cells #[.int .i64 p0.1, .int .i64 p0.2.1, .int .i64 p0.2.2.1, .int .i64 p0.2.2.2.1] 55)) fun x1 =>
  HM.bind (α := Int × Int × Int × Int × Unit) (HM.loadN [.int .i64, .int .i64, .int .i64, .int .i64] ⟨x1, 0, none⟩) fun x2 =>
  HM.bind (α := Bool) (HM.call1 Tryz.prog (.one .bool) 64 #[.agg #[.int .i64 x2.1, .int .i64 x2.2.1, .int .i64 x2.2.2.1, .int .i64 x2.2.2.2.1]]) fun x3 =>
  HM.ite (!x3) (
  HM.pure (ByteArray.mk #[], ())) (
  HM.bind (α := Int) (HM.load1 (.int .i64) (Addr.add (Addr.add ⟨x1, 0, none⟩ 0) 0)) fun x4 =>
  HM.bind (α := ByteArray) (HM.call1 Tryz.prog (.one .str) 72 #[.int .i64 x4]) fun x5 =>
  HM.bind (α := Int) (HM.load1 (.int .i64) (Addr.add (Addr.add ⟨x1, 0, none⟩ 0) 1)) fun x6 =>
  HM.bind (α := ByteArray) (HM.call1 Tryz.prog (.one .str) 72 #[.int .i64 x6]) fun x7 =>
  HM.bind (α := Int) (HM.load1 (.int .i64) (Addr.add ⟨x1, 0, none⟩ 2)) fun x8 =>
  HM.bind (α := ByteArray) (HM.call1 Tryz.prog (.one .str) 72 #[.int .i64 x8]) fun x9 =>
  HM.bind (α := Int) (HM.load1 (.int .i64) (Addr.add ⟨x1, 0, none⟩ 3)) fun x10 =>
  HM.bind (α := ByteArray) (HM.call1 Tryz.prog (.one .str) 72 #[.int .i64 x10]) fun x11 =>
  HM.req (ByteArray.size x5 + ByteArray.size (ByteArray.mk #[46]) ≤ 9223372036854775807) <|
  HM.req (ByteArray.size (x5 ++ (ByteArray.mk #[46])) + ByteArray.size x7 ≤ 9223372036854775807) <|
  HM.req (ByteArray.size ((x5 ++ (ByteArray.mk #[46])) ++ x7) + ByteArray.size (ByteArray.mk #[46]) ≤ 9223372036854775807) <|
  HM.req (ByteArray.size (((x5 ++ (ByteArray.mk #[46])) ++ x7) ++ (ByteArray.mk #[46])) + ByteArray.size x9 ≤ 9223372036854775807) <|
  HM.req (ByteArray.size ((((x5 ++ (ByteArray.mk #[46])) ++ x7) ++ (ByteArray.mk #[46])) ++ x9) + ByteArray.size (ByteArray.mk #[46]) ≤ 9223372036854775807) <|
  HM.req (ByteArray.size (((((x5 ++ (ByteArray.mk #[46])) ++ x7) ++ (ByteArray.mk #[46])) ++ x9) ++ (ByteArray.mk #[46])) + ByteArray.size x11 ≤ 9223372036854775807) <|
  HM.pure ((((((x5 ++ (ByteArray.mk #[46])) ++ x7) ++ (ByteArray.mk #[46])) ++ x9) ++ (ByteArray.mk #[46])) ++ x11, ()))
theorem ref16_Text_den (p0 : Int × Int × Int × Int × Unit) : denFn Tryz.prog [64, 72] 36 [0, 1, 2, 3, 4, 5, 6, 7, 11] [0, 1, 3, 4, 5, 6, 7, 11] Tryz.f41.results.toList [.one .str] (bodyOf Tryz.f41) [Kind.val (.agg [.int .i64, .int .i64, .int .i64, .int .i64]) p0] = ref16_Text p0 := by kernel_rfl
theorem ref16_Text_calls (p0 : Int × Int × Int × Int × Unit) (h : Heap) (Q : Value → Heap → Prop) (hh : ref16_Text p0 h fun x h' => Q (.string x.1) h') :
    HCalls Tryz.prog 41 #[.agg #[.int .i64 p0.1, .int .i64 p0.2.1, .int .i64 p0.2.2.1, .int .i64 p0.2.2.2.1]] h Q :=
  calls_of_eq Tryz.func41 (by kernel_rfl) Tryz.ntmps41 (by kernel_rfl) (CC Tryz.call64 (CC Tryz.call72 CN)) orders (ref16_Text_den p0) hh
def ref10_Route (p0 : Slc) (p1 : ByteArray) (p2 : Int) : HM (Slc × Unit) :=
  HM.bind (α := Slc × Int × Unit) (HM.loop (σ := Slc × Int × Unit) (τ := Slc × Int × Unit) (fun x2 =>
  HM.ite (decide (x2.2.1 < (((p0.len : Nat) : Int) : Int))) (
  HM.bind (α := Addr) (HM.idx p0.a p0.len x2.2.1 5) fun x3 =>
  HM.bind (α := ByteArray × Int × Int × ByteArray × ByteArray × Unit) (HM.loadN [.str, .int .i64, .int .i64, .str, .str] x3) fun x4 =>
  HM.bind (α := ByteArray × Bool × Unit) (HM.callN Tryz.prog [.one .str, .one .bool] 73 #[.agg #[.string x4.1, .int .i64 x4.2.1, .int .i64 x4.2.2.1, .string x4.2.2.2.1, .string x4.2.2.2.2.1], .string p1]) fun x5 =>
  HM.bind (α := Addr) (HM.idx p0.a p0.len x2.2.1 5) fun x6 =>
  HM.bind (α := Int) (HM.load1 (.int .i64) (Addr.add x6 2)) fun x7 =>
  HM.bind (α := Int) (HM.call1 Tryz.prog (.one (.int .i64)) 74 #[.int .i64 p2, .int .i64 x7]) fun x8 =>
  HM.bind (α := Slc × Unit) (HM.ite x5.2.1 (
  HM.bind (α := Nat) (HM.new (.cells #[.int .i64 x2.2.1, .string x5.1, .int .i64 x8] 142)) fun x10 =>
  HM.bind (α := Slc) (HM.append 142 3 32 #[.int .i64 0, .string (ByteArray.mk #[]), .int .i64 0] x2.1 1 (srcSlc 3 (⟨some ⟨x10, 0, none⟩, 1, 1⟩))) fun x11 =>
  HM.pure (x11, ())) (
  HM.pure (x2.1, ()))) fun x9 =>
  HM.pure (.inl (x9.1, IntKind.wrap .i64 (x2.2.1 + 1), ()))) (
  HM.pure (.inr (x2.1, x2.2.1, ())))) (⟨none, 0, 0⟩, 0, ())) fun x1 =>
  HM.pure (x1.1, ())
theorem ref10_Route_den (p0 : Slc) (p1 : ByteArray) (p2 : Int) : denFn Tryz.prog [73, 74] 43 [0, 1, 2, 6, 7, 8, 9, 10, 11, 15, 34] [0, 1, 2, 7, 8, 9, 10, 11, 15, 34] Tryz.f42.results.toList [.one .slc] (bodyOf Tryz.f42) [Kind.val (.one .slc) p0, Kind.val (.one .str) p1, Kind.val (.one (.int .i64)) p2] = ref10_Route p0 p1 p2 := by kernel_rfl
theorem ref10_Route_calls (p0 : Slc) (p1 : ByteArray) (p2 : Int) (h : Heap) (Q : Value → Heap → Prop) (hh : ref10_Route p0 p1 p2 h fun x h' => Q (.slice x.1.a x.1.len x.1.cap) h') :
    HCalls Tryz.prog 42 #[.slice p0.a p0.len p0.cap, .string p1, .int .i64 p2] h Q :=
  calls_of_eq Tryz.func42 (by kernel_rfl) Tryz.ntmps42 (by kernel_rfl) (CC Tryz.call73 (CC Tryz.call74 CN)) orders (ref10_Route_den p0 p1 p2) hh
def outflow_Flow_Answer (p0 : Option Addr) (p1 : Int × Bool × Bool × Int × Int × ByteArray × ByteArray × Int × Slc × Slc × ByteArray × Bool × Int × Bool × ByteArray × ByteArray × Int × Bool × Slc × Bool × Bool × ByteArray × ByteArray × Bool × Slc × Slc × Unit) : HM (Slc × Int × Unit) :=
  HM.bind (α := Nat) (HM.new (.cells #[.int .i64 p1.1, .bool p1.2.1, .bool p1.2.2.1, .int .i64 p1.2.2.2.1, .int .i64 p1.2.2.2.2.1, .string p1.2.2.2.2.2.1, .string p1.2.2.2.2.2.2.1, .int .u8 p1.2.2.2.2.2.2.2.1, .slice p1.2.2.2.2.2.2.2.2.1.a p1.2.2.2.2.2.2.2.2.1.len p1.2.2.2.2.2.2.2.2.1.cap, .slice p1.2.2.2.2.2.2.2.2.2.1.a p1.2.2.2.2.2.2.2.2.2.1.len p1.2.2.2.2.2.2.2.2.2.1.cap, .string p1.2.2.2.2.2.2.2.2.2.2.1, .bool p1.2.2.2.2.2.2.2.2.2.2.2.1, .int .i64 p1.2.2.2.2.2.2.2.2.2.2.2.2.1, .bool p1.2.2.2.2.2.2.2.2.2.2.2.2.2.1, .string p1.2.2.2.2.2.2.2.2.2.2.2.2.2.2.1, .string p1.2.2.2.2.2.2.2.2.2.2.2.2.2.2.2.1, .int .i64 p1.2.2.2.2.2.2.2.2.2.2.2.2.2.2.2.2.1, .bool p1.2.2.2.2.2.2.2.2.2.2.2.2.2.2.2.2.2.1, .slice p1.2.2.2.2.2.2.2.2.2.2.2.2.2.2.2.2.2.2.1.a p1.2.2.2.2.2.2.2.2.2.2.2.2.2.2.2.2.2.2.1.len p1.2.2.2.2.2.2.2.2.2.2.2.2.2.2.2.2.2.2.1.cap, .bool p1.2.2.2.2.2.2.2.2.2.2.2.2.2.2.2.2.2.2.2.1, .bool p1.2.2.2.2.2.2.2.2.2.2.2.2.2.2.2.2.2.2.2.2.1, .string p1.2.2.2.2.2.2.2.2.2.2.2.2.2.2.2.2.2.2.2.2.2.1, .string p1.2.2.2.2.2.2.2.2.2.2.2.2.2.2.2.2.2.2.2.2.2.2.1, .bool p1.2.2.2.2.2.2.2.2.2.2.2.2.2.2.2.2.2.2.2.2.2.2.2.1, .slice p1.2.2.2.2.2.2.2.2.2.2.2.2.2.2.2.2.2.2.2.2.2.2.2.2.1.a p1.2.2.2.2.2.2.2.2.2.2.2.2.2.2.2.2.2.2.2.2.2.2.2.2.1.len p1.2.2.2.2.2.2.2.2.2.2.2.2.2.2.2.2.2.2.2.2.2.2.2.2.1.cap, .slice p1.2.2.2.2.2.2.2.2.2.2.2.2.2.2.2.2.2.2.2.2.2.2.2.2.2.1.a p1.2.2.2.2.2.2.2.2.2.2.2.2.2.2.2.2.2.2.2.2.2.2.2.2.2.1.len p1.2.2.2.2.2.2.2.2.2.2.2.2.2.2.2.2.2.2.2.2.2.2.2.2.2.1.cap] 34)) fun x1 =>
  HM.ite (Option.isNone p0) (
  HM.pure (⟨none, 0, 0⟩, 128, ())) (
  HM.bind (α := Bool × Unit) (HM.bind (α := Addr) (HM.nonnil p0) fun x2 =>
  HM.bind (α := Bool) (HM.load1 .bool (Addr.add x2 2)) fun x3 =>
  HM.ite (!x3) (
  HM.pure (true, ())) (
  HM.bind (α := Int) (HM.load1 (.int .i64) (Addr.add ⟨x1, 0, none⟩ 0)) fun x4 =>
  HM.ite (!(x4 == 4)) (
  HM.bind (α := Int) (HM.load1 (.int .i64) (Addr.add ⟨x1, 0, none⟩ 0)) fun x5 =>
  HM.ite (!(x5 == 5)) (
  HM.bind (α := Int) (HM.load1 (.int .i64) (Addr.add ⟨x1, 0, none⟩ 0)) fun x6 =>
  HM.pure (!(x6 == 7), ())) (
  HM.pure (false, ()))) (
  HM.pure (false, ())))) fun x7 =>
  HM.ite x7.1 (
  HM.pure (⟨none, 0, 0⟩, 130, ())) (
  HM.bind (α := Addr) (HM.nonnil p0) fun x8 =>
  HM.bind (α := Slc) (HM.load1 .slc (Addr.add x8 3)) fun x9 =>
  HM.bind (α := Int) (HM.call1 Tryz.prog (.one (.int .i64)) 75 #[.slice x9.a x9.len x9.cap, .func (.func 76) #[] #[.pointer (some ⟨x1, 0, none⟩)]]) fun x10 =>
  HM.ite (decide (x10 < (0 : Int))) (
  HM.pure (⟨none, 0, 0⟩, 146, ())) (
  HM.bind (α := Addr) (HM.nonnil p0) fun x11 =>
  HM.bind (α := Slc) (HM.load1 .slc (Addr.add x11 3)) fun x12 =>
  HM.bind (α := Addr) (HM.idx x12.a x12.len x10 7) fun x13 =>
  HM.bind (α := Int) (HM.load1 (.int .i64) (Addr.add ⟨x1, 0, none⟩ 0)) fun x14 =>
  HM.bind (α := (Slc × Unit) ⊕ (Slc × Int × Unit)) (HM.ite (x14 == 4) (
  HM.bind (α := Addr) (HM.nonnil (some x13)) fun x16 =>
  HM.bind (α := Int) (HM.load1 (.int .i64) (Addr.add (Addr.add x16 1) 2)) fun x17 =>
  HM.ite (!(x17 == 1)) (
  HM.pure (.inr (⟨none, 0, 0⟩, 130, ()))) (
  HM.bind (α := Unit) (HM.callN Tryz.prog [] 77 #[.pointer p0, .int .i64 x10]) fun x18 =>
  HM.pure (.inl (⟨none, 0, 0⟩, ())))) (
  HM.bind (α := (Slc × Unit) ⊕ ((Slc × Unit) ⊕ (Slc × Int × Unit))) (HM.ite (x14 == 5) (
  HM.bind (α := Addr) (HM.nonnil (some x13)) fun x20 =>
  HM.bind (α := Int) (HM.load1 (.int .i64) (Addr.add (Addr.add x20 1) 2)) fun x21 =>
  HM.bind (α := Bool × Unit) (HM.ite (!(x21 == 2)) (
  HM.pure (!(x21 == 2), ())) (
  HM.bind (α := Bool × Unit) (HM.bind (α := Int) (HM.load1 (.int .u8) (Addr.add ⟨x1, 0, none⟩ 7)) fun x23 =>
  HM.ite (decide (128 ≤ (x23 : Int))) (
  HM.bind (α := Addr) (HM.nonnil (some x13)) fun x24 =>
  HM.bind (α := Bool) (HM.load1 .bool (Addr.add x24 6)) fun x25 =>
  HM.pure (x25, ())) (
  HM.pure (false, ()))) fun x26 =>
  HM.pure (x26.1, ()))) fun x22 =>
  HM.ite x22.1 (
  HM.pure (.inr (.inr (⟨none, 0, 0⟩, 130, ())))) (
  HM.bind (α := Int) (HM.load1 (.int .u8) (Addr.add ⟨x1, 0, none⟩ 7)) fun x27 =>
  HM.bind (α := Slc × Unit) (HM.ite (decide (128 ≤ (x27 : Int))) (
  HM.bind (α := Unit) (HM.callN Tryz.prog [] 77 #[.pointer p0, .int .i64 x10]) fun x29 =>
  HM.pure (⟨none, 0, 0⟩, ())) (
  HM.bind (α := Addr) (HM.nonnil (some x13)) fun x30 =>
  HM.bind (α := Unit) (HM.store1 (Addr.add x30 6) (.bool true)) fun _ =>
  HM.bind (α := Int) (HM.load1 (.int .i64) (Addr.add ⟨x1, 0, none⟩ 4)) fun x31 =>
  HM.bind (α := Nat) (HM.new (.cells #[.int .i64 6, .bool false, .bool false, .int .i64 0, .int .i64 x31, .string (ByteArray.mk #[]), .string (ByteArray.mk #[]), .int .u8 0, .slice none 0 0, .slice none 0 0, .string (ByteArray.mk #[]), .bool false, .int .i64 0, .bool false, .string (ByteArray.mk #[]), .string (ByteArray.mk #[]), .int .i64 0, .bool false, .slice none 0 0, .bool false, .bool false, .string (ByteArray.mk #[]), .string (ByteArray.mk #[]), .bool false, .slice none 0 0, .slice none 0 0] 34)) fun x32 =>
  HM.bind (α := Slc) (HM.append 34 26 328 #[.int .i64 0, .bool false, .bool false, .int .i64 0, .int .i64 0, .string (ByteArray.mk #[]), .string (ByteArray.mk #[]), .int .u8 0, .slice none 0 0, .slice none 0 0, .string (ByteArray.mk #[]), .bool false, .int .i64 0, .bool false, .string (ByteArray.mk #[]), .string (ByteArray.mk #[]), .int .i64 0, .bool false, .slice none 0 0, .bool false, .bool false, .string (ByteArray.mk #[]), .string (ByteArray.mk #[]), .bool false, .slice none 0 0, .slice none 0 0] ⟨none, 0, 0⟩ 1 (srcSlc 26 (⟨some ⟨x32, 0, none⟩, 1, 1⟩))) fun x33 =>
  HM.pure (x33, ()))) fun x28 =>
  HM.pure (.inl (x28.1, ())))) (
  HM.bind (α := Addr) (HM.nonnil (some x13)) fun x34 =>
  HM.bind (α := Bool) (HM.load1 .bool (Addr.add x34 6)) fun x35 =>
  HM.ite (!x35) (
  HM.pure (.inr (.inr (⟨none, 0, 0⟩, 130, ())))) (
  HM.bind (α := Unit) (HM.callN Tryz.prog [] 77 #[.pointer p0, .int .i64 x10]) fun x36 =>
  HM.pure (.inl (⟨none, 0, 0⟩, ()))))) (Sum.elim (fun x19 =>
  HM.pure (.inl (x19.1, ()))) HM.pure))) (Sum.elim (fun x15 =>
  HM.bind (α := Slc) (HM.call1 Tryz.prog (.one .slc) 78 #[.pointer p0, .slice x15.1.a x15.1.len x15.1.cap]) fun x37 =>
  HM.pure (x37, 0, ())) HM.pure))))
theorem outflow_Flow_Answer_den (p0 : Option Addr) (p1 : Int × Bool × Bool × Int × Int × ByteArray × ByteArray × Int × Slc × Slc × ByteArray × Bool × Int × Bool × ByteArray × ByteArray × Int × Bool × Slc × Bool × Bool × ByteArray × ByteArray × Bool × Slc × Slc × Unit) : denFn Tryz.prog [75, 77, 78] 103 [0, 1, 3, 4, 5, 6, 7, 8, 10, 30, 38, 46, 51, 55, 62, 66, 77, 93] [0, 1, 3, 6, 7, 8, 10, 30, 38, 46, 51, 55, 62, 66, 77, 93] Tryz.f43.results.toList [.one .slc, .one (.int .u8)] (bodyOf Tryz.f43) [Kind.val (.one .ptr) p0, Kind.val (.agg [.int .i64, .bool, .bool, .int .i64, .int .i64, .str, .str, .int .u8, .slc, .slc, .str, .bool, .int .i64, .bool, .str, .str, .int .i64, .bool, .slc, .bool, .bool, .str, .str, .bool, .slc, .slc]) p1] = outflow_Flow_Answer p0 p1 := by kernel_rfl
theorem outflow_Flow_Answer_calls (p0 : Option Addr) (p1 : Int × Bool × Bool × Int × Int × ByteArray × ByteArray × Int × Slc × Slc × ByteArray × Bool × Int × Bool × ByteArray × ByteArray × Int × Bool × Slc × Bool × Bool × ByteArray × ByteArray × Bool × Slc × Slc × Unit) (h : Heap) (Q : Value → Heap → Prop) (hh : outflow_Flow_Answer p0 p1 h fun x h' => Q (.tuple #[.slice x.1.a x.1.len x.1.cap, .int .u8 x.2.1]) h') :
    HCalls Tryz.prog 43 #[.pointer p0, .agg #[.int .i64 p1.1, .bool p1.2.1, .bool p1.2.2.1, .int .i64 p1.2.2.2.1, .int .i64 p1.2.2.2.2.1, .string p1.2.2.2.2.2.1, .string p1.2.2.2.2.2.2.1, .int .u8 p1.2.2.2.2.2.2.2.1, .slice p1.2.2.2.2.2.2.2.2.1.a p1.2.2.2.2.2.2.2.2.1.len p1.2.2.2.2.2.2.2.2.1.cap, .slice p1.2.2.2.2.2.2.2.2.2.1.a p1.2.2.2.2.2.2.2.2.2.1.len p1.2.2.2.2.2.2.2.2.2.1.cap, .string p1.2.2.2.2.2.2.2.2.2.2.1, .bool p1.2.2.2.2.2.2.2.2.2.2.2.1, .int .i64 p1.2.2.2.2.2.2.2.2.2.2.2.2.1, .bool p1.2.2.2.2.2.2.2.2.2.2.2.2.2.1, .string p1.2.2.2.2.2.2.2.2.2.2.2.2.2.2.1, .string p1.2.2.2.2.2.2.2.2.2.2.2.2.2.2.2.1, .int .i64 p1.2.2.2.2.2.2.2.2.2.2.2.2.2.2.2.2.1, .bool p1.2.2.2.2.2.2.2.2.2.2.2.2.2.2.2.2.2.1, .slice p1.2.2.2.2.2.2.2.2.2.2.2.2.2.2.2.2.2.2.1.a p1.2.2.2.2.2.2.2.2.2.2.2.2.2.2.2.2.2.2.1.len p1.2.2.2.2.2.2.2.2.2.2.2.2.2.2.2.2.2.2.1.cap, .bool p1.2.2.2.2.2.2.2.2.2.2.2.2.2.2.2.2.2.2.2.1, .bool p1.2.2.2.2.2.2.2.2.2.2.2.2.2.2.2.2.2.2.2.2.1, .string p1.2.2.2.2.2.2.2.2.2.2.2.2.2.2.2.2.2.2.2.2.2.1, .string p1.2.2.2.2.2.2.2.2.2.2.2.2.2.2.2.2.2.2.2.2.2.2.1, .bool p1.2.2.2.2.2.2.2.2.2.2.2.2.2.2.2.2.2.2.2.2.2.2.2.1, .slice p1.2.2.2.2.2.2.2.2.2.2.2.2.2.2.2.2.2.2.2.2.2.2.2.2.1.a p1.2.2.2.2.2.2.2.2.2.2.2.2.2.2.2.2.2.2.2.2.2.2.2.2.1.len p1.2.2.2.2.2.2.2.2.2.2.2.2.2.2.2.2.2.2.2.2.2.2.2.2.1.cap, .slice p1.2.2.2.2.2.2.2.2.2.2.2.2.2.2.2.2.2.2.2.2.2.2.2.2.2.1.a p1.2.2.2.2.2.2.2.2.2.2.2.2.2.2.2.2.2.2.2.2.2.2.2.2.2.1.len p1.2.2.2.2.2.2.2.2.2.2.2.2.2.2.2.2.2.2.2.2.2.2.2.2.2.1.cap]] h Q :=
  calls_of_eq Tryz.func43 (by kernel_rfl) Tryz.ntmps43 (by kernel_rfl) (CC Tryz.call75 (CC Tryz.call77 (CC Tryz.call78 CN))) orders (outflow_Flow_Answer_den p0 p1) hh
def ref14_over (p0 : Option Addr) (p1 : Int) : HM (Unit) :=
  HM.bind (α := Addr) (HM.nonnil p0) fun x1 =>
  HM.bind (α := Option Addr) (HM.load1 .ptr (Addr.add x1 0)) fun x2 =>
  HM.bind (α := Addr) (HM.nonnil p0) fun x3 =>
  HM.bind (α := Slc) (HM.load1 .slc (Addr.add x3 3)) fun x4 =>
  HM.bind (α := Addr) (HM.idx x4.a x4.len p1 7) fun x5 =>
  HM.bind (α := Int) (HM.load1 (.int .i64) (Addr.add x5 0)) fun x6 =>
  HM.bind (α := Bool) (HM.call1 Tryz.prog (.one .bool) 79 #[.pointer x2, .int .i64 x6]) fun x7 =>
  HM.bind (α := Slc × Int × Unit) (HM.loop (σ := Slc × Int × Unit) (τ := Slc × Int × Unit) (fun x9 =>
  HM.bind (α := Addr) (HM.nonnil p0) fun x10 =>
  HM.bind (α := Slc) (HM.load1 .slc (Addr.add x10 3)) fun x11 =>
  HM.ite (decide (x9.2.1 < (((x11.len : Nat) : Int) : Int))) (
  HM.bind (α := Slc × Unit) (HM.ite (!(x9.2.1 == p1)) (
  HM.bind (α := Addr) (HM.nonnil p0) fun x13 =>
  HM.bind (α := Slc) (HM.load1 .slc (Addr.add x13 3)) fun x14 =>
  HM.bind (α := Addr) (HM.idx x14.a x14.len x9.2.1 7) fun x15 =>
  HM.bind (α := Int × ByteArray × ByteArray × Int × Bool × ByteArray × Bool × Unit) (HM.loadN [.int .i64, .str, .str, .int .i64, .bool, .str, .bool] x15) fun x16 =>
  HM.bind (α := Nat) (HM.new (.cells #[.int .i64 x16.1, .string x16.2.1, .string x16.2.2.1, .int .i64 x16.2.2.2.1, .bool x16.2.2.2.2.1, .string x16.2.2.2.2.2.1, .bool x16.2.2.2.2.2.2.1] 144)) fun x17 =>
  HM.bind (α := Slc) (HM.append 144 7 80 #[.int .i64 0, .string (ByteArray.mk #[]), .string (ByteArray.mk #[]), .int .i64 0, .bool false, .string (ByteArray.mk #[]), .bool false] x9.1 1 (srcSlc 7 (⟨some ⟨x17, 0, none⟩, 1, 1⟩))) fun x18 =>
  HM.pure (x18, ())) (
  HM.pure (x9.1, ()))) fun x12 =>
  HM.pure (.inl (x12.1, IntKind.wrap .i64 (x9.2.1 + 1), ()))) (
  HM.pure (.inr (x9.1, x9.2.1, ())))) (⟨none, 0, 0⟩, 0, ())) fun x8 =>
  HM.bind (α := Addr) (HM.nonnil p0) fun x19 =>
  HM.bind (α := Unit) (HM.store1 (Addr.add x19 3) (.slice x8.1.a x8.1.len x8.1.cap)) fun _ =>
  HM.pure ()
theorem ref14_over_den (p0 : Option Addr) (p1 : Int) : denFn Tryz.prog [79] 45 [0, 1, 4, 5, 25, 30] [0, 1, 4, 5, 25, 30] Tryz.f44.results.toList [] (bodyOf Tryz.f44) [Kind.val (.one .ptr) p0, Kind.val (.one (.int .i64)) p1] = ref14_over p0 p1 := by kernel_rfl
theorem ref14_over_calls (p0 : Option Addr) (p1 : Int) (h : Heap) (Q : Value → Heap → Prop) (hh : ref14_over p0 p1 h fun x h' => Q (.tuple #[]) h') :
    HCalls Tryz.prog 44 #[.pointer p0, .int .i64 p1] h Q :=
  calls_of_eq Tryz.func44 (by kernel_rfl) Tryz.ntmps44 (by kernel_rfl) (CC Tryz.call79 CN) orders (ref14_over_den p0 p1) hh
def ref14_goOn (p0 : Option Addr) (p1 : Slc) : HM (Slc × Unit) :=
  HM.bind (α := Addr) (HM.nonnil p0) fun x1 =>
  HM.bind (α := Bool) (HM.load1 .bool (Addr.add x1 2)) fun x2 =>
  HM.ite (!x2) (
  HM.pure (p1, ())) (
  HM.bind (α := (Slc × Unit) ⊕ (Slc × Unit)) (HM.loop (σ := Slc × Unit) (τ := (Slc × Unit) ⊕ (Slc × Unit)) (fun x4 =>
  HM.bind (α := Addr) (HM.nonnil p0) fun x5 =>
  HM.bind (α := Slc) (HM.load1 .slc (Addr.add x5 4)) fun x6 =>
  HM.ite (decide (0 < (((x6.len : Nat) : Int) : Int))) (
  HM.bind (α := (Slc × Unit) ⊕ ((Slc × Unit) ⊕ ((Slc × Unit) ⊕ (Slc × Unit)))) (HM.bind (α := Addr) (HM.nonnil p0) fun x8 =>
  HM.bind (α := Slc) (HM.load1 .slc (Addr.add x8 4)) fun x9 =>
  HM.bind (α := Addr) (HM.idx x9.a x9.len 0 5) fun x10 =>
  HM.bind (α := ByteArray × ByteArray × Int × Bool × ByteArray × Unit) (HM.loadN [.str, .str, .int .i64, .bool, .str] x10) fun x11 =>
  HM.bind (α := Nat) (HM.new (.cells #[.string (ByteArray.mk #[]), .string (ByteArray.mk #[]), .int .i64 0, .bool false, .string (ByteArray.mk #[])] 56)) fun x12 =>
  HM.bind (α := Unit) (HM.storeN ⟨x12, 0, none⟩ [.string x11.1, .string x11.2.1, .int .i64 x11.2.2.1, .bool x11.2.2.2.1, .string x11.2.2.2.2.1]) fun _ =>
  HM.bind (α := Bool × Unit) (HM.bind (α := Int) (HM.load1 (.int .i64) (Addr.add ⟨x12, 0, none⟩ 2)) fun x13 =>
  HM.ite (decide (0 < (x13 : Int))) (
  HM.bind (α := Addr) (HM.nonnil p0) fun x14 =>
  HM.bind (α := Slc) (HM.load1 .slc (Addr.add x14 3)) fun x15 =>
  HM.bind (α := Addr) (HM.nonnil p0) fun x16 =>
  HM.bind (α := Int) (HM.load1 (.int .i64) (Addr.add x16 1)) fun x17 =>
  HM.pure (decide (x17 ≤ (((x15.len : Nat) : Int) : Int)), ())) (
  HM.pure (false, ()))) fun x18 =>
  HM.ite x18.1 (
  HM.pure (.inr (.inr (.inr (x4.1, ()))))) (
  HM.bind (α := Addr) (HM.nonnil p0) fun x19 =>
  HM.bind (α := Slc) (HM.load1 .slc (Addr.add x19 4)) fun x20 =>
  HM.bind (α := Slc) (HM.slice x20 (some 1) none none 5) fun x21 =>
  HM.bind (α := Addr) (HM.nonnil p0) fun x22 =>
  HM.bind (α := Unit) (HM.store1 (Addr.add x22 4) (.slice x21.a x21.len x21.cap)) fun _ =>
  HM.bind (α := Int) (HM.load1 (.int .i64) (Addr.add ⟨x12, 0, none⟩ 2)) fun x23 =>
  HM.ite (x23 == 0) (
  HM.bind (α := ByteArray × ByteArray × Int × Bool × ByteArray × Unit) (HM.loadN [.str, .str, .int .i64, .bool, .str] ⟨x12, 0, none⟩) fun x24 =>
  HM.bind (α := Int × Bool × Bool × Int × Int × ByteArray × ByteArray × Int × Slc × Slc × ByteArray × Bool × Int × Bool × ByteArray × ByteArray × Int × Bool × Slc × Bool × Bool × ByteArray × ByteArray × Bool × Slc × Slc × Unit) (HM.call1 Tryz.prog (.agg [.int .i64, .bool, .bool, .int .i64, .int .i64, .str, .str, .int .i64, .slc, .slc, .str, .bool, .int .i64, .bool, .str, .str, .int .i64, .bool, .slc, .bool, .bool, .str, .str, .bool, .slc, .slc]) 48 #[.agg #[.string x24.1, .string x24.2.1, .int .i64 x24.2.2.1, .bool x24.2.2.2.1, .string x24.2.2.2.2.1], .int .i64 0, .bool false]) fun x25 =>
  HM.bind (α := Nat) (HM.new (.cells #[.int .i64 0, .bool false, .bool false, .int .i64 0, .int .i64 0, .string (ByteArray.mk #[]), .string (ByteArray.mk #[]), .int .i64 0, .slice none 0 0, .slice none 0 0, .string (ByteArray.mk #[]), .bool false, .int .i64 0, .bool false, .string (ByteArray.mk #[]), .string (ByteArray.mk #[]), .int .i64 0, .bool false, .slice none 0 0, .bool false, .bool false, .string (ByteArray.mk #[]), .string (ByteArray.mk #[]), .bool false, .slice none 0 0, .slice none 0 0] 41)) fun x26 =>
  HM.bind (α := Unit) (HM.storeN ⟨x26, 0, none⟩ [.int .i64 x25.1, .bool x25.2.1, .bool x25.2.2.1, .int .i64 x25.2.2.2.1, .int .i64 x25.2.2.2.2.1, .string x25.2.2.2.2.2.1, .string x25.2.2.2.2.2.2.1, .int .i64 x25.2.2.2.2.2.2.2.1, .slice x25.2.2.2.2.2.2.2.2.1.a x25.2.2.2.2.2.2.2.2.1.len x25.2.2.2.2.2.2.2.2.1.cap, .slice x25.2.2.2.2.2.2.2.2.2.1.a x25.2.2.2.2.2.2.2.2.2.1.len x25.2.2.2.2.2.2.2.2.2.1.cap, .string x25.2.2.2.2.2.2.2.2.2.2.1, .bool x25.2.2.2.2.2.2.2.2.2.2.2.1, .int .i64 x25.2.2.2.2.2.2.2.2.2.2.2.2.1, .bool x25.2.2.2.2.2.2.2.2.2.2.2.2.2.1, .string x25.2.2.2.2.2.2.2.2.2.2.2.2.2.2.1, .string x25.2.2.2.2.2.2.2.2.2.2.2.2.2.2.2.1, .int .i64 x25.2.2.2.2.2.2.2.2.2.2.2.2.2.2.2.2.1, .bool x25.2.2.2.2.2.2.2.2.2.2.2.2.2.2.2.2.2.1, .slice x25.2.2.2.2.2.2.2.2.2.2.2.2.2.2.2.2.2.2.1.a x25.2.2.2.2.2.2.2.2.2.2.2.2.2.2.2.2.2.2.1.len x25.2.2.2.2.2.2.2.2.2.2.2.2.2.2.2.2.2.2.1.cap, .bool x25.2.2.2.2.2.2.2.2.2.2.2.2.2.2.2.2.2.2.2.1, .bool x25.2.2.2.2.2.2.2.2.2.2.2.2.2.2.2.2.2.2.2.2.1, .string x25.2.2.2.2.2.2.2.2.2.2.2.2.2.2.2.2.2.2.2.2.2.1, .string x25.2.2.2.2.2.2.2.2.2.2.2.2.2.2.2.2.2.2.2.2.2.2.1, .bool x25.2.2.2.2.2.2.2.2.2.2.2.2.2.2.2.2.2.2.2.2.2.2.2.1, .slice x25.2.2.2.2.2.2.2.2.2.2.2.2.2.2.2.2.2.2.2.2.2.2.2.2.1.a x25.2.2.2.2.2.2.2.2.2.2.2.2.2.2.2.2.2.2.2.2.2.2.2.2.1.len x25.2.2.2.2.2.2.2.2.2.2.2.2.2.2.2.2.2.2.2.2.2.2.2.2.1.cap, .slice x25.2.2.2.2.2.2.2.2.2.2.2.2.2.2.2.2.2.2.2.2.2.2.2.2.2.1.a x25.2.2.2.2.2.2.2.2.2.2.2.2.2.2.2.2.2.2.2.2.2.2.2.2.2.1.len x25.2.2.2.2.2.2.2.2.2.2.2.2.2.2.2.2.2.2.2.2.2.2.2.2.2.1.cap]) fun _ =>
  HM.bind (α := Int × Bool × Bool × Int × Int × ByteArray × ByteArray × Int × Slc × Slc × ByteArray × Bool × Int × Bool × ByteArray × ByteArray × Int × Bool × Slc × Bool × Bool × ByteArray × ByteArray × Bool × Slc × Slc × Unit) (HM.loadN [.int .i64, .bool, .bool, .int .i64, .int .i64, .str, .str, .int .i64, .slc, .slc, .str, .bool, .int .i64, .bool, .str, .str, .int .i64, .bool, .slc, .bool, .bool, .str, .str, .bool, .slc, .slc] ⟨x26, 0, none⟩) fun x27 =>
  HM.bind (α := Nat) (HM.new (.cells #[.int .i64 x27.1, .bool x27.2.1, .bool x27.2.2.1, .int .i64 x27.2.2.2.1, .int .i64 x27.2.2.2.2.1, .string x27.2.2.2.2.2.1, .string x27.2.2.2.2.2.2.1, .int .i64 x27.2.2.2.2.2.2.2.1, .slice x27.2.2.2.2.2.2.2.2.1.a x27.2.2.2.2.2.2.2.2.1.len x27.2.2.2.2.2.2.2.2.1.cap, .slice x27.2.2.2.2.2.2.2.2.2.1.a x27.2.2.2.2.2.2.2.2.2.1.len x27.2.2.2.2.2.2.2.2.2.1.cap, .string x27.2.2.2.2.2.2.2.2.2.2.1, .bool x27.2.2.2.2.2.2.2.2.2.2.2.1, .int .i64 x27.2.2.2.2.2.2.2.2.2.2.2.2.1, .bool x27.2.2.2.2.2.2.2.2.2.2.2.2.2.1, .string x27.2.2.2.2.2.2.2.2.2.2.2.2.2.2.1, .string x27.2.2.2.2.2.2.2.2.2.2.2.2.2.2.2.1, .int .i64 x27.2.2.2.2.2.2.2.2.2.2.2.2.2.2.2.2.1, .bool x27.2.2.2.2.2.2.2.2.2.2.2.2.2.2.2.2.2.1, .slice x27.2.2.2.2.2.2.2.2.2.2.2.2.2.2.2.2.2.2.1.a x27.2.2.2.2.2.2.2.2.2.2.2.2.2.2.2.2.2.2.1.len x27.2.2.2.2.2.2.2.2.2.2.2.2.2.2.2.2.2.2.1.cap, .bool x27.2.2.2.2.2.2.2.2.2.2.2.2.2.2.2.2.2.2.2.1, .bool x27.2.2.2.2.2.2.2.2.2.2.2.2.2.2.2.2.2.2.2.2.1, .string x27.2.2.2.2.2.2.2.2.2.2.2.2.2.2.2.2.2.2.2.2.2.1, .string x27.2.2.2.2.2.2.2.2.2.2.2.2.2.2.2.2.2.2.2.2.2.2.1, .bool x27.2.2.2.2.2.2.2.2.2.2.2.2.2.2.2.2.2.2.2.2.2.2.2.1, .slice x27.2.2.2.2.2.2.2.2.2.2.2.2.2.2.2.2.2.2.2.2.2.2.2.2.1.a x27.2.2.2.2.2.2.2.2.2.2.2.2.2.2.2.2.2.2.2.2.2.2.2.2.1.len x27.2.2.2.2.2.2.2.2.2.2.2.2.2.2.2.2.2.2.2.2.2.2.2.2.1.cap, .slice x27.2.2.2.2.2.2.2.2.2.2.2.2.2.2.2.2.2.2.2.2.2.2.2.2.2.1.a x27.2.2.2.2.2.2.2.2.2.2.2.2.2.2.2.2.2.2.2.2.2.2.2.2.2.1.len x27.2.2.2.2.2.2.2.2.2.2.2.2.2.2.2.2.2.2.2.2.2.2.2.2.2.1.cap] 41)) fun x28 =>
  HM.bind (α := Slc) (HM.append 41 26 328 #[.int .i64 0, .bool false, .bool false, .int .i64 0, .int .i64 0, .string (ByteArray.mk #[]), .string (ByteArray.mk #[]), .int .i64 0, .slice none 0 0, .slice none 0 0, .string (ByteArray.mk #[]), .bool false, .int .i64 0, .bool false, .string (ByteArray.mk #[]), .string (ByteArray.mk #[]), .int .i64 0, .bool false, .slice none 0 0, .bool false, .bool false, .string (ByteArray.mk #[]), .string (ByteArray.mk #[]), .bool false, .slice none 0 0, .slice none 0 0] x4.1 1 (srcSlc 26 (⟨some ⟨x28, 0, none⟩, 1, 1⟩))) fun x29 =>
  HM.pure (.inl (x29, ()))) (
  HM.bind (α := Addr) (HM.nonnil p0) fun x30 =>
  HM.bind (α := Option Addr) (HM.load1 .ptr (Addr.add x30 0)) fun x31 =>
  HM.bind (α := Int × Int × Unit) (HM.callN Tryz.prog [.one (.int .i64), .one (.int .i64)] 80 #[.pointer x31]) fun x32 =>
  HM.bind (α := Addr) (HM.nonnil p0) fun x33 =>
  HM.bind (α := Slc) (HM.load1 .slc (Addr.add x33 3)) fun x34 =>
  HM.bind (α := ByteArray × ByteArray × Int × Bool × ByteArray × Unit) (HM.loadN [.str, .str, .int .i64, .bool, .str] ⟨x12, 0, none⟩) fun x35 =>
  HM.bind (α := Nat) (HM.new (.cells #[.int .i64 x32.1, .string x35.1, .string x35.2.1, .int .i64 x35.2.2.1, .bool x35.2.2.2.1, .string x35.2.2.2.2.1, .bool false] 144)) fun x36 =>
  HM.bind (α := Slc) (HM.load1 .slc (Addr.add x33 3)) fun x37 =>
  HM.req ((.slice x37.a x37.len x37.cap : Value) = .slice x34.a x34.len x34.cap) <|
  HM.bind (α := Slc) (HM.append 144 7 80 #[.int .i64 0, .string (ByteArray.mk #[]), .string (ByteArray.mk #[]), .int .i64 0, .bool false, .string (ByteArray.mk #[]), .bool false] x34 1 (srcSlc 7 (⟨some ⟨x36, 0, none⟩, 1, 1⟩))) fun x38 =>
  HM.bind (α := Addr) (HM.nonnil p0) fun x39 =>
  HM.bind (α := Unit) (HM.store1 (Addr.add x39 3) (.slice x38.a x38.len x38.cap)) fun _ =>
  HM.bind (α := ByteArray × ByteArray × Int × Bool × ByteArray × Unit) (HM.loadN [.str, .str, .int .i64, .bool, .str] ⟨x12, 0, none⟩) fun x40 =>
  HM.bind (α := Int × Bool × Bool × Int × Int × ByteArray × ByteArray × Int × Slc × Slc × ByteArray × Bool × Int × Bool × ByteArray × ByteArray × Int × Bool × Slc × Bool × Bool × ByteArray × ByteArray × Bool × Slc × Slc × Unit) (HM.call1 Tryz.prog (.agg [.int .i64, .bool, .bool, .int .i64, .int .i64, .str, .str, .int .i64, .slc, .slc, .str, .bool, .int .i64, .bool, .str, .str, .int .i64, .bool, .slc, .bool, .bool, .str, .str, .bool, .slc, .slc]) 48 #[.agg #[.string x40.1, .string x40.2.1, .int .i64 x40.2.2.1, .bool x40.2.2.2.1, .string x40.2.2.2.2.1], .int .i64 x32.1, .bool false]) fun x41 =>
  HM.bind (α := Nat) (HM.new (.cells #[.int .i64 0, .bool false, .bool false, .int .i64 0, .int .i64 0, .string (ByteArray.mk #[]), .string (ByteArray.mk #[]), .int .i64 0, .slice none 0 0, .slice none 0 0, .string (ByteArray.mk #[]), .bool false, .int .i64 0, .bool false, .string (ByteArray.mk #[]), .string (ByteArray.mk #[]), .int .i64 0, .bool false, .slice none 0 0, .bool false, .bool false, .string (ByteArray.mk #[]), .string (ByteArray.mk #[]), .bool false, .slice none 0 0, .slice none 0 0] 41)) fun x42 =>
  HM.bind (α := Unit) (HM.storeN ⟨x42, 0, none⟩ [.int .i64 x41.1, .bool x41.2.1, .bool x41.2.2.1, .int .i64 x41.2.2.2.1, .int .i64 x41.2.2.2.2.1, .string x41.2.2.2.2.2.1, .string x41.2.2.2.2.2.2.1, .int .i64 x41.2.2.2.2.2.2.2.1, .slice x41.2.2.2.2.2.2.2.2.1.a x41.2.2.2.2.2.2.2.2.1.len x41.2.2.2.2.2.2.2.2.1.cap, .slice x41.2.2.2.2.2.2.2.2.2.1.a x41.2.2.2.2.2.2.2.2.2.1.len x41.2.2.2.2.2.2.2.2.2.1.cap, .string x41.2.2.2.2.2.2.2.2.2.2.1, .bool x41.2.2.2.2.2.2.2.2.2.2.2.1, .int .i64 x41.2.2.2.2.2.2.2.2.2.2.2.2.1, .bool x41.2.2.2.2.2.2.2.2.2.2.2.2.2.1, .string x41.2.2.2.2.2.2.2.2.2.2.2.2.2.2.1, .string x41.2.2.2.2.2.2.2.2.2.2.2.2.2.2.2.1, .int .i64 x41.2.2.2.2.2.2.2.2.2.2.2.2.2.2.2.2.1, .bool x41.2.2.2.2.2.2.2.2.2.2.2.2.2.2.2.2.2.1, .slice x41.2.2.2.2.2.2.2.2.2.2.2.2.2.2.2.2.2.2.1.a x41.2.2.2.2.2.2.2.2.2.2.2.2.2.2.2.2.2.2.1.len x41.2.2.2.2.2.2.2.2.2.2.2.2.2.2.2.2.2.2.1.cap, .bool x41.2.2.2.2.2.2.2.2.2.2.2.2.2.2.2.2.2.2.2.1, .bool x41.2.2.2.2.2.2.2.2.2.2.2.2.2.2.2.2.2.2.2.2.1, .string x41.2.2.2.2.2.2.2.2.2.2.2.2.2.2.2.2.2.2.2.2.2.1, .string x41.2.2.2.2.2.2.2.2.2.2.2.2.2.2.2.2.2.2.2.2.2.2.1, .bool x41.2.2.2.2.2.2.2.2.2.2.2.2.2.2.2.2.2.2.2.2.2.2.2.1, .slice x41.2.2.2.2.2.2.2.2.2.2.2.2.2.2.2.2.2.2.2.2.2.2.2.2.1.a x41.2.2.2.2.2.2.2.2.2.2.2.2.2.2.2.2.2.2.2.2.2.2.2.2.1.len x41.2.2.2.2.2.2.2.2.2.2.2.2.2.2.2.2.2.2.2.2.2.2.2.2.1.cap, .slice x41.2.2.2.2.2.2.2.2.2.2.2.2.2.2.2.2.2.2.2.2.2.2.2.2.2.1.a x41.2.2.2.2.2.2.2.2.2.2.2.2.2.2.2.2.2.2.2.2.2.2.2.2.2.1.len x41.2.2.2.2.2.2.2.2.2.2.2.2.2.2.2.2.2.2.2.2.2.2.2.2.2.1.cap]) fun _ =>
  HM.bind (α := Int × Bool × Bool × Int × Int × ByteArray × ByteArray × Int × Slc × Slc × ByteArray × Bool × Int × Bool × ByteArray × ByteArray × Int × Bool × Slc × Bool × Bool × ByteArray × ByteArray × Bool × Slc × Slc × Unit) (HM.loadN [.int .i64, .bool, .bool, .int .i64, .int .i64, .str, .str, .int .i64, .slc, .slc, .str, .bool, .int .i64, .bool, .str, .str, .int .i64, .bool, .slc, .bool, .bool, .str, .str, .bool, .slc, .slc] ⟨x42, 0, none⟩) fun x43 =>
  HM.bind (α := Nat) (HM.new (.cells #[.int .i64 x43.1, .bool x43.2.1, .bool x43.2.2.1, .int .i64 x43.2.2.2.1, .int .i64 x43.2.2.2.2.1, .string x43.2.2.2.2.2.1, .string x43.2.2.2.2.2.2.1, .int .i64 x43.2.2.2.2.2.2.2.1, .slice x43.2.2.2.2.2.2.2.2.1.a x43.2.2.2.2.2.2.2.2.1.len x43.2.2.2.2.2.2.2.2.1.cap, .slice x43.2.2.2.2.2.2.2.2.2.1.a x43.2.2.2.2.2.2.2.2.2.1.len x43.2.2.2.2.2.2.2.2.2.1.cap, .string x43.2.2.2.2.2.2.2.2.2.2.1, .bool x43.2.2.2.2.2.2.2.2.2.2.2.1, .int .i64 x43.2.2.2.2.2.2.2.2.2.2.2.2.1, .bool x43.2.2.2.2.2.2.2.2.2.2.2.2.2.1, .string x43.2.2.2.2.2.2.2.2.2.2.2.2.2.2.1, .string x43.2.2.2.2.2.2.2.2.2.2.2.2.2.2.2.1, .int .i64 x43.2.2.2.2.2.2.2.2.2.2.2.2.2.2.2.2.1, .bool x43.2.2.2.2.2.2.2.2.2.2.2.2.2.2.2.2.2.1, .slice x43.2.2.2.2.2.2.2.2.2.2.2.2.2.2.2.2.2.2.1.a x43.2.2.2.2.2.2.2.2.2.2.2.2.2.2.2.2.2.2.1.len x43.2.2.2.2.2.2.2.2.2.2.2.2.2.2.2.2.2.2.1.cap, .bool x43.2.2.2.2.2.2.2.2.2.2.2.2.2.2.2.2.2.2.2.1, .bool x43.2.2.2.2.2.2.2.2.2.2.2.2.2.2.2.2.2.2.2.2.1, .string x43.2.2.2.2.2.2.2.2.2.2.2.2.2.2.2.2.2.2.2.2.2.1, .string x43.2.2.2.2.2.2.2.2.2.2.2.2.2.2.2.2.2.2.2.2.2.2.1, .bool x43.2.2.2.2.2.2.2.2.2.2.2.2.2.2.2.2.2.2.2.2.2.2.2.1, .slice x43.2.2.2.2.2.2.2.2.2.2.2.2.2.2.2.2.2.2.2.2.2.2.2.2.1.a x43.2.2.2.2.2.2.2.2.2.2.2.2.2.2.2.2.2.2.2.2.2.2.2.2.1.len x43.2.2.2.2.2.2.2.2.2.2.2.2.2.2.2.2.2.2.2.2.2.2.2.2.1.cap, .slice x43.2.2.2.2.2.2.2.2.2.2.2.2.2.2.2.2.2.2.2.2.2.2.2.2.2.1.a x43.2.2.2.2.2.2.2.2.2.2.2.2.2.2.2.2.2.2.2.2.2.2.2.2.2.1.len x43.2.2.2.2.2.2.2.2.2.2.2.2.2.2.2.2.2.2.2.2.2.2.2.2.2.1.cap] 41)) fun x44 =>
  HM.bind (α := Slc) (HM.append 41 26 328 #[.int .i64 0, .bool false, .bool false, .int .i64 0, .int .i64 0, .string (ByteArray.mk #[]), .string (ByteArray.mk #[]), .int .i64 0, .slice none 0 0, .slice none 0 0, .string (ByteArray.mk #[]), .bool false, .int .i64 0, .bool false, .string (ByteArray.mk #[]), .string (ByteArray.mk #[]), .int .i64 0, .bool false, .slice none 0 0, .bool false, .bool false, .string (ByteArray.mk #[]), .string (ByteArray.mk #[]), .bool false, .slice none 0 0, .slice none 0 0] x4.1 1 (srcSlc 26 (⟨some ⟨x44, 0, none⟩, 1, 1⟩))) fun x45 =>
  HM.pure (.inl (x45, ()))))) (Sum.elim (fun x7 =>
  HM.pure (.inl (x7.1, ()))) HM.pure)) (
  HM.pure (.inr (.inl (x4.1, ()))))) (p1, ())) (Sum.elim (fun x3 =>
  HM.pure (x3.1, ())) HM.pure))
theorem ref14_goOn_den (p0 : Option Addr) (p1 : Slc) : denFn Tryz.prog [48, 80] 89 [0, 1, 4, 5, 6, 7, 9, 14, 21, 42, 54] [0, 1, 5, 6, 7, 9, 14, 21, 42, 54] Tryz.f45.results.toList [.one .slc] (bodyOf Tryz.f45) [Kind.val (.one .ptr) p0, Kind.val (.one .slc) p1] = ref14_goOn p0 p1 := by kernel_rfl
theorem ref14_goOn_calls (p0 : Option Addr) (p1 : Slc) (h : Heap) (Q : Value → Heap → Prop) (hh : ref14_goOn p0 p1 h fun x h' => Q (.slice x.1.a x.1.len x.1.cap) h') :
    HCalls Tryz.prog 45 #[.pointer p0, .slice p1.a p1.len p1.cap] h Q :=
  calls_of_eq Tryz.func45 (by kernel_rfl) Tryz.ntmps45 (by kernel_rfl) (CC Tryz.call48 (CC Tryz.call80 CN)) orders (ref14_goOn_den p0 p1) hh
def outflow_Flow_Begin (p0 : Option Addr) (p1 : Int) : HM (Slc × Unit) :=
  HM.ite (Option.isNone p0) (
  HM.pure (⟨none, 0, 0⟩, ())) (
  HM.bind (α := Int) (HM.call1 Tryz.prog (.one (.int .i64)) 68 #[.int .i64 p1]) fun x1 =>
  HM.bind (α := Addr) (HM.nonnil p0) fun x2 =>
  HM.bind (α := Unit) (HM.store1 (Addr.add x2 2) (.bool true)) fun _ =>
  HM.bind (α := Addr) (HM.nonnil p0) fun x3 =>
  HM.bind (α := Unit) (HM.store1 (Addr.add x3 1) (.int .i64 x1)) fun _ =>
  HM.bind (α := Addr) (HM.nonnil p0) fun x4 =>
  HM.bind (α := Slc) (HM.load1 .slc (Addr.add x4 3)) fun x5 =>
  HM.bind (α := Slc × Int × Unit) (HM.loop (σ := Slc × Int × Unit) (τ := Slc × Int × Unit) (fun x7 =>
  HM.ite (decide (x7.2.1 < (((x5.len : Nat) : Int) : Int))) (
  HM.bind (α := Addr) (HM.idx x5.a x5.len x7.2.1 7) fun x8 =>
  HM.bind (α := Int × ByteArray × ByteArray × Int × Bool × ByteArray × Bool × Unit) (HM.loadN [.int .i64, .str, .str, .int .i64, .bool, .str, .bool] x8) fun x9 =>
  HM.bind (α := Nat) (HM.new (.cells #[.int .i64 0, .string (ByteArray.mk #[]), .string (ByteArray.mk #[]), .int .i64 0, .bool false, .string (ByteArray.mk #[]), .bool false] 158)) fun x10 =>
  HM.bind (α := Unit) (HM.storeN ⟨x10, 0, none⟩ [.int .i64 x9.1, .string x9.2.1, .string x9.2.2.1, .int .i64 x9.2.2.2.1, .bool x9.2.2.2.2.1, .string x9.2.2.2.2.2.1, .bool x9.2.2.2.2.2.2.1]) fun _ =>
  HM.bind (α := Bool) (HM.load1 .bool (Addr.add ⟨x10, 0, none⟩ 6)) fun x11 =>
  HM.bind (α := Slc × Unit) (HM.ite x11 (
  HM.bind (α := Int) (HM.load1 (.int .i64) (Addr.add ⟨x10, 0, none⟩ 0)) fun x13 =>
  HM.bind (α := Nat) (HM.new (.cells #[.int .i64 6, .bool false, .bool false, .int .i64 0, .int .i64 x13, .string (ByteArray.mk #[]), .string (ByteArray.mk #[]), .int .u8 0, .slice none 0 0, .slice none 0 0, .string (ByteArray.mk #[]), .bool false, .int .i64 0, .bool false, .string (ByteArray.mk #[]), .string (ByteArray.mk #[]), .int .i64 0, .bool false, .slice none 0 0, .bool false, .bool false, .string (ByteArray.mk #[]), .string (ByteArray.mk #[]), .bool false, .slice none 0 0, .slice none 0 0] 34)) fun x14 =>
  HM.bind (α := Slc) (HM.append 34 26 328 #[.int .i64 0, .bool false, .bool false, .int .i64 0, .int .i64 0, .string (ByteArray.mk #[]), .string (ByteArray.mk #[]), .int .u8 0, .slice none 0 0, .slice none 0 0, .string (ByteArray.mk #[]), .bool false, .int .i64 0, .bool false, .string (ByteArray.mk #[]), .string (ByteArray.mk #[]), .int .i64 0, .bool false, .slice none 0 0, .bool false, .bool false, .string (ByteArray.mk #[]), .string (ByteArray.mk #[]), .bool false, .slice none 0 0, .slice none 0 0] x7.1 1 (srcSlc 26 (⟨some ⟨x14, 0, none⟩, 1, 1⟩))) fun x15 =>
  HM.pure (x15, ())) (
  HM.bind (α := ByteArray × ByteArray × Int × Bool × ByteArray × Unit) (HM.loadN [.str, .str, .int .i64, .bool, .str] (Addr.add ⟨x10, 0, none⟩ 1)) fun x16 =>
  HM.bind (α := Int) (HM.load1 (.int .i64) (Addr.add ⟨x10, 0, none⟩ 0)) fun x17 =>
  HM.bind (α := Int × Bool × Bool × Int × Int × ByteArray × ByteArray × Int × Slc × Slc × ByteArray × Bool × Int × Bool × ByteArray × ByteArray × Int × Bool × Slc × Bool × Bool × ByteArray × ByteArray × Bool × Slc × Slc × Unit) (HM.call1 Tryz.prog (.agg [.int .i64, .bool, .bool, .int .i64, .int .i64, .str, .str, .int .u8, .slc, .slc, .str, .bool, .int .i64, .bool, .str, .str, .int .i64, .bool, .slc, .bool, .bool, .str, .str, .bool, .slc, .slc]) 81 #[.agg #[.string x16.1, .string x16.2.1, .int .i64 x16.2.2.1, .bool x16.2.2.2.1, .string x16.2.2.2.2.1], .int .i64 x17, .bool true]) fun x18 =>
  HM.bind (α := Nat) (HM.new (.cells #[.int .i64 x18.1, .bool x18.2.1, .bool x18.2.2.1, .int .i64 x18.2.2.2.1, .int .i64 x18.2.2.2.2.1, .string x18.2.2.2.2.2.1, .string x18.2.2.2.2.2.2.1, .int .u8 x18.2.2.2.2.2.2.2.1, .slice x18.2.2.2.2.2.2.2.2.1.a x18.2.2.2.2.2.2.2.2.1.len x18.2.2.2.2.2.2.2.2.1.cap, .slice x18.2.2.2.2.2.2.2.2.2.1.a x18.2.2.2.2.2.2.2.2.2.1.len x18.2.2.2.2.2.2.2.2.2.1.cap, .string x18.2.2.2.2.2.2.2.2.2.2.1, .bool x18.2.2.2.2.2.2.2.2.2.2.2.1, .int .i64 x18.2.2.2.2.2.2.2.2.2.2.2.2.1, .bool x18.2.2.2.2.2.2.2.2.2.2.2.2.2.1, .string x18.2.2.2.2.2.2.2.2.2.2.2.2.2.2.1, .string x18.2.2.2.2.2.2.2.2.2.2.2.2.2.2.2.1, .int .i64 x18.2.2.2.2.2.2.2.2.2.2.2.2.2.2.2.2.1, .bool x18.2.2.2.2.2.2.2.2.2.2.2.2.2.2.2.2.2.1, .slice x18.2.2.2.2.2.2.2.2.2.2.2.2.2.2.2.2.2.2.1.a x18.2.2.2.2.2.2.2.2.2.2.2.2.2.2.2.2.2.2.1.len x18.2.2.2.2.2.2.2.2.2.2.2.2.2.2.2.2.2.2.1.cap, .bool x18.2.2.2.2.2.2.2.2.2.2.2.2.2.2.2.2.2.2.2.1, .bool x18.2.2.2.2.2.2.2.2.2.2.2.2.2.2.2.2.2.2.2.2.1, .string x18.2.2.2.2.2.2.2.2.2.2.2.2.2.2.2.2.2.2.2.2.2.1, .string x18.2.2.2.2.2.2.2.2.2.2.2.2.2.2.2.2.2.2.2.2.2.2.1, .bool x18.2.2.2.2.2.2.2.2.2.2.2.2.2.2.2.2.2.2.2.2.2.2.2.1, .slice x18.2.2.2.2.2.2.2.2.2.2.2.2.2.2.2.2.2.2.2.2.2.2.2.2.1.a x18.2.2.2.2.2.2.2.2.2.2.2.2.2.2.2.2.2.2.2.2.2.2.2.2.1.len x18.2.2.2.2.2.2.2.2.2.2.2.2.2.2.2.2.2.2.2.2.2.2.2.2.1.cap, .slice x18.2.2.2.2.2.2.2.2.2.2.2.2.2.2.2.2.2.2.2.2.2.2.2.2.2.1.a x18.2.2.2.2.2.2.2.2.2.2.2.2.2.2.2.2.2.2.2.2.2.2.2.2.2.1.len x18.2.2.2.2.2.2.2.2.2.2.2.2.2.2.2.2.2.2.2.2.2.2.2.2.2.1.cap] 34)) fun x19 =>
  HM.bind (α := Slc) (HM.append 34 26 328 #[.int .i64 0, .bool false, .bool false, .int .i64 0, .int .i64 0, .string (ByteArray.mk #[]), .string (ByteArray.mk #[]), .int .u8 0, .slice none 0 0, .slice none 0 0, .string (ByteArray.mk #[]), .bool false, .int .i64 0, .bool false, .string (ByteArray.mk #[]), .string (ByteArray.mk #[]), .int .i64 0, .bool false, .slice none 0 0, .bool false, .bool false, .string (ByteArray.mk #[]), .string (ByteArray.mk #[]), .bool false, .slice none 0 0, .slice none 0 0] x7.1 1 (srcSlc 26 (⟨some ⟨x19, 0, none⟩, 1, 1⟩))) fun x20 =>
  HM.pure (x20, ()))) fun x12 =>
  HM.pure (.inl (x12.1, IntKind.wrap .i64 (x7.2.1 + 1), ()))) (
  HM.pure (.inr (x7.1, x7.2.1, ())))) (⟨none, 0, 0⟩, 0, ())) fun x6 =>
  HM.bind (α := Slc) (HM.call1 Tryz.prog (.one .slc) 78 #[.pointer p0, .slice x6.1.a x6.1.len x6.1.cap]) fun x21 =>
  HM.pure (x21, ()))
theorem outflow_Flow_Begin_den (p0 : Option Addr) (p1 : Int) : denFn Tryz.prog [68, 81, 78] 47 [0, 1, 4, 5, 7, 9, 21, 22, 23, 24, 28] [0, 1, 5, 7, 9, 21, 22, 23, 24, 28] Tryz.f46.results.toList [.one .slc] (bodyOf Tryz.f46) [Kind.val (.one .ptr) p0, Kind.val (.one (.int .i64)) p1] = outflow_Flow_Begin p0 p1 := by kernel_rfl
theorem outflow_Flow_Begin_calls (p0 : Option Addr) (p1 : Int) (h : Heap) (Q : Value → Heap → Prop) (hh : outflow_Flow_Begin p0 p1 h fun x h' => Q (.slice x.1.a x.1.len x.1.cap) h') :
    HCalls Tryz.prog 46 #[.pointer p0, .int .i64 p1] h Q :=
  calls_of_eq Tryz.func46 (by kernel_rfl) Tryz.ntmps46 (by kernel_rfl) (CC Tryz.call68 (CC Tryz.call81 (CC Tryz.call78 CN))) orders (outflow_Flow_Begin_den p0 p1) hh
def ref14_bound (p0 : Int) : HM (Int × Unit) :=
  HM.bind (α := Option Addr) (HM.call1 Tryz.prog (.one .ptr) 71 #[.int .i64 p0]) fun x1 =>
  HM.bind (α := Addr) (HM.nonnil x1) fun x2 =>
  HM.bind (α := Int) (HM.load1 (.int .i64) (Addr.add x2 0)) fun x3 =>
  HM.pure (x3, ())
theorem ref14_bound_den (p0 : Int) : denFn Tryz.prog [71] 10 [0, 2, 3] [0, 3] Tryz.f47.results.toList [.one (.int .i64)] (bodyOf Tryz.f47) [Kind.val (.one (.int .i64)) p0] = ref14_bound p0 := by kernel_rfl
theorem ref14_bound_calls (p0 : Int) (h : Heap) (Q : Value → Heap → Prop) (hh : ref14_bound p0 h fun x h' => Q (.int .i64 x.1) h') :
    HCalls Tryz.prog 47 #[.int .i64 p0] h Q :=
  calls_of_eq Tryz.func47 (by kernel_rfl) Tryz.ntmps47 (by kernel_rfl) (CC Tryz.call71 CN) orders (ref14_bound_den p0) hh
def ref14_Publish (p0 : ByteArray × ByteArray × Int × Bool × ByteArray × Unit) (p1 : Int) (p2 : Bool) : HM ((Int × Bool × Bool × Int × Int × ByteArray × ByteArray × Int × Slc × Slc × ByteArray × Bool × Int × Bool × ByteArray × ByteArray × Int × Bool × Slc × Bool × Bool × ByteArray × ByteArray × Bool × Slc × Slc × Unit) × Unit) :=
  HM.bind (α := Nat) (HM.new (.cells #[.string p0.1, .string p0.2.1, .int .i64 p0.2.2.1, .bool p0.2.2.2.1, .string p0.2.2.2.2.1] 56)) fun x1 =>
  HM.bind (α := Nat) (HM.new (.cells #[.int .i64 0, .bool false, .bool false, .int .i64 0, .int .i64 0, .string (ByteArray.mk #[]), .string (ByteArray.mk #[]), .int .i64 0, .slice none 0 0, .slice none 0 0, .string (ByteArray.mk #[]), .bool false, .int .i64 0, .bool false, .string (ByteArray.mk #[]), .string (ByteArray.mk #[]), .int .i64 0, .bool false, .slice none 0 0, .bool false, .bool false, .string (ByteArray.mk #[]), .string (ByteArray.mk #[]), .bool false, .slice none 0 0, .slice none 0 0] 41)) fun x2 =>
  HM.bind (α := Int) (HM.load1 (.int .i64) (Addr.add ⟨x1, 0, none⟩ 2)) fun x3 =>
  HM.bind (α := Bool) (HM.load1 .bool (Addr.add ⟨x1, 0, none⟩ 3)) fun x4 =>
  HM.bind (α := ByteArray) (HM.load1 .str (Addr.add ⟨x1, 0, none⟩ 0)) fun x5 =>
  HM.bind (α := ByteArray) (HM.load1 .str (Addr.add ⟨x1, 0, none⟩ 1)) fun x6 =>
  HM.bind (α := Nat) (HM.new (.cells #[.int .i64 0, .bool false, .bool false, .int .i64 0, .int .i64 0, .string (ByteArray.mk #[]), .string (ByteArray.mk #[]), .int .i64 0, .slice none 0 0, .slice none 0 0, .string (ByteArray.mk #[]), .bool false, .int .i64 0, .bool false, .string (ByteArray.mk #[]), .string (ByteArray.mk #[]), .int .i64 0, .bool false, .slice none 0 0, .bool false, .bool false, .string (ByteArray.mk #[]), .string (ByteArray.mk #[]), .bool false, .slice none 0 0, .slice none 0 0] 41)) fun x7 =>
  HM.bind (α := Unit) (HM.storeN ⟨x7, 0, none⟩ [.int .i64 3, .bool p2, .bool x4, .int .i64 x3, .int .i64 p1, .string x5, .string x6, .int .i64 0, .slice none 0 0, .slice none 0 0, .string (ByteArray.mk #[]), .bool false, .int .i64 0, .bool false, .string (ByteArray.mk #[]), .string (ByteArray.mk #[]), .int .i64 0, .bool false, .slice none 0 0, .bool false, .bool false, .string (ByteArray.mk #[]), .string (ByteArray.mk #[]), .bool false, .slice none 0 0, .slice none 0 0]) fun _ =>
  HM.bind (α := ByteArray) (HM.load1 .str (Addr.add ⟨x1, 0, none⟩ 4)) fun x8 =>
  HM.bind (α := Unit) (HM.ite (decide (0 < (((ByteArray.size x8 : Nat) : Int) : Int))) (
  HM.bind (α := ByteArray) (HM.load1 .str (Addr.add ⟨x1, 0, none⟩ 4)) fun x10 =>
  HM.bind (α := Nat) (HM.new (.cells #[.int .i64 38, .int .i64 0, .string (ByteArray.mk #[116, 97, 103]), .string x10] 45)) fun x11 =>
  HM.bind (α := Unit) (HM.store1 (Addr.add ⟨x7, 0, none⟩ 9) (.slice (some ⟨x11, 0, none⟩) 1 1)) fun _ =>
  HM.pure ()) (
  HM.pure ())) fun x9 =>
  HM.bind (α := Int × Bool × Bool × Int × Int × ByteArray × ByteArray × Int × Slc × Slc × ByteArray × Bool × Int × Bool × ByteArray × ByteArray × Int × Bool × Slc × Bool × Bool × ByteArray × ByteArray × Bool × Slc × Slc × Unit) (HM.loadN [.int .i64, .bool, .bool, .int .i64, .int .i64, .str, .str, .int .i64, .slc, .slc, .str, .bool, .int .i64, .bool, .str, .str, .int .i64, .bool, .slc, .bool, .bool, .str, .str, .bool, .slc, .slc] ⟨x7, 0, none⟩) fun x12 =>
  HM.bind (α := Unit) (HM.storeN ⟨x2, 0, none⟩ [.int .i64 x12.1, .bool x12.2.1, .bool x12.2.2.1, .int .i64 x12.2.2.2.1, .int .i64 x12.2.2.2.2.1, .string x12.2.2.2.2.2.1, .string x12.2.2.2.2.2.2.1, .int .i64 x12.2.2.2.2.2.2.2.1, .slice x12.2.2.2.2.2.2.2.2.1.a x12.2.2.2.2.2.2.2.2.1.len x12.2.2.2.2.2.2.2.2.1.cap, .slice x12.2.2.2.2.2.2.2.2.2.1.a x12.2.2.2.2.2.2.2.2.2.1.len x12.2.2.2.2.2.2.2.2.2.1.cap, .string x12.2.2.2.2.2.2.2.2.2.2.1, .bool x12.2.2.2.2.2.2.2.2.2.2.2.1, .int .i64 x12.2.2.2.2.2.2.2.2.2.2.2.2.1, .bool x12.2.2.2.2.2.2.2.2.2.2.2.2.2.1, .string x12.2.2.2.2.2.2.2.2.2.2.2.2.2.2.1, .string x12.2.2.2.2.2.2.2.2.2.2.2.2.2.2.2.1, .int .i64 x12.2.2.2.2.2.2.2.2.2.2.2.2.2.2.2.2.1, .bool x12.2.2.2.2.2.2.2.2.2.2.2.2.2.2.2.2.2.1, .slice x12.2.2.2.2.2.2.2.2.2.2.2.2.2.2.2.2.2.2.1.a x12.2.2.2.2.2.2.2.2.2.2.2.2.2.2.2.2.2.2.1.len x12.2.2.2.2.2.2.2.2.2.2.2.2.2.2.2.2.2.2.1.cap, .bool x12.2.2.2.2.2.2.2.2.2.2.2.2.2.2.2.2.2.2.2.1, .bool x12.2.2.2.2.2.2.2.2.2.2.2.2.2.2.2.2.2.2.2.2.1, .string x12.2.2.2.2.2.2.2.2.2.2.2.2.2.2.2.2.2.2.2.2.2.1, .string x12.2.2.2.2.2.2.2.2.2.2.2.2.2.2.2.2.2.2.2.2.2.2.1, .bool x12.2.2.2.2.2.2.2.2.2.2.2.2.2.2.2.2.2.2.2.2.2.2.2.1, .slice x12.2.2.2.2.2.2.2.2.2.2.2.2.2.2.2.2.2.2.2.2.2.2.2.2.1.a x12.2.2.2.2.2.2.2.2.2.2.2.2.2.2.2.2.2.2.2.2.2.2.2.2.1.len x12.2.2.2.2.2.2.2.2.2.2.2.2.2.2.2.2.2.2.2.2.2.2.2.2.1.cap, .slice x12.2.2.2.2.2.2.2.2.2.2.2.2.2.2.2.2.2.2.2.2.2.2.2.2.2.1.a x12.2.2.2.2.2.2.2.2.2.2.2.2.2.2.2.2.2.2.2.2.2.2.2.2.2.1.len x12.2.2.2.2.2.2.2.2.2.2.2.2.2.2.2.2.2.2.2.2.2.2.2.2.2.1.cap]) fun _ =>
  HM.bind (α := Int × Bool × Bool × Int × Int × ByteArray × ByteArray × Int × Slc × Slc × ByteArray × Bool × Int × Bool × ByteArray × ByteArray × Int × Bool × Slc × Bool × Bool × ByteArray × ByteArray × Bool × Slc × Slc × Unit) (HM.loadN [.int .i64, .bool, .bool, .int .i64, .int .i64, .str, .str, .int .i64, .slc, .slc, .str, .bool, .int .i64, .bool, .str, .str, .int .i64, .bool, .slc, .bool, .bool, .str, .str, .bool, .slc, .slc] ⟨x2, 0, none⟩) fun x13 =>
  HM.pure ((x13.1, x13.2.1, x13.2.2.1, x13.2.2.2.1, x13.2.2.2.2.1, x13.2.2.2.2.2.1, x13.2.2.2.2.2.2.1, x13.2.2.2.2.2.2.2.1, x13.2.2.2.2.2.2.2.2.1, x13.2.2.2.2.2.2.2.2.2.1, x13.2.2.2.2.2.2.2.2.2.2.1, x13.2.2.2.2.2.2.2.2.2.2.2.1, x13.2.2.2.2.2.2.2.2.2.2.2.2.1, x13.2.2.2.2.2.2.2.2.2.2.2.2.2.1, x13.2.2.2.2.2.2.2.2.2.2.2.2.2.2.1, x13.2.2.2.2.2.2.2.2.2.2.2.2.2.2.2.1, x13.2.2.2.2.2.2.2.2.2.2.2.2.2.2.2.2.1, x13.2.2.2.2.2.2.2.2.2.2.2.2.2.2.2.2.2.1, x13.2.2.2.2.2.2.2.2.2.2.2.2.2.2.2.2.2.2.1, x13.2.2.2.2.2.2.2.2.2.2.2.2.2.2.2.2.2.2.2.1, x13.2.2.2.2.2.2.2.2.2.2.2.2.2.2.2.2.2.2.2.2.1, x13.2.2.2.2.2.2.2.2.2.2.2.2.2.2.2.2.2.2.2.2.2.1, x13.2.2.2.2.2.2.2.2.2.2.2.2.2.2.2.2.2.2.2.2.2.2.1, x13.2.2.2.2.2.2.2.2.2.2.2.2.2.2.2.2.2.2.2.2.2.2.2.1, x13.2.2.2.2.2.2.2.2.2.2.2.2.2.2.2.2.2.2.2.2.2.2.2.2.1, x13.2.2.2.2.2.2.2.2.2.2.2.2.2.2.2.2.2.2.2.2.2.2.2.2.2.1, ()), ())
theorem ref14_Publish_den (p0 : ByteArray × ByteArray × Int × Bool × ByteArray × Unit) (p1 : Int) (p2 : Bool) : denFn Tryz.prog [] 29 [0, 1, 2, 3, 6, 7, 22] [0, 1, 2, 3, 6, 7, 22] Tryz.f48.results.toList [.agg [.int .i64, .bool, .bool, .int .i64, .int .i64, .str, .str, .int .i64, .slc, .slc, .str, .bool, .int .i64, .bool, .str, .str, .int .i64, .bool, .slc, .bool, .bool, .str, .str, .bool, .slc, .slc]] (bodyOf Tryz.f48) [Kind.val (.agg [.str, .str, .int .i64, .bool, .str]) p0, Kind.val (.one (.int .i64)) p1, Kind.val (.one .bool) p2] = ref14_Publish p0 p1 p2 := by kernel_rfl
theorem ref14_Publish_calls (p0 : ByteArray × ByteArray × Int × Bool × ByteArray × Unit) (p1 : Int) (p2 : Bool) (h : Heap) (Q : Value → Heap → Prop) (hh : ref14_Publish p0 p1 p2 h fun x h' => Q (.agg #[.int .i64 x.1.1, .bool x.1.2.1, .bool x.1.2.2.1, .int .i64 x.1.2.2.2.1, .int .i64 x.1.2.2.2.2.1, .string x.1.2.2.2.2.2.1, .string x.1.2.2.2.2.2.2.1, .int .i64 x.1.2.2.2.2.2.2.2.1, .slice x.1.2.2.2.2.2.2.2.2.1.a x.1.2.2.2.2.2.2.2.2.1.len x.1.2.2.2.2.2.2.2.2.1.cap, .slice x.1.2.2.2.2.2.2.2.2.2.1.a x.1.2.2.2.2.2.2.2.2.2.1.len x.1.2.2.2.2.2.2.2.2.2.1.cap, .string x.1.2.2.2.2.2.2.2.2.2.2.1, .bool x.1.2.2.2.2.2.2.2.2.2.2.2.1, .int .i64 x.1.2.2.2.2.2.2.2.2.2.2.2.2.1, .bool x.1.2.2.2.2.2.2.2.2.2.2.2.2.2.1, .string x.1.2.2.2.2.2.2.2.2.2.2.2.2.2.2.1, .string x.1.2.2.2.2.2.2.2.2.2.2.2.2.2.2.2.1, .int .i64 x.1.2.2.2.2.2.2.2.2.2.2.2.2.2.2.2.2.1, .bool x.1.2.2.2.2.2.2.2.2.2.2.2.2.2.2.2.2.2.1, .slice x.1.2.2.2.2.2.2.2.2.2.2.2.2.2.2.2.2.2.2.1.a x.1.2.2.2.2.2.2.2.2.2.2.2.2.2.2.2.2.2.2.1.len x.1.2.2.2.2.2.2.2.2.2.2.2.2.2.2.2.2.2.2.1.cap, .bool x.1.2.2.2.2.2.2.2.2.2.2.2.2.2.2.2.2.2.2.2.1, .bool x.1.2.2.2.2.2.2.2.2.2.2.2.2.2.2.2.2.2.2.2.2.1, .string x.1.2.2.2.2.2.2.2.2.2.2.2.2.2.2.2.2.2.2.2.2.2.1, .string x.1.2.2.2.2.2.2.2.2.2.2.2.2.2.2.2.2.2.2.2.2.2.2.1, .bool x.1.2.2.2.2.2.2.2.2.2.2.2.2.2.2.2.2.2.2.2.2.2.2.2.1, .slice x.1.2.2.2.2.2.2.2.2.2.2.2.2.2.2.2.2.2.2.2.2.2.2.2.2.1.a x.1.2.2.2.2.2.2.2.2.2.2.2.2.2.2.2.2.2.2.2.2.2.2.2.2.1.len x.1.2.2.2.2.2.2.2.2.2.2.2.2.2.2.2.2.2.2.2.2.2.2.2.2.1.cap, .slice x.1.2.2.2.2.2.2.2.2.2.2.2.2.2.2.2.2.2.2.2.2.2.2.2.2.2.1.a x.1.2.2.2.2.2.2.2.2.2.2.2.2.2.2.2.2.2.2.2.2.2.2.2.2.2.1.len x.1.2.2.2.2.2.2.2.2.2.2.2.2.2.2.2.2.2.2.2.2.2.2.2.2.2.1.cap]) h') :
    HCalls Tryz.prog 48 #[.agg #[.string p0.1, .string p0.2.1, .int .i64 p0.2.2.1, .bool p0.2.2.2.1, .string p0.2.2.2.2.1], .int .i64 p1, .bool p2] h Q :=
  calls_of_eq Tryz.func48 (by kernel_rfl) Tryz.ntmps48 (by kernel_rfl) CN orders (ref14_Publish_den p0 p1 p2) hh
def outflow_Flow_End (p0 : Option Addr) : HM (Unit) :=
  HM.bind (α := Unit) (HM.ite (!(Option.isNone p0)) (
  HM.bind (α := Addr) (HM.nonnil p0) fun x2 =>
  HM.bind (α := Unit) (HM.store1 (Addr.add x2 2) (.bool false)) fun _ =>
  HM.pure ()) (
  HM.pure ())) fun x1 =>
  HM.pure ()
theorem outflow_Flow_End_den (p0 : Option Addr) : denFn Tryz.prog [] 7 [0, 3] [0, 3] Tryz.f49.results.toList [] (bodyOf Tryz.f49) [Kind.val (.one .ptr) p0] = outflow_Flow_End p0 := by kernel_rfl
theorem outflow_Flow_End_calls (p0 : Option Addr) (h : Heap) (Q : Value → Heap → Prop) (hh : outflow_Flow_End p0 h fun x h' => Q (.tuple #[]) h') :
    HCalls Tryz.prog 49 #[.pointer p0] h Q :=
  calls_of_eq Tryz.func49 (by kernel_rfl) Tryz.ntmps49 (by kernel_rfl) CN orders (outflow_Flow_End_den p0) hh
def packet_Put (p0 : Int × Bool × Bool × Int × Int × ByteArray × ByteArray × Int × Slc × Slc × ByteArray × Bool × Int × Bool × ByteArray × ByteArray × Int × Bool × Slc × Bool × Bool × ByteArray × ByteArray × Bool × Slc × Slc × Unit) : HM (ByteArray × Int × Unit) :=
  HM.bind (α := Nat) (HM.new (.cells #[.int .i64 p0.1, .bool p0.2.1, .bool p0.2.2.1, .int .i64 p0.2.2.2.1, .int .i64 p0.2.2.2.2.1, .string p0.2.2.2.2.2.1, .string p0.2.2.2.2.2.2.1, .int .u8 p0.2.2.2.2.2.2.2.1, .slice p0.2.2.2.2.2.2.2.2.1.a p0.2.2.2.2.2.2.2.2.1.len p0.2.2.2.2.2.2.2.2.1.cap, .slice p0.2.2.2.2.2.2.2.2.2.1.a p0.2.2.2.2.2.2.2.2.2.1.len p0.2.2.2.2.2.2.2.2.2.1.cap, .string p0.2.2.2.2.2.2.2.2.2.2.1, .bool p0.2.2.2.2.2.2.2.2.2.2.2.1, .int .i64 p0.2.2.2.2.2.2.2.2.2.2.2.2.1, .bool p0.2.2.2.2.2.2.2.2.2.2.2.2.2.1, .string p0.2.2.2.2.2.2.2.2.2.2.2.2.2.2.1, .string p0.2.2.2.2.2.2.2.2.2.2.2.2.2.2.2.1, .int .i64 p0.2.2.2.2.2.2.2.2.2.2.2.2.2.2.2.2.1, .bool p0.2.2.2.2.2.2.2.2.2.2.2.2.2.2.2.2.2.1, .slice p0.2.2.2.2.2.2.2.2.2.2.2.2.2.2.2.2.2.2.1.a p0.2.2.2.2.2.2.2.2.2.2.2.2.2.2.2.2.2.2.1.len p0.2.2.2.2.2.2.2.2.2.2.2.2.2.2.2.2.2.2.1.cap, .bool p0.2.2.2.2.2.2.2.2.2.2.2.2.2.2.2.2.2.2.2.1, .bool p0.2.2.2.2.2.2.2.2.2.2.2.2.2.2.2.2.2.2.2.2.1, .string p0.2.2.2.2.2.2.2.2.2.2.2.2.2.2.2.2.2.2.2.2.2.1, .string p0.2.2.2.2.2.2.2.2.2.2.2.2.2.2.2.2.2.2.2.2.2.2.1, .bool p0.2.2.2.2.2.2.2.2.2.2.2.2.2.2.2.2.2.2.2.2.2.2.2.1, .slice p0.2.2.2.2.2.2.2.2.2.2.2.2.2.2.2.2.2.2.2.2.2.2.2.2.1.a p0.2.2.2.2.2.2.2.2.2.2.2.2.2.2.2.2.2.2.2.2.2.2.2.2.1.len p0.2.2.2.2.2.2.2.2.2.2.2.2.2.2.2.2.2.2.2.2.2.2.2.2.1.cap, .slice p0.2.2.2.2.2.2.2.2.2.2.2.2.2.2.2.2.2.2.2.2.2.2.2.2.2.1.a p0.2.2.2.2.2.2.2.2.2.2.2.2.2.2.2.2.2.2.2.2.2.2.2.2.2.1.len p0.2.2.2.2.2.2.2.2.2.2.2.2.2.2.2.2.2.2.2.2.2.2.2.2.2.1.cap] 34)) fun x1 =>
  HM.bind (α := Int) (HM.load1 (.int .i64) (Addr.add ⟨x1, 0, none⟩ 0)) fun x2 =>
  HM.bind (α := Int) (HM.call1 Tryz.prog (.one (.int .i64)) 82 #[.int .i64 x2]) fun x3 =>
  HM.bind (α := Nat) (HM.new (.cells #[.pointer none, .slice none 0 0, .int .u8 0] 201)) fun x4 =>
  HM.bind (α := Bool × Unit) (HM.bind (α := Int) (HM.load1 (.int .i64) (Addr.add ⟨x1, 0, none⟩ 0)) fun x5 =>
  HM.ite (decide (x5 < (1 : Int))) (
  HM.pure (true, ())) (
  HM.bind (α := Int) (HM.load1 (.int .i64) (Addr.add ⟨x1, 0, none⟩ 0)) fun x6 =>
  HM.pure (decide (15 < (x6 : Int)), ()))) fun x7 =>
  HM.ite x7.1 (
  HM.pure (ByteArray.mk #[], 129, ())) (
  HM.bind (α := Int) (HM.load1 (.int .i64) (Addr.add ⟨x1, 0, none⟩ 0)) fun x8 =>
  HM.bind (α := Int × Unit) (HM.ite (x8 == 3) (
  HM.bind (α := Int) (HM.load1 (.int .i64) (Addr.add ⟨x1, 0, none⟩ 3)) fun x10 =>
  HM.bind (α := Unit) (HM.callN Tryz.prog [] 83 #[.pointer (some ⟨x4, 0, none⟩), .int .i64 x10]) fun x11 =>
  HM.bind (α := Bool × Unit) (HM.bind (α := Bool) (HM.load1 .bool (Addr.add ⟨x1, 0, none⟩ 1)) fun x12 =>
  HM.ite x12 (
  HM.bind (α := Int) (HM.load1 (.int .i64) (Addr.add ⟨x1, 0, none⟩ 3)) fun x13 =>
  HM.pure (x13 == 0, ())) (
  HM.pure (false, ()))) fun x14 =>
  HM.bind (α := Unit) (HM.ite x14.1 (
  HM.bind (α := Unit) (HM.callN Tryz.prog [] 84 #[.pointer (some ⟨x4, 0, none⟩), .int .u8 129]) fun x16 =>
  HM.pure ()) (
  HM.pure ())) fun x15 =>
  HM.bind (α := Bool) (HM.load1 .bool (Addr.add ⟨x1, 0, none⟩ 1)) fun x17 =>
  HM.bind (α := Int) (HM.load1 (.int .i64) (Addr.add ⟨x1, 0, none⟩ 3)) fun x18 =>
  HM.req ((0 : Int) ≤ 1) <|
  HM.bind (α := Bool) (HM.load1 .bool (Addr.add ⟨x1, 0, none⟩ 2)) fun x19 =>
  HM.bind (α := Int) (HM.call1 Tryz.prog (.one (.int .i64)) 85 #[.bool x17, .int .i64 8]) fun x20 =>
  HM.bind (α := Bool) (HM.load1 .bool (Addr.add ⟨x1, 0, none⟩ 2)) fun x21 =>
  HM.req ((.bool x21 : Value) = .bool x19) <|
  HM.bind (α := Int) (HM.load1 (.int .i64) (Addr.add ⟨x1, 0, none⟩ 3)) fun x22 =>
  HM.req ((.int .i64 x22 : Value) = .int .i64 x18) <|
  HM.bind (α := Int) (HM.call1 Tryz.prog (.one (.int .i64)) 85 #[.bool x19, .int .i64 1]) fun x23 =>
  HM.bind (α := Int) (HM.load1 (.int .i64) (Addr.add ⟨x1, 0, none⟩ 3)) fun x24 =>
  HM.req ((.int .i64 x24 : Value) = .int .i64 x18) <|
  HM.pure (IntKind.wrap .i64 ((IntKind.wrap .i64 (x20 + (IntKind.wrap .i64 ((bitOp .and .i64 x18 3) * 2 ^ (min (Int.toNat 1) (IntKind.bits .i64)))))) + x23), ())) (
  HM.pure (x3, ()))) fun x9 =>
  HM.bind (α := Int × Bool × Bool × Int × Int × ByteArray × ByteArray × Int × Slc × Slc × ByteArray × Bool × Int × Bool × ByteArray × ByteArray × Int × Bool × Slc × Bool × Bool × ByteArray × ByteArray × Bool × Slc × Slc × Unit) (HM.loadN [.int .i64, .bool, .bool, .int .i64, .int .i64, .str, .str, .int .u8, .slc, .slc, .str, .bool, .int .i64, .bool, .str, .str, .int .i64, .bool, .slc, .bool, .bool, .str, .str, .bool, .slc, .slc] ⟨x1, 0, none⟩) fun x25 =>
  HM.bind (α := Unit) (HM.callN Tryz.prog [] 86 #[.pointer (some ⟨x4, 0, none⟩), .agg #[.int .i64 x25.1, .bool x25.2.1, .bool x25.2.2.1, .int .i64 x25.2.2.2.1, .int .i64 x25.2.2.2.2.1, .string x25.2.2.2.2.2.1, .string x25.2.2.2.2.2.2.1, .int .u8 x25.2.2.2.2.2.2.2.1, .slice x25.2.2.2.2.2.2.2.2.1.a x25.2.2.2.2.2.2.2.2.1.len x25.2.2.2.2.2.2.2.2.1.cap, .slice x25.2.2.2.2.2.2.2.2.2.1.a x25.2.2.2.2.2.2.2.2.2.1.len x25.2.2.2.2.2.2.2.2.2.1.cap, .string x25.2.2.2.2.2.2.2.2.2.2.1, .bool x25.2.2.2.2.2.2.2.2.2.2.2.1, .int .i64 x25.2.2.2.2.2.2.2.2.2.2.2.2.1, .bool x25.2.2.2.2.2.2.2.2.2.2.2.2.2.1, .string x25.2.2.2.2.2.2.2.2.2.2.2.2.2.2.1, .string x25.2.2.2.2.2.2.2.2.2.2.2.2.2.2.2.1, .int .i64 x25.2.2.2.2.2.2.2.2.2.2.2.2.2.2.2.2.1, .bool x25.2.2.2.2.2.2.2.2.2.2.2.2.2.2.2.2.2.1, .slice x25.2.2.2.2.2.2.2.2.2.2.2.2.2.2.2.2.2.2.1.a x25.2.2.2.2.2.2.2.2.2.2.2.2.2.2.2.2.2.2.1.len x25.2.2.2.2.2.2.2.2.2.2.2.2.2.2.2.2.2.2.1.cap, .bool x25.2.2.2.2.2.2.2.2.2.2.2.2.2.2.2.2.2.2.2.1, .bool x25.2.2.2.2.2.2.2.2.2.2.2.2.2.2.2.2.2.2.2.2.1, .string x25.2.2.2.2.2.2.2.2.2.2.2.2.2.2.2.2.2.2.2.2.2.1, .string x25.2.2.2.2.2.2.2.2.2.2.2.2.2.2.2.2.2.2.2.2.2.2.1, .bool x25.2.2.2.2.2.2.2.2.2.2.2.2.2.2.2.2.2.2.2.2.2.2.2.1, .slice x25.2.2.2.2.2.2.2.2.2.2.2.2.2.2.2.2.2.2.2.2.2.2.2.2.1.a x25.2.2.2.2.2.2.2.2.2.2.2.2.2.2.2.2.2.2.2.2.2.2.2.2.1.len x25.2.2.2.2.2.2.2.2.2.2.2.2.2.2.2.2.2.2.2.2.2.2.2.2.1.cap, .slice x25.2.2.2.2.2.2.2.2.2.2.2.2.2.2.2.2.2.2.2.2.2.2.2.2.2.1.a x25.2.2.2.2.2.2.2.2.2.2.2.2.2.2.2.2.2.2.2.2.2.2.2.2.2.1.len x25.2.2.2.2.2.2.2.2.2.2.2.2.2.2.2.2.2.2.2.2.2.2.2.2.2.1.cap]]) fun x26 =>
  HM.bind (α := Addr) (HM.nonnil (some ⟨x4, 0, none⟩)) fun x27 =>
  HM.bind (α := Int) (HM.load1 (.int .u8) (Addr.add x27 2)) fun x28 =>
  HM.ite (!(x28 == 0)) (
  HM.bind (α := Addr) (HM.nonnil (some ⟨x4, 0, none⟩)) fun x29 =>
  HM.bind (α := Int) (HM.load1 (.int .u8) (Addr.add x29 2)) fun x30 =>
  HM.pure (ByteArray.mk #[], x30, ())) (
  HM.bind (α := Addr) (HM.nonnil (some ⟨x4, 0, none⟩)) fun x31 =>
  HM.bind (α := Int) (HM.call1 Tryz.prog (.one (.int .i64)) 87 #[.pointer (some (Addr.add x31 0))]) fun x32 =>
  HM.ite (decide (65536 < (x32 : Int))) (
  HM.pure (ByteArray.mk #[], 149, ())) (
  HM.bind (α := Int) (HM.load1 (.int .i64) (Addr.add ⟨x1, 0, none⟩ 0)) fun x33 =>
  HM.req ((0 : Int) ≤ 4) <|
  HM.bind (α := ByteArray × Int × Unit) (HM.callN Tryz.prog [.one .str, .one (.int .u8)] 88 #[.int .i64 1, .int .i64 (IntKind.wrap .i64 ((IntKind.wrap .i64 (x33 * 2 ^ (min (Int.toNat 4) (IntKind.bits .i64)))) + x9.1))]) fun x34 =>
  HM.bind (α := Addr) (HM.nonnil (some ⟨x4, 0, none⟩)) fun x35 =>
  HM.bind (α := Int) (HM.call1 Tryz.prog (.one (.int .i64)) 87 #[.pointer (some (Addr.add x35 0))]) fun x36 =>
  HM.bind (α := ByteArray × Int × Unit) (HM.callN Tryz.prog [.one .str, .one (.int .u8)] 89 #[.int .i64 x36]) fun x37 =>
  HM.req (ByteArray.size x34.1 + ByteArray.size x37.1 ≤ 9223372036854775807) <|
  HM.bind (α := Addr) (HM.nonnil (some ⟨x4, 0, none⟩)) fun x38 =>
  HM.bind (α := ByteArray) (HM.call1 Tryz.prog (.one .str) 90 #[.pointer (some (Addr.add x38 0))]) fun x39 =>
  HM.req (ByteArray.size (x34.1 ++ x37.1) + ByteArray.size x39 ≤ 9223372036854775807) <|
  HM.pure ((x34.1 ++ x37.1) ++ x39, 0, ()))))
theorem packet_Put_den (p0 : Int × Bool × Bool × Int × Int × ByteArray × ByteArray × Int × Slc × Slc × ByteArray × Bool × Int × Bool × ByteArray × ByteArray × Int × Bool × Slc × Bool × Bool × ByteArray × ByteArray × Bool × Slc × Slc × Unit) : denFn Tryz.prog [82, 83, 84, 85, 86, 87, 88, 89, 90] 97 [0, 1, 2, 3, 4, 5, 6, 8, 15, 24, 38, 56, 66] [0, 1, 4, 5, 6, 8, 15, 24, 38, 56, 66] Tryz.f50.results.toList [.one .str, .one (.int .u8)] (bodyOf Tryz.f50) [Kind.val (.agg [.int .i64, .bool, .bool, .int .i64, .int .i64, .str, .str, .int .u8, .slc, .slc, .str, .bool, .int .i64, .bool, .str, .str, .int .i64, .bool, .slc, .bool, .bool, .str, .str, .bool, .slc, .slc]) p0] = packet_Put p0 := by kernel_rfl
theorem packet_Put_calls (p0 : Int × Bool × Bool × Int × Int × ByteArray × ByteArray × Int × Slc × Slc × ByteArray × Bool × Int × Bool × ByteArray × ByteArray × Int × Bool × Slc × Bool × Bool × ByteArray × ByteArray × Bool × Slc × Slc × Unit) (h : Heap) (Q : Value → Heap → Prop) (hh : packet_Put p0 h fun x h' => Q (.tuple #[.string x.1, .int .u8 x.2.1]) h') :
    HCalls Tryz.prog 50 #[.agg #[.int .i64 p0.1, .bool p0.2.1, .bool p0.2.2.1, .int .i64 p0.2.2.2.1, .int .i64 p0.2.2.2.2.1, .string p0.2.2.2.2.2.1, .string p0.2.2.2.2.2.2.1, .int .u8 p0.2.2.2.2.2.2.2.1, .slice p0.2.2.2.2.2.2.2.2.1.a p0.2.2.2.2.2.2.2.2.1.len p0.2.2.2.2.2.2.2.2.1.cap, .slice p0.2.2.2.2.2.2.2.2.2.1.a p0.2.2.2.2.2.2.2.2.2.1.len p0.2.2.2.2.2.2.2.2.2.1.cap, .string p0.2.2.2.2.2.2.2.2.2.2.1, .bool p0.2.2.2.2.2.2.2.2.2.2.2.1, .int .i64 p0.2.2.2.2.2.2.2.2.2.2.2.2.1, .bool p0.2.2.2.2.2.2.2.2.2.2.2.2.2.1, .string p0.2.2.2.2.2.2.2.2.2.2.2.2.2.2.1, .string p0.2.2.2.2.2.2.2.2.2.2.2.2.2.2.2.1, .int .i64 p0.2.2.2.2.2.2.2.2.2.2.2.2.2.2.2.2.1, .bool p0.2.2.2.2.2.2.2.2.2.2.2.2.2.2.2.2.2.1, .slice p0.2.2.2.2.2.2.2.2.2.2.2.2.2.2.2.2.2.2.1.a p0.2.2.2.2.2.2.2.2.2.2.2.2.2.2.2.2.2.2.1.len p0.2.2.2.2.2.2.2.2.2.2.2.2.2.2.2.2.2.2.1.cap, .bool p0.2.2.2.2.2.2.2.2.2.2.2.2.2.2.2.2.2.2.2.1, .bool p0.2.2.2.2.2.2.2.2.2.2.2.2.2.2.2.2.2.2.2.2.1, .string p0.2.2.2.2.2.2.2.2.2.2.2.2.2.2.2.2.2.2.2.2.2.1, .string p0.2.2.2.2.2.2.2.2.2.2.2.2.2.2.2.2.2.2.2.2.2.2.1, .bool p0.2.2.2.2.2.2.2.2.2.2.2.2.2.2.2.2.2.2.2.2.2.2.2.1, .slice p0.2.2.2.2.2.2.2.2.2.2.2.2.2.2.2.2.2.2.2.2.2.2.2.2.1.a p0.2.2.2.2.2.2.2.2.2.2.2.2.2.2.2.2.2.2.2.2.2.2.2.2.1.len p0.2.2.2.2.2.2.2.2.2.2.2.2.2.2.2.2.2.2.2.2.2.2.2.2.1.cap, .slice p0.2.2.2.2.2.2.2.2.2.2.2.2.2.2.2.2.2.2.2.2.2.2.2.2.2.1.a p0.2.2.2.2.2.2.2.2.2.2.2.2.2.2.2.2.2.2.2.2.2.2.2.2.2.1.len p0.2.2.2.2.2.2.2.2.2.2.2.2.2.2.2.2.2.2.2.2.2.2.2.2.2.1.cap]] h Q :=
  calls_of_eq Tryz.func50 (by kernel_rfl) Tryz.ntmps50 (by kernel_rfl) (CC Tryz.call82 (CC Tryz.call83 (CC Tryz.call84 (CC Tryz.call85 (CC Tryz.call86 (CC Tryz.call87 (CC Tryz.call88 (CC Tryz.call89 (CC Tryz.call90 CN))))))))) orders (packet_Put_den p0) hh
def outflow_Flow_Send (p0 : Option Addr) (p1 : ByteArray × ByteArray × Int × Bool × ByteArray × Unit) : HM (Slc × Int × Unit) :=
  HM.bind (α := Nat) (HM.new (.cells #[.string p1.1, .string p1.2.1, .int .i64 p1.2.2.1, .bool p1.2.2.2.1, .string p1.2.2.2.2.1] 50)) fun x1 =>
  HM.ite (Option.isNone p0) (
  HM.pure (⟨none, 0, 0⟩, 128, ())) (
  HM.bind (α := Bool × Unit) (HM.bind (α := Int) (HM.load1 (.int .i64) (Addr.add ⟨x1, 0, none⟩ 2)) fun x2 =>
  HM.ite (decide (x2 < (0 : Int))) (
  HM.pure (true, ())) (
  HM.bind (α := Int) (HM.load1 (.int .i64) (Addr.add ⟨x1, 0, none⟩ 2)) fun x3 =>
  HM.pure (decide (2 < (x3 : Int)), ()))) fun x4 =>
  HM.ite x4.1 (
  HM.pure (⟨none, 0, 0⟩, 155, ())) (
  HM.bind (α := Bool × Unit) (HM.bind (α := Int) (HM.load1 (.int .i64) (Addr.add ⟨x1, 0, none⟩ 2)) fun x5 =>
  HM.ite (x5 == 0) (
  HM.bind (α := Addr) (HM.nonnil p0) fun x6 =>
  HM.bind (α := Bool) (HM.load1 .bool (Addr.add x6 2)) fun x7 =>
  HM.pure (!x7, ())) (
  HM.pure (false, ()))) fun x8 =>
  HM.ite x8.1 (
  HM.pure (⟨none, 0, 0⟩, 0, ())) (
  HM.bind (α := Addr) (HM.nonnil p0) fun x9 =>
  HM.bind (α := Slc) (HM.load1 .slc (Addr.add x9 4)) fun x10 =>
  HM.ite (decide (256 ≤ (((x10.len : Nat) : Int) : Int))) (
  HM.pure (⟨none, 0, 0⟩, 151, ())) (
  HM.bind (α := Addr) (HM.nonnil p0) fun x11 =>
  HM.bind (α := Slc) (HM.load1 .slc (Addr.add x11 4)) fun x12 =>
  HM.bind (α := ByteArray × ByteArray × Int × Bool × ByteArray × Unit) (HM.loadN [.str, .str, .int .i64, .bool, .str] ⟨x1, 0, none⟩) fun x13 =>
  HM.bind (α := Nat) (HM.new (.cells #[.string x13.1, .string x13.2.1, .int .i64 x13.2.2.1, .bool x13.2.2.2.1, .string x13.2.2.2.2.1] 50)) fun x14 =>
  HM.bind (α := Slc) (HM.load1 .slc (Addr.add x11 4)) fun x15 =>
  HM.req ((.slice x15.a x15.len x15.cap : Value) = .slice x12.a x12.len x12.cap) <|
  HM.bind (α := Slc) (HM.append 50 5 64 #[.string (ByteArray.mk #[]), .string (ByteArray.mk #[]), .int .i64 0, .bool false, .string (ByteArray.mk #[])] x12 1 (srcSlc 5 (⟨some ⟨x14, 0, none⟩, 1, 1⟩))) fun x16 =>
  HM.bind (α := Addr) (HM.nonnil p0) fun x17 =>
  HM.bind (α := Unit) (HM.store1 (Addr.add x17 4) (.slice x16.a x16.len x16.cap)) fun _ =>
  HM.bind (α := Slc) (HM.call1 Tryz.prog (.one .slc) 78 #[.pointer p0, .slice none 0 0]) fun x18 =>
  HM.pure (x18, 0, ())))))
theorem outflow_Flow_Send_den (p0 : Option Addr) (p1 : ByteArray × ByteArray × Int × Bool × ByteArray × Unit) : denFn Tryz.prog [78] 48 [0, 1, 3, 4, 5, 6, 9, 18, 29] [0, 1, 3, 6, 9, 18, 29] Tryz.f51.results.toList [.one .slc, .one (.int .u8)] (bodyOf Tryz.f51) [Kind.val (.one .ptr) p0, Kind.val (.agg [.str, .str, .int .i64, .bool, .str]) p1] = outflow_Flow_Send p0 p1 := by kernel_rfl
theorem outflow_Flow_Send_calls (p0 : Option Addr) (p1 : ByteArray × ByteArray × Int × Bool × ByteArray × Unit) (h : Heap) (Q : Value → Heap → Prop) (hh : outflow_Flow_Send p0 p1 h fun x h' => Q (.tuple #[.slice x.1.a x.1.len x.1.cap, .int .u8 x.2.1]) h') :
    HCalls Tryz.prog 51 #[.pointer p0, .agg #[.string p1.1, .string p1.2.1, .int .i64 p1.2.2.1, .bool p1.2.2.2.1, .string p1.2.2.2.2.1]] h Q :=
  calls_of_eq Tryz.func51 (by kernel_rfl) Tryz.ntmps51 (by kernel_rfl) (CC Tryz.call78 CN) orders (outflow_Flow_Send_den p0 p1) hh
def ref05_Put (p0 : Int × Bool × Bool × Int × Int × ByteArray × ByteArray × Int × Slc × Slc × ByteArray × Bool × Int × Bool × ByteArray × ByteArray × Int × Bool × Slc × Bool × Bool × ByteArray × ByteArray × Bool × Slc × Slc × Unit) : HM (ByteArray × Int × Unit) :=
  HM.bind (α := Nat) (HM.new (.cells #[.int .i64 p0.1, .bool p0.2.1, .bool p0.2.2.1, .int .i64 p0.2.2.2.1, .int .i64 p0.2.2.2.2.1, .string p0.2.2.2.2.2.1, .string p0.2.2.2.2.2.2.1, .int .i64 p0.2.2.2.2.2.2.2.1, .slice p0.2.2.2.2.2.2.2.2.1.a p0.2.2.2.2.2.2.2.2.1.len p0.2.2.2.2.2.2.2.2.1.cap, .slice p0.2.2.2.2.2.2.2.2.2.1.a p0.2.2.2.2.2.2.2.2.2.1.len p0.2.2.2.2.2.2.2.2.2.1.cap, .string p0.2.2.2.2.2.2.2.2.2.2.1, .bool p0.2.2.2.2.2.2.2.2.2.2.2.1, .int .i64 p0.2.2.2.2.2.2.2.2.2.2.2.2.1, .bool p0.2.2.2.2.2.2.2.2.2.2.2.2.2.1, .string p0.2.2.2.2.2.2.2.2.2.2.2.2.2.2.1, .string p0.2.2.2.2.2.2.2.2.2.2.2.2.2.2.2.1, .int .i64 p0.2.2.2.2.2.2.2.2.2.2.2.2.2.2.2.2.1, .bool p0.2.2.2.2.2.2.2.2.2.2.2.2.2.2.2.2.2.1, .slice p0.2.2.2.2.2.2.2.2.2.2.2.2.2.2.2.2.2.2.1.a p0.2.2.2.2.2.2.2.2.2.2.2.2.2.2.2.2.2.2.1.len p0.2.2.2.2.2.2.2.2.2.2.2.2.2.2.2.2.2.2.1.cap, .bool p0.2.2.2.2.2.2.2.2.2.2.2.2.2.2.2.2.2.2.2.1, .bool p0.2.2.2.2.2.2.2.2.2.2.2.2.2.2.2.2.2.2.2.2.1, .string p0.2.2.2.2.2.2.2.2.2.2.2.2.2.2.2.2.2.2.2.2.2.1, .string p0.2.2.2.2.2.2.2.2.2.2.2.2.2.2.2.2.2.2.2.2.2.2.1, .bool p0.2.2.2.2.2.2.2.2.2.2.2.2.2.2.2.2.2.2.2.2.2.2.2.1, .slice p0.2.2.2.2.2.2.2.2.2.2.2.2.2.2.2.2.2.2.2.2.2.2.2.2.1.a p0.2.2.2.2.2.2.2.2.2.2.2.2.2.2.2.2.2.2.2.2.2.2.2.2.1.len p0.2.2.2.2.2.2.2.2.2.2.2.2.2.2.2.2.2.2.2.2.2.2.2.2.1.cap, .slice p0.2.2.2.2.2.2.2.2.2.2.2.2.2.2.2.2.2.2.2.2.2.2.2.2.2.1.a p0.2.2.2.2.2.2.2.2.2.2.2.2.2.2.2.2.2.2.2.2.2.2.2.2.2.1.len p0.2.2.2.2.2.2.2.2.2.2.2.2.2.2.2.2.2.2.2.2.2.2.2.2.2.1.cap] 41)) fun x1 =>
  HM.bind (α := Bool × Unit) (HM.bind (α := Int) (HM.load1 (.int .i64) (Addr.add ⟨x1, 0, none⟩ 0)) fun x2 =>
  HM.ite (decide (x2 < (1 : Int))) (
  HM.pure (true, ())) (
  HM.bind (α := Int) (HM.load1 (.int .i64) (Addr.add ⟨x1, 0, none⟩ 0)) fun x3 =>
  HM.pure (decide (15 < (x3 : Int)), ()))) fun x4 =>
  HM.ite x4.1 (
  HM.pure (ByteArray.mk #[], 129, ())) (
  HM.bind (α := Int × Bool × Bool × Int × Int × ByteArray × ByteArray × Int × Slc × Slc × ByteArray × Bool × Int × Bool × ByteArray × ByteArray × Int × Bool × Slc × Bool × Bool × ByteArray × ByteArray × Bool × Slc × Slc × Unit) (HM.loadN [.int .i64, .bool, .bool, .int .i64, .int .i64, .str, .str, .int .i64, .slc, .slc, .str, .bool, .int .i64, .bool, .str, .str, .int .i64, .bool, .slc, .bool, .bool, .str, .str, .bool, .slc, .slc] ⟨x1, 0, none⟩) fun x5 =>
  HM.bind (α := ByteArray × Int × Unit) (HM.call1 Tryz.prog (.agg [.str, .int .i64]) 91 #[.agg #[.string (ByteArray.mk #[]), .int .i64 0], .agg #[.int .i64 x5.1, .bool x5.2.1, .bool x5.2.2.1, .int .i64 x5.2.2.2.1, .int .i64 x5.2.2.2.2.1, .string x5.2.2.2.2.2.1, .string x5.2.2.2.2.2.2.1, .int .i64 x5.2.2.2.2.2.2.2.1, .slice x5.2.2.2.2.2.2.2.2.1.a x5.2.2.2.2.2.2.2.2.1.len x5.2.2.2.2.2.2.2.2.1.cap, .slice x5.2.2.2.2.2.2.2.2.2.1.a x5.2.2.2.2.2.2.2.2.2.1.len x5.2.2.2.2.2.2.2.2.2.1.cap, .string x5.2.2.2.2.2.2.2.2.2.2.1, .bool x5.2.2.2.2.2.2.2.2.2.2.2.1, .int .i64 x5.2.2.2.2.2.2.2.2.2.2.2.2.1, .bool x5.2.2.2.2.2.2.2.2.2.2.2.2.2.1, .string x5.2.2.2.2.2.2.2.2.2.2.2.2.2.2.1, .string x5.2.2.2.2.2.2.2.2.2.2.2.2.2.2.2.1, .int .i64 x5.2.2.2.2.2.2.2.2.2.2.2.2.2.2.2.2.1, .bool x5.2.2.2.2.2.2.2.2.2.2.2.2.2.2.2.2.2.1, .slice x5.2.2.2.2.2.2.2.2.2.2.2.2.2.2.2.2.2.2.1.a x5.2.2.2.2.2.2.2.2.2.2.2.2.2.2.2.2.2.2.1.len x5.2.2.2.2.2.2.2.2.2.2.2.2.2.2.2.2.2.2.1.cap, .bool x5.2.2.2.2.2.2.2.2.2.2.2.2.2.2.2.2.2.2.2.1, .bool x5.2.2.2.2.2.2.2.2.2.2.2.2.2.2.2.2.2.2.2.2.1, .string x5.2.2.2.2.2.2.2.2.2.2.2.2.2.2.2.2.2.2.2.2.2.1, .string x5.2.2.2.2.2.2.2.2.2.2.2.2.2.2.2.2.2.2.2.2.2.2.1, .bool x5.2.2.2.2.2.2.2.2.2.2.2.2.2.2.2.2.2.2.2.2.2.2.2.1, .slice x5.2.2.2.2.2.2.2.2.2.2.2.2.2.2.2.2.2.2.2.2.2.2.2.2.1.a x5.2.2.2.2.2.2.2.2.2.2.2.2.2.2.2.2.2.2.2.2.2.2.2.2.1.len x5.2.2.2.2.2.2.2.2.2.2.2.2.2.2.2.2.2.2.2.2.2.2.2.2.1.cap, .slice x5.2.2.2.2.2.2.2.2.2.2.2.2.2.2.2.2.2.2.2.2.2.2.2.2.2.1.a x5.2.2.2.2.2.2.2.2.2.2.2.2.2.2.2.2.2.2.2.2.2.2.2.2.2.1.len x5.2.2.2.2.2.2.2.2.2.2.2.2.2.2.2.2.2.2.2.2.2.2.2.2.2.1.cap]]) fun x6 =>
  HM.bind (α := Nat) (HM.new (.cells #[.string (ByteArray.mk #[]), .int .i64 0] 209)) fun x7 =>
  HM.bind (α := Unit) (HM.storeN ⟨x7, 0, none⟩ [.string x6.1, .int .i64 x6.2.1]) fun _ =>
  HM.bind (α := Int) (HM.load1 (.int .i64) (Addr.add ⟨x7, 0, none⟩ 1)) fun x8 =>
  HM.ite (!(x8 == 0)) (
  HM.bind (α := Int) (HM.load1 (.int .i64) (Addr.add ⟨x7, 0, none⟩ 1)) fun x9 =>
  HM.pure (ByteArray.mk #[], x9, ())) (
  HM.bind (α := ByteArray) (HM.load1 .str (Addr.add ⟨x7, 0, none⟩ 0)) fun x10 =>
  HM.ite (decide (65536 < (((ByteArray.size x10 : Nat) : Int) : Int))) (
  HM.pure (ByteArray.mk #[], 149, ())) (
  HM.bind (α := Int × Bool × Bool × Int × Int × ByteArray × ByteArray × Int × Slc × Slc × ByteArray × Bool × Int × Bool × ByteArray × ByteArray × Int × Bool × Slc × Bool × Bool × ByteArray × ByteArray × Bool × Slc × Slc × Unit) (HM.loadN [.int .i64, .bool, .bool, .int .i64, .int .i64, .str, .str, .int .i64, .slc, .slc, .str, .bool, .int .i64, .bool, .str, .str, .int .i64, .bool, .slc, .bool, .bool, .str, .str, .bool, .slc, .slc] ⟨x1, 0, none⟩) fun x11 =>
  HM.bind (α := Int) (HM.call1 Tryz.prog (.one (.int .i64)) 92 #[.agg #[.int .i64 x11.1, .bool x11.2.1, .bool x11.2.2.1, .int .i64 x11.2.2.2.1, .int .i64 x11.2.2.2.2.1, .string x11.2.2.2.2.2.1, .string x11.2.2.2.2.2.2.1, .int .i64 x11.2.2.2.2.2.2.2.1, .slice x11.2.2.2.2.2.2.2.2.1.a x11.2.2.2.2.2.2.2.2.1.len x11.2.2.2.2.2.2.2.2.1.cap, .slice x11.2.2.2.2.2.2.2.2.2.1.a x11.2.2.2.2.2.2.2.2.2.1.len x11.2.2.2.2.2.2.2.2.2.1.cap, .string x11.2.2.2.2.2.2.2.2.2.2.1, .bool x11.2.2.2.2.2.2.2.2.2.2.2.1, .int .i64 x11.2.2.2.2.2.2.2.2.2.2.2.2.1, .bool x11.2.2.2.2.2.2.2.2.2.2.2.2.2.1, .string x11.2.2.2.2.2.2.2.2.2.2.2.2.2.2.1, .string x11.2.2.2.2.2.2.2.2.2.2.2.2.2.2.2.1, .int .i64 x11.2.2.2.2.2.2.2.2.2.2.2.2.2.2.2.2.1, .bool x11.2.2.2.2.2.2.2.2.2.2.2.2.2.2.2.2.2.1, .slice x11.2.2.2.2.2.2.2.2.2.2.2.2.2.2.2.2.2.2.1.a x11.2.2.2.2.2.2.2.2.2.2.2.2.2.2.2.2.2.2.1.len x11.2.2.2.2.2.2.2.2.2.2.2.2.2.2.2.2.2.2.1.cap, .bool x11.2.2.2.2.2.2.2.2.2.2.2.2.2.2.2.2.2.2.2.1, .bool x11.2.2.2.2.2.2.2.2.2.2.2.2.2.2.2.2.2.2.2.2.1, .string x11.2.2.2.2.2.2.2.2.2.2.2.2.2.2.2.2.2.2.2.2.2.1, .string x11.2.2.2.2.2.2.2.2.2.2.2.2.2.2.2.2.2.2.2.2.2.2.1, .bool x11.2.2.2.2.2.2.2.2.2.2.2.2.2.2.2.2.2.2.2.2.2.2.2.1, .slice x11.2.2.2.2.2.2.2.2.2.2.2.2.2.2.2.2.2.2.2.2.2.2.2.2.1.a x11.2.2.2.2.2.2.2.2.2.2.2.2.2.2.2.2.2.2.2.2.2.2.2.2.1.len x11.2.2.2.2.2.2.2.2.2.2.2.2.2.2.2.2.2.2.2.2.2.2.2.2.1.cap, .slice x11.2.2.2.2.2.2.2.2.2.2.2.2.2.2.2.2.2.2.2.2.2.2.2.2.2.1.a x11.2.2.2.2.2.2.2.2.2.2.2.2.2.2.2.2.2.2.2.2.2.2.2.2.2.1.len x11.2.2.2.2.2.2.2.2.2.2.2.2.2.2.2.2.2.2.2.2.2.2.2.2.2.1.cap]]) fun x12 =>
  HM.bind (α := Int) (HM.load1 (.int .i64) (Addr.add ⟨x1, 0, none⟩ 0)) fun x13 =>
  HM.bind (α := ByteArray × Int × Unit) (HM.callN Tryz.prog [.one .str, .one (.int .i64)] 93 #[.int .i64 1, .int .i64 (IntKind.wrap .i64 ((IntKind.wrap .i64 (16 * x13)) + x12))]) fun x14 =>
  HM.bind (α := ByteArray) (HM.load1 .str (Addr.add ⟨x7, 0, none⟩ 0)) fun x15 =>
  HM.bind (α := ByteArray × Int × Unit) (HM.callN Tryz.prog [.one .str, .one (.int .i64)] 94 #[.int .i64 ((ByteArray.size x15 : Nat) : Int)]) fun x16 =>
  HM.req (ByteArray.size x14.1 + ByteArray.size x16.1 ≤ 9223372036854775807) <|
  HM.bind (α := ByteArray) (HM.load1 .str (Addr.add ⟨x7, 0, none⟩ 0)) fun x17 =>
  HM.req (ByteArray.size (x14.1 ++ x16.1) + ByteArray.size x17 ≤ 9223372036854775807) <|
  HM.pure ((x14.1 ++ x16.1) ++ x17, 0, ()))))
theorem ref05_Put_den (p0 : Int × Bool × Bool × Int × Int × ByteArray × ByteArray × Int × Slc × Slc × ByteArray × Bool × Int × Bool × ByteArray × ByteArray × Int × Bool × Slc × Bool × Bool × ByteArray × ByteArray × Bool × Slc × Slc × Unit) : denFn Tryz.prog [91, 92, 93, 94] 54 [0, 1, 2, 3, 4, 5, 6, 8, 17, 23, 29] [0, 1, 4, 5, 6, 8, 17, 23, 29] Tryz.f52.results.toList [.one .str, .one (.int .i64)] (bodyOf Tryz.f52) [Kind.val (.agg [.int .i64, .bool, .bool, .int .i64, .int .i64, .str, .str, .int .i64, .slc, .slc, .str, .bool, .int .i64, .bool, .str, .str, .int .i64, .bool, .slc, .bool, .bool, .str, .str, .bool, .slc, .slc]) p0] = ref05_Put p0 := by kernel_rfl
theorem ref05_Put_calls (p0 : Int × Bool × Bool × Int × Int × ByteArray × ByteArray × Int × Slc × Slc × ByteArray × Bool × Int × Bool × ByteArray × ByteArray × Int × Bool × Slc × Bool × Bool × ByteArray × ByteArray × Bool × Slc × Slc × Unit) (h : Heap) (Q : Value → Heap → Prop) (hh : ref05_Put p0 h fun x h' => Q (.tuple #[.string x.1, .int .i64 x.2.1]) h') :
    HCalls Tryz.prog 52 #[.agg #[.int .i64 p0.1, .bool p0.2.1, .bool p0.2.2.1, .int .i64 p0.2.2.2.1, .int .i64 p0.2.2.2.2.1, .string p0.2.2.2.2.2.1, .string p0.2.2.2.2.2.2.1, .int .i64 p0.2.2.2.2.2.2.2.1, .slice p0.2.2.2.2.2.2.2.2.1.a p0.2.2.2.2.2.2.2.2.1.len p0.2.2.2.2.2.2.2.2.1.cap, .slice p0.2.2.2.2.2.2.2.2.2.1.a p0.2.2.2.2.2.2.2.2.2.1.len p0.2.2.2.2.2.2.2.2.2.1.cap, .string p0.2.2.2.2.2.2.2.2.2.2.1, .bool p0.2.2.2.2.2.2.2.2.2.2.2.1, .int .i64 p0.2.2.2.2.2.2.2.2.2.2.2.2.1, .bool p0.2.2.2.2.2.2.2.2.2.2.2.2.2.1, .string p0.2.2.2.2.2.2.2.2.2.2.2.2.2.2.1, .string p0.2.2.2.2.2.2.2.2.2.2.2.2.2.2.2.1, .int .i64 p0.2.2.2.2.2.2.2.2.2.2.2.2.2.2.2.2.1, .bool p0.2.2.2.2.2.2.2.2.2.2.2.2.2.2.2.2.2.1, .slice p0.2.2.2.2.2.2.2.2.2.2.2.2.2.2.2.2.2.2.1.a p0.2.2.2.2.2.2.2.2.2.2.2.2.2.2.2.2.2.2.1.len p0.2.2.2.2.2.2.2.2.2.2.2.2.2.2.2.2.2.2.1.cap, .bool p0.2.2.2.2.2.2.2.2.2.2.2.2.2.2.2.2.2.2.2.1, .bool p0.2.2.2.2.2.2.2.2.2.2.2.2.2.2.2.2.2.2.2.2.1, .string p0.2.2.2.2.2.2.2.2.2.2.2.2.2.2.2.2.2.2.2.2.2.1, .string p0.2.2.2.2.2.2.2.2.2.2.2.2.2.2.2.2.2.2.2.2.2.2.1, .bool p0.2.2.2.2.2.2.2.2.2.2.2.2.2.2.2.2.2.2.2.2.2.2.2.1, .slice p0.2.2.2.2.2.2.2.2.2.2.2.2.2.2.2.2.2.2.2.2.2.2.2.2.1.a p0.2.2.2.2.2.2.2.2.2.2.2.2.2.2.2.2.2.2.2.2.2.2.2.2.1.len p0.2.2.2.2.2.2.2.2.2.2.2.2.2.2.2.2.2.2.2.2.2.2.2.2.1.cap, .slice p0.2.2.2.2.2.2.2.2.2.2.2.2.2.2.2.2.2.2.2.2.2.2.2.2.2.1.a p0.2.2.2.2.2.2.2.2.2.2.2.2.2.2.2.2.2.2.2.2.2.2.2.2.2.1.len p0.2.2.2.2.2.2.2.2.2.2.2.2.2.2.2.2.2.2.2.2.2.2.2.2.2.1.cap]] h Q :=
  calls_of_eq Tryz.func52 (by kernel_rfl) Tryz.ntmps52 (by kernel_rfl) (CC Tryz.call91 (CC Tryz.call92 (CC Tryz.call93 (CC Tryz.call94 CN)))) orders (ref05_Put_den p0) hh
def ref14_Send (p0 : Option Addr) (p1 : ByteArray × ByteArray × Int × Bool × ByteArray × Unit) : HM (Slc × Int × Unit) :=
  HM.bind (α := Nat) (HM.new (.cells #[.string p1.1, .string p1.2.1, .int .i64 p1.2.2.1, .bool p1.2.2.2.1, .string p1.2.2.2.2.1] 56)) fun x1 =>
  HM.bind (α := Bool × Unit) (HM.bind (α := Int) (HM.load1 (.int .i64) (Addr.add ⟨x1, 0, none⟩ 2)) fun x2 =>
  HM.ite (decide (x2 < (0 : Int))) (
  HM.pure (true, ())) (
  HM.bind (α := Int) (HM.load1 (.int .i64) (Addr.add ⟨x1, 0, none⟩ 2)) fun x3 =>
  HM.pure (decide (2 < (x3 : Int)), ()))) fun x4 =>
  HM.ite x4.1 (
  HM.pure (⟨none, 0, 0⟩, 155, ())) (
  HM.bind (α := Bool × Unit) (HM.bind (α := Int) (HM.load1 (.int .i64) (Addr.add ⟨x1, 0, none⟩ 2)) fun x5 =>
  HM.ite (x5 == 0) (
  HM.bind (α := Addr) (HM.nonnil p0) fun x6 =>
  HM.bind (α := Bool) (HM.load1 .bool (Addr.add x6 2)) fun x7 =>
  HM.pure (!x7, ())) (
  HM.pure (false, ()))) fun x8 =>
  HM.ite x8.1 (
  HM.pure (⟨none, 0, 0⟩, 0, ())) (
  HM.bind (α := Addr) (HM.nonnil p0) fun x9 =>
  HM.bind (α := Slc) (HM.load1 .slc (Addr.add x9 4)) fun x10 =>
  HM.ite (decide (256 ≤ (((x10.len : Nat) : Int) : Int))) (
  HM.pure (⟨none, 0, 0⟩, 151, ())) (
  HM.bind (α := Addr) (HM.nonnil p0) fun x11 =>
  HM.bind (α := Slc) (HM.load1 .slc (Addr.add x11 4)) fun x12 =>
  HM.bind (α := ByteArray × ByteArray × Int × Bool × ByteArray × Unit) (HM.loadN [.str, .str, .int .i64, .bool, .str] ⟨x1, 0, none⟩) fun x13 =>
  HM.bind (α := Nat) (HM.new (.cells #[.string x13.1, .string x13.2.1, .int .i64 x13.2.2.1, .bool x13.2.2.2.1, .string x13.2.2.2.2.1] 56)) fun x14 =>
  HM.bind (α := Slc) (HM.load1 .slc (Addr.add x11 4)) fun x15 =>
  HM.req ((.slice x15.a x15.len x15.cap : Value) = .slice x12.a x12.len x12.cap) <|
  HM.bind (α := Slc) (HM.append 56 5 64 #[.string (ByteArray.mk #[]), .string (ByteArray.mk #[]), .int .i64 0, .bool false, .string (ByteArray.mk #[])] x12 1 (srcSlc 5 (⟨some ⟨x14, 0, none⟩, 1, 1⟩))) fun x16 =>
  HM.bind (α := Addr) (HM.nonnil p0) fun x17 =>
  HM.bind (α := Unit) (HM.store1 (Addr.add x17 4) (.slice x16.a x16.len x16.cap)) fun _ =>
  HM.bind (α := Slc) (HM.call1 Tryz.prog (.one .slc) 45 #[.pointer p0, .slice none 0 0]) fun x18 =>
  HM.pure (x18, 0, ()))))
theorem ref14_Send_den (p0 : Option Addr) (p1 : ByteArray × ByteArray × Int × Bool × ByteArray × Unit) : denFn Tryz.prog [45] 44 [0, 1, 3, 4, 5, 6, 14, 24, 30] [0, 1, 3, 6, 14, 24, 30] Tryz.f53.results.toList [.one .slc, .one (.int .i64)] (bodyOf Tryz.f53) [Kind.val (.one .ptr) p0, Kind.val (.agg [.str, .str, .int .i64, .bool, .str]) p1] = ref14_Send p0 p1 := by kernel_rfl
theorem ref14_Send_calls (p0 : Option Addr) (p1 : ByteArray × ByteArray × Int × Bool × ByteArray × Unit) (h : Heap) (Q : Value → Heap → Prop) (hh : ref14_Send p0 p1 h fun x h' => Q (.tuple #[.slice x.1.a x.1.len x.1.cap, .int .i64 x.2.1]) h') :
    HCalls Tryz.prog 53 #[.pointer p0, .agg #[.string p1.1, .string p1.2.1, .int .i64 p1.2.2.1, .bool p1.2.2.2.1, .string p1.2.2.2.2.1]] h Q :=
  calls_of_eq Tryz.func53 (by kernel_rfl) Tryz.ntmps53 (by kernel_rfl) (CC Tryz.call45 CN) orders (ref14_Send_den p0 p1) hh
def outflow_Flow_Flights (p0 : Option Addr) : HM (Slc × Unit) :=
  HM.ite (Option.isNone p0) (
  HM.pure (⟨none, 0, 0⟩, ())) (
  HM.bind (α := Addr) (HM.nonnil p0) fun x1 =>
  HM.bind (α := Slc) (HM.load1 .slc (Addr.add x1 3)) fun x2 =>
  HM.bind (α := Slc) (HM.call1 Tryz.prog (.one .slc) 95 #[.slice x2.a x2.len x2.cap]) fun x3 =>
  HM.pure (x3, ()))
theorem outflow_Flow_Flights_den (p0 : Option Addr) : denFn Tryz.prog [95] 10 [0, 2, 4] [0, 4] Tryz.f54.results.toList [.one .slc] (bodyOf Tryz.f54) [Kind.val (.one .ptr) p0] = outflow_Flow_Flights p0 := by kernel_rfl
theorem outflow_Flow_Flights_calls (p0 : Option Addr) (h : Heap) (Q : Value → Heap → Prop) (hh : outflow_Flow_Flights p0 h fun x h' => Q (.slice x.1.a x.1.len x.1.cap) h') :
    HCalls Tryz.prog 54 #[.pointer p0] h Q :=
  calls_of_eq Tryz.func54 (by kernel_rfl) Tryz.ntmps54 (by kernel_rfl) (CC Tryz.call95 CN) orders (outflow_Flow_Flights_den p0) hh
def outflow_Flow_Waiting (p0 : Option Addr) : HM (Slc × Unit) :=
  HM.ite (Option.isNone p0) (
  HM.pure (⟨none, 0, 0⟩, ())) (
  HM.bind (α := Addr) (HM.nonnil p0) fun x1 =>
  HM.bind (α := Slc) (HM.load1 .slc (Addr.add x1 4)) fun x2 =>
  HM.bind (α := Slc) (HM.call1 Tryz.prog (.one .slc) 96 #[.slice x2.a x2.len x2.cap]) fun x3 =>
  HM.pure (x3, ()))
theorem outflow_Flow_Waiting_den (p0 : Option Addr) : denFn Tryz.prog [96] 10 [0, 2, 4] [0, 4] Tryz.f55.results.toList [.one .slc] (bodyOf Tryz.f55) [Kind.val (.one .ptr) p0] = outflow_Flow_Waiting p0 := by kernel_rfl
theorem outflow_Flow_Waiting_calls (p0 : Option Addr) (h : Heap) (Q : Value → Heap → Prop) (hh : outflow_Flow_Waiting p0 h fun x h' => Q (.slice x.1.a x.1.len x.1.cap) h') :
    HCalls Tryz.prog 55 #[.pointer p0] h Q :=
  calls_of_eq Tryz.func55 (by kernel_rfl) Tryz.ntmps55 (by kernel_rfl) (CC Tryz.call96 CN) orders (outflow_Flow_Waiting_den p0) hh
def remap_Rule_ToRemote (p0 : ByteArray × Int × Int × ByteArray × ByteArray × Unit) (p1 : ByteArray) : HM (ByteArray × Bool × Unit) :=
  HM.bind (α := Nat) (HM.new (.cells #[.string p0.1, .int .i64 p0.2.1, .int .i64 p0.2.2.1, .string p0.2.2.2.1, .string p0.2.2.2.2.1] 123)) fun x1 =>
  HM.bind (α := Int) (HM.load1 (.int .i64) (Addr.add ⟨x1, 0, none⟩ 1)) fun x2 =>
  HM.ite (x2 == 1) (
  HM.pure (ByteArray.mk #[], false, ())) (
  HM.bind (α := ByteArray × Int × Int × ByteArray × ByteArray × Unit) (HM.loadN [.str, .int .i64, .int .i64, .str, .str] ⟨x1, 0, none⟩) fun x3 =>
  HM.bind (α := ByteArray) (HM.load1 .str (Addr.add ⟨x1, 0, none⟩ 3)) fun x4 =>
  HM.bind (α := ByteArray) (HM.load1 .str (Addr.add ⟨x1, 0, none⟩ 4)) fun x5 =>
  HM.bind (α := ByteArray × Bool × Unit) (HM.callN Tryz.prog [.one .str, .one .bool] 97 #[.agg #[.string x3.1, .int .i64 x3.2.1, .int .i64 x3.2.2.1, .string x3.2.2.2.1, .string x3.2.2.2.2.1], .string p1, .string x4, .string x5]) fun x6 =>
  HM.pure (x6.1, x6.2.1, ()))
theorem remap_Rule_ToRemote_den (p0 : ByteArray × Int × Int × ByteArray × ByteArray × Unit) (p1 : ByteArray) : denFn Tryz.prog [97] 18 [0, 1, 2, 4, 5, 8] [0, 1, 2, 8] Tryz.f56.results.toList [.one .str, .one .bool] (bodyOf Tryz.f56) [Kind.val (.agg [.str, .int .i64, .int .i64, .str, .str]) p0, Kind.val (.one .str) p1] = remap_Rule_ToRemote p0 p1 := by kernel_rfl
theorem remap_Rule_ToRemote_calls (p0 : ByteArray × Int × Int × ByteArray × ByteArray × Unit) (p1 : ByteArray) (h : Heap) (Q : Value → Heap → Prop) (hh : remap_Rule_ToRemote p0 p1 h fun x h' => Q (.tuple #[.string x.1, .bool x.2.1]) h') :
    HCalls Tryz.prog 56 #[.agg #[.string p0.1, .int .i64 p0.2.1, .int .i64 p0.2.2.1, .string p0.2.2.2.1, .string p0.2.2.2.2.1], .string p1] h Q :=
  calls_of_eq Tryz.func56 (by kernel_rfl) Tryz.ntmps56 (by kernel_rfl) (CC Tryz.call97 CN) orders (remap_Rule_ToRemote_den p0 p1) hh
def tags_Label_good (p0 : Int × Int × Int × Int × Unit) : HM (Bool × Unit) :=
  HM.bind (α := Nat) (HM.new (.cells #[.int .i64 p0.1, .int .i64 p0.2.1, .int .i64 p0.2.2.1, .int .i64 p0.2.2.2.1] 49)) fun x1 =>
  HM.bind (α := Bool × Unit) (HM.bind (α := Int × Int × Unit) (HM.loadN [.int .i64, .int .i64] (Addr.add ⟨x1, 0, none⟩ 0)) fun x2 =>
  HM.bind (α := Bool) (HM.call1 Tryz.prog (.one .bool) 98 #[.agg #[.int .i64 x2.1, .int .i64 x2.2.1]]) fun x3 =>
  HM.ite x3 (
  HM.bind (α := Int) (HM.load1 (.int .i64) (Addr.add ⟨x1, 0, none⟩ 2)) fun x4 =>
  HM.ite (decide (0 ≤ (x4 : Int))) (
  HM.bind (α := Int) (HM.load1 (.int .i64) (Addr.add ⟨x1, 0, none⟩ 2)) fun x5 =>
  HM.ite (decide (x5 ≤ (32 : Int))) (
  HM.bind (α := Int) (HM.load1 (.int .i64) (Addr.add ⟨x1, 0, none⟩ 3)) fun x6 =>
  HM.ite (decide (0 ≤ (x6 : Int))) (
  HM.bind (α := Int) (HM.load1 (.int .i64) (Addr.add ⟨x1, 0, none⟩ 3)) fun x7 =>
  HM.pure (decide (x7 ≤ (2 : Int)), ())) (
  HM.pure (false, ()))) (
  HM.pure (false, ()))) (
  HM.pure (false, ()))) (
  HM.pure (false, ()))) fun x8 =>
  HM.pure (x8.1, ())
theorem tags_Label_good_den (p0 : Int × Int × Int × Int × Unit) : denFn Tryz.prog [98] 26 [0, 1, 2] [0, 1] Tryz.f57.results.toList [.one .bool] (bodyOf Tryz.f57) [Kind.val (.agg [.int .i64, .int .i64, .int .i64, .int .i64]) p0] = tags_Label_good p0 := by kernel_rfl
theorem tags_Label_good_calls (p0 : Int × Int × Int × Int × Unit) (h : Heap) (Q : Value → Heap → Prop) (hh : tags_Label_good p0 h fun x h' => Q (.bool x.1) h') :
    HCalls Tryz.prog 57 #[.agg #[.int .i64 p0.1, .int .i64 p0.2.1, .int .i64 p0.2.2.1, .int .i64 p0.2.2.2.1]] h Q :=
  calls_of_eq Tryz.func57 (by kernel_rfl) Tryz.ntmps57 (by kernel_rfl) (CC Tryz.call98 CN) orders (tags_Label_good_den p0) hh
def ref16_goodLabel (p0 : Int × Int × Int × Int × Unit) : HM (Bool × Unit) :=
  HM.bind (α := Nat) (HM.new (.cells #[.int .i64 p0.1, .int .i64 p0.2.1, .int .i64 p0.2.2.1, .int .i64 p0.2.2.2.1] 55)) fun x1 =>
  HM.bind (α := Int × Int × Unit) (HM.loadN [.int .i64, .int .i64] (Addr.add ⟨x1, 0, none⟩ 0)) fun x2 =>
  HM.bind (α := Bool) (HM.call1 Tryz.prog (.one .bool) 106 #[.agg #[.int .i64 x2.1, .int .i64 x2.2.1]]) fun x3 =>
  HM.bind (α := Bool × Unit) (HM.ite x3 (
  HM.bind (α := Int) (HM.load1 (.int .i64) (Addr.add ⟨x1, 0, none⟩ 2)) fun x4 =>
  HM.ite (decide (0 ≤ (x4 : Int))) (
  HM.bind (α := Int) (HM.load1 (.int .i64) (Addr.add ⟨x1, 0, none⟩ 2)) fun x5 =>
  HM.ite (decide (x5 ≤ (32 : Int))) (
  HM.bind (α := Int) (HM.load1 (.int .i64) (Addr.add ⟨x1, 0, none⟩ 3)) fun x6 =>
  HM.ite (decide (0 ≤ (x6 : Int))) (
  HM.bind (α := Int) (HM.load1 (.int .i64) (Addr.add ⟨x1, 0, none⟩ 3)) fun x7 =>
  HM.pure (decide (x7 < (3 : Int)), ())) (
  HM.pure (false, ()))) (
  HM.pure (false, ()))) (
  HM.pure (false, ()))) (
  HM.pure (false, ()))) fun x8 =>
  HM.pure (x8.1, ())
theorem ref16_goodLabel_den (p0 : Int × Int × Int × Int × Unit) : denFn Tryz.prog [106] 28 [0, 1, 2, 3] [0, 1, 3] Tryz.f64.results.toList [.one .bool] (bodyOf Tryz.f64) [Kind.val (.agg [.int .i64, .int .i64, .int .i64, .int .i64]) p0] = ref16_goodLabel p0 := by kernel_rfl
theorem ref16_goodLabel_calls (p0 : Int × Int × Int × Int × Unit) (h : Heap) (Q : Value → Heap → Prop) (hh : ref16_goodLabel p0 h fun x h' => Q (.bool x.1) h') :
    HCalls Tryz.prog 64 #[.agg #[.int .i64 p0.1, .int .i64 p0.2.1, .int .i64 p0.2.2.1, .int .i64 p0.2.2.2.1]] h Q :=
  calls_of_eq Tryz.func64 (by kernel_rfl) Tryz.ntmps64 (by kernel_rfl) (CC Tryz.call106 CN) orders (ref16_goodLabel_den p0) hh
def topic_CheckFilter (p0 : ByteArray) : HM (Int × Unit) :=
  HM.bind (α := Bool) (HM.call1 Tryz.prog (.one .bool) 107 #[.string p0]) fun x1 =>
  HM.ite (!x1) (
  HM.pure (143, ())) (
  HM.bind (α := Slc) (HM.call1 Tryz.prog (.one .slc) 108 #[.string p0]) fun x2 =>
  HM.bind (α := (Int × Unit) ⊕ (Int × Unit)) (HM.loop (σ := Int × Unit) (τ := (Int × Unit) ⊕ (Int × Unit)) (fun x4 =>
  HM.ite (decide (x4.1 < (((x2.len : Nat) : Int) : Int))) (
  HM.bind (α := Addr) (HM.idx x2.a x2.len x4.1 1) fun x5 =>
  HM.bind (α := ByteArray) (HM.load1 .str x5) fun x6 =>
  HM.bind (α := (Unit) ⊕ ((Int × Unit) ⊕ ((Int × Unit) ⊕ (Int × Unit)))) (HM.bind (α := (Unit) ⊕ ((Unit) ⊕ ((Int × Unit) ⊕ ((Int × Unit) ⊕ (Int × Unit))))) (HM.bind (α := (Unit) ⊕ ((Unit) ⊕ ((Unit) ⊕ ((Int × Unit) ⊕ ((Int × Unit) ⊕ (Int × Unit)))))) (HM.bind (α := Bool) (HM.call1 Tryz.prog (.one .bool) 109 #[.string x6, .string (ByteArray.mk #[35])]) fun x10 =>
  HM.ite x10 (
  HM.pure (.inl ())) (
  HM.bind (α := Bool) (HM.call1 Tryz.prog (.one .bool) 109 #[.string x6, .string (ByteArray.mk #[43])]) fun x11 =>
  HM.ite x11 (
  HM.pure (.inr (.inl ()))) (
  HM.pure (.inr (.inr (.inl ())))))) (Sum.elim (fun x9 =>
  HM.ite (decide (x4.1 < ((IntKind.wrap .i64 (((x2.len : Nat) : Int) - 1)) : Int))) (
  HM.pure (.inr (.inr (.inr (.inr (143, ())))))) (
  HM.pure (.inl ()))) HM.pure)) (Sum.elim (fun x8 =>
  HM.ite (decide (1 < (((ByteArray.size x6 : Nat) : Int) : Int))) (
  HM.pure (.inr (.inr (.inr (143, ()))))) (
  HM.pure (.inl ()))) HM.pure)) (Sum.elim (fun x7 =>
  HM.pure (.inl (IntKind.wrap .i64 (x4.1 + 1), ()))) HM.pure)) (
  HM.pure (.inr (.inl (x4.1, ()))))) (0, ())) (Sum.elim (fun x3 =>
  HM.pure (0, ())) HM.pure))
theorem topic_CheckFilter_den (p0 : ByteArray) : denFn Tryz.prog [107, 108, 109] 33 [0, 2, 3, 4, 5, 8, 11, 12, 13, 14, 18, 21, 28, 31] [0, 3, 4, 5, 8, 11, 12, 13, 14, 18, 21, 28, 31] Tryz.f65.results.toList [.one (.int .u8)] (bodyOf Tryz.f65) [Kind.val (.one .str) p0] = topic_CheckFilter p0 := by kernel_rfl
theorem topic_CheckFilter_calls (p0 : ByteArray) (h : Heap) (Q : Value → Heap → Prop) (hh : topic_CheckFilter p0 h fun x h' => Q (.int .u8 x.1) h') :
    HCalls Tryz.prog 65 #[.string p0] h Q :=
  calls_of_eq Tryz.func65 (by kernel_rfl) Tryz.ntmps65 (by kernel_rfl) (CC Tryz.call107 (CC Tryz.call108 (CC Tryz.call109 CN))) orders (topic_CheckFilter_den p0) hh
def remap_prefix (p0 : ByteArray) : HM (Bool × Unit) :=
  HM.bind (α := Bool × Unit) (HM.ite (decide (p0 = (ByteArray.mk #[]))) (
  HM.pure (true, ())) (
  HM.bind (α := Int) (HM.call1 Tryz.prog (.one (.int .u8)) 110 #[.string p0]) fun x1 =>
  HM.pure (x1 == 0, ()))) fun x2 =>
  HM.pure (x2.1, ())
theorem remap_prefix_den (p0 : ByteArray) : denFn Tryz.prog [110] 10 [0, 2] [0] Tryz.f66.results.toList [.one .bool] (bodyOf Tryz.f66) [Kind.val (.one .str) p0] = remap_prefix p0 := by kernel_rfl
theorem remap_prefix_calls (p0 : ByteArray) (h : Heap) (Q : Value → Heap → Prop) (hh : remap_prefix p0 h fun x h' => Q (.bool x.1) h') :
    HCalls Tryz.prog 66 #[.string p0] h Q :=
  calls_of_eq Tryz.func66 (by kernel_rfl) Tryz.ntmps66 (by kernel_rfl) (CC Tryz.call110 CN) orders (remap_prefix_den p0) hh
def ids_New (p0 : Int) : HM (Option Addr × Unit) :=
  HM.bind (α := Nat) (HM.new (.map #[] 0)) fun x1 =>
  HM.bind (α := Nat) (HM.new (.cells #[.int .i64 (if 1 < ((if 64 < (p0 : Int) then 64 else p0) : Int) then (if 64 < (p0 : Int) then 64 else p0) else 1), .int .i64 0, .map (some x1)] 226)) fun x2 =>
  HM.pure (some ⟨x2, 0, none⟩, ())
theorem ids_New_den (p0 : Int) : denFn Tryz.prog [] 9 [0, 2] [0] Tryz.f67.results.toList [.one .ptr] (bodyOf Tryz.f67) [Kind.val (.one (.int .i64)) p0] = ids_New p0 := by kernel_rfl
theorem ids_New_calls (p0 : Int) (h : Heap) (Q : Value → Heap → Prop) (hh : ids_New p0 h fun x h' => Q (.pointer x.1) h') :
    HCalls Tryz.prog 67 #[.int .i64 p0] h Q :=
  calls_of_eq Tryz.func67 (by kernel_rfl) Tryz.ntmps67 (by kernel_rfl) CN orders (ids_New_den p0) hh
def outflow_bounded (p0 : Int) : HM (Int × Unit) :=
  HM.pure (if 1 < ((if 64 < (p0 : Int) then 64 else p0) : Int) then (if 64 < (p0 : Int) then 64 else p0) else 1, ())
theorem outflow_bounded_den (p0 : Int) : denFn Tryz.prog [] 6 [0, 2] [0] Tryz.f68.results.toList [.one (.int .i64)] (bodyOf Tryz.f68) [Kind.val (.one (.int .i64)) p0] = outflow_bounded p0 := by kernel_rfl
theorem outflow_bounded_calls (p0 : Int) (h : Heap) (Q : Value → Heap → Prop) (hh : outflow_bounded p0 h fun x h' => Q (.int .i64 x.1) h') :
    HCalls Tryz.prog 68 #[.int .i64 p0] h Q :=
  calls_of_eq Tryz.func68 (by kernel_rfl) Tryz.ntmps68 (by kernel_rfl) CN orders (outflow_bounded_den p0) hh
def ref07_CheckFilter (p0 : ByteArray) : HM (Int × Unit) :=
  HM.bind (α := Bool) (HM.call1 Tryz.prog (.one .bool) 111 #[.string p0]) fun x1 =>
  HM.ite (!x1) (
  HM.pure (143, ())) (
  HM.bind (α := Slc) (HM.call1 Tryz.prog (.one .slc) 112 #[.string p0]) fun x2 =>
  HM.bind (α := (Int × Unit) ⊕ (Int × Unit)) (HM.loop (σ := Int × Unit) (τ := (Int × Unit) ⊕ (Int × Unit)) (fun x4 =>
  HM.ite (decide (x4.1 < (((x2.len : Nat) : Int) : Int))) (
  HM.bind (α := Addr) (HM.idx x2.a x2.len x4.1 1) fun x5 =>
  HM.bind (α := ByteArray) (HM.load1 .str x5) fun x6 =>
  HM.bind (α := Bool) (HM.call1 Tryz.prog (.one .bool) 113 #[.string x6, .int .u8 43]) fun x7 =>
  HM.bind (α := Addr) (HM.idx x2.a x2.len x4.1 1) fun x8 =>
  HM.bind (α := ByteArray) (HM.load1 .str x8) fun x9 =>
  HM.bind (α := Bool) (HM.call1 Tryz.prog (.one .bool) 113 #[.string x9, .int .u8 35]) fun x10 =>
  HM.bind (α := Bool × Unit) (HM.ite x7 (
  HM.bind (α := Addr) (HM.idx x2.a x2.len x4.1 1) fun x11 =>
  HM.bind (α := ByteArray) (HM.load1 .str x11) fun x12 =>
  HM.pure (!(decide (x12 = (ByteArray.mk #[43]))), ())) (
  HM.pure (false, ()))) fun x13 =>
  HM.ite x13.1 (
  HM.pure (.inr (.inr (143, ())))) (
  HM.bind (α := Bool × Unit) (HM.ite x10 (
  HM.bind (α := Addr) (HM.idx x2.a x2.len x4.1 1) fun x14 =>
  HM.bind (α := ByteArray) (HM.load1 .str x14) fun x15 =>
  HM.ite (!(decide (x15 = (ByteArray.mk #[35])))) (
  HM.pure (true, ())) (
  HM.pure (decide (x4.1 < ((IntKind.wrap .i64 (((x2.len : Nat) : Int) - 1)) : Int)), ()))) (
  HM.pure (false, ()))) fun x16 =>
  HM.ite x16.1 (
  HM.pure (.inr (.inr (143, ())))) (
  HM.pure (.inl (IntKind.wrap .i64 (x4.1 + 1), ()))))) (
  HM.pure (.inr (.inl (x4.1, ()))))) (0, ())) (Sum.elim (fun x3 =>
  HM.pure (0, ())) HM.pure))
theorem ref07_CheckFilter_den (p0 : ByteArray) : denFn Tryz.prog [111, 112, 113] 53 [0, 2, 3, 4, 5, 6, 7, 11, 17, 37, 52] [0, 3, 4, 5, 6, 7, 11, 17, 37, 52] Tryz.f69.results.toList [.one (.int .i64)] (bodyOf Tryz.f69) [Kind.val (.one .str) p0] = ref07_CheckFilter p0 := by kernel_rfl
theorem ref07_CheckFilter_calls (p0 : ByteArray) (h : Heap) (Q : Value → Heap → Prop) (hh : ref07_CheckFilter p0 h fun x h' => Q (.int .i64 x.1) h') :
    HCalls Tryz.prog 69 #[.string p0] h Q :=
  calls_of_eq Tryz.func69 (by kernel_rfl) Tryz.ntmps69 (by kernel_rfl) (CC Tryz.call111 (CC Tryz.call112 (CC Tryz.call113 CN))) orders (ref07_CheckFilter_den p0) hh
def ref07_CheckName (p0 : ByteArray) : HM (Int × Unit) :=
  HM.bind (α := Bool) (HM.call1 Tryz.prog (.one .bool) 111 #[.string p0]) fun x1 =>
  HM.bind (α := Bool) (HM.call1 Tryz.prog (.one .bool) 113 #[.string p0, .int .u8 43]) fun x2 =>
  HM.bind (α := Bool) (HM.call1 Tryz.prog (.one .bool) 113 #[.string p0, .int .u8 35]) fun x3 =>
  HM.bind (α := Bool × Unit) (HM.ite (!x1) (
  HM.pure (true, ())) (
  HM.ite x2 (
  HM.pure (true, ())) (
  HM.pure (x3, ())))) fun x4 =>
  HM.ite x4.1 (
  HM.pure (144, ())) (
  HM.pure (0, ()))
theorem ref07_CheckName_den (p0 : ByteArray) : denFn Tryz.prog [111, 113] 20 [0, 2, 3, 4, 5, 19] [0, 3, 4, 5, 19] Tryz.f70.results.toList [.one (.int .i64)] (bodyOf Tryz.f70) [Kind.val (.one .str) p0] = ref07_CheckName p0 := by kernel_rfl
theorem ref07_CheckName_calls (p0 : ByteArray) (h : Heap) (Q : Value → Heap → Prop) (hh : ref07_CheckName p0 h fun x h' => Q (.int .i64 x.1) h') :
    HCalls Tryz.prog 70 #[.string p0] h Q :=
  calls_of_eq Tryz.func70 (by kernel_rfl) Tryz.ntmps70 (by kernel_rfl) (CC Tryz.call111 (CC Tryz.call113 CN)) orders (ref07_CheckName_den p0) hh
def ref13_New (p0 : Int) : HM (Option Addr × Unit) :=
  HM.bind (α := Int × Unit) (HM.ite (decide (p0 < (1 : Int))) (
  HM.pure (1, ())) (
  HM.pure (p0, ()))) fun x1 =>
  HM.bind (α := Int × Unit) (HM.ite (decide (64 < (x1.1 : Int))) (
  HM.pure (64, ())) (
  HM.pure (x1.1, ()))) fun x2 =>
  HM.bind (α := Nat) (HM.new (.cells #[.int .i64 x2.1, .int .i64 0, .slice none 0 0] 194)) fun x3 =>
  HM.pure (some ⟨x3, 0, none⟩, ())
theorem ref13_New_den (p0 : Int) : denFn Tryz.prog [] 10 [0, 2, 4, 6] [0, 4, 6] Tryz.f71.results.toList [.one .ptr] (bodyOf Tryz.f71) [Kind.val (.one (.int .i64)) p0] = ref13_New p0 := by kernel_rfl
theorem ref13_New_calls (p0 : Int) (h : Heap) (Q : Value → Heap → Prop) (hh : ref13_New p0 h fun x h' => Q (.pointer x.1) h') :
    HCalls Tryz.prog 71 #[.int .i64 p0] h Q :=
  calls_of_eq Tryz.func71 (by kernel_rfl) Tryz.ntmps71 (by kernel_rfl) CN orders (ref13_New_den p0) hh
def ref16_Decimal (p0 : Int) : HM (ByteArray × Unit) :=
  HM.bind (α := ByteArray × Int × Unit) (HM.loop (σ := ByteArray × Int × Unit) (τ := ByteArray × Int × Unit) (fun x2 =>
  HM.bind (α := Bool × Unit) (HM.ite (decide (0 < (x2.2.1 : Int))) (
  HM.pure (true, ())) (
  HM.pure (decide (x2.1 = (ByteArray.mk #[])), ()))) fun x3 =>
  HM.ite x3.1 (
  HM.req (10 ≠ (0 : Int)) <|
  HM.bind (α := Nat) (HM.new (.cells #[.int .u8 (IntKind.wrap .u8 (IntKind.wrap .i64 (48 + (Int.tmod x2.2.1 10))))] 5)) fun x4 =>
  HM.bind (α := ByteArray) (HM.strOf (⟨some ⟨x4, 0, none⟩, 1, 1⟩)) fun x5 =>
  HM.req (ByteArray.size x5 + ByteArray.size x2.1 ≤ 9223372036854775807) <|
  HM.req (10 ≠ (0 : Int)) <|
  HM.pure (.inl (x5 ++ x2.1, IntKind.wrap .i64 (Int.tdiv x2.2.1 10), ()))) (
  HM.pure (.inr (x2.1, x2.2.1, ())))) (ByteArray.mk #[], p0, ())) fun x1 =>
  HM.pure (x1.1, ())
theorem ref16_Decimal_den (p0 : Int) : denFn Tryz.prog [] 21 [0, 2, 3, 9] [0, 3, 9] Tryz.f72.results.toList [.one .str] (bodyOf Tryz.f72) [Kind.val (.one (.int .i64)) p0] = ref16_Decimal p0 := by kernel_rfl
theorem ref16_Decimal_calls (p0 : Int) (h : Heap) (Q : Value → Heap → Prop) (hh : ref16_Decimal p0 h fun x h' => Q (.string x.1) h') :
    HCalls Tryz.prog 72 #[.int .i64 p0] h Q :=
  calls_of_eq Tryz.func72 (by kernel_rfl) Tryz.ntmps72 (by kernel_rfl) CN orders (ref16_Decimal_den p0) hh
def ref10_ToRemote (p0 : ByteArray × Int × Int × ByteArray × ByteArray × Unit) (p1 : ByteArray) : HM (ByteArray × Bool × Unit) :=
  HM.bind (α := Nat) (HM.new (.cells #[.string p0.1, .int .i64 p0.2.1, .int .i64 p0.2.2.1, .string p0.2.2.2.1, .string p0.2.2.2.2.1] 128)) fun x1 =>
  HM.bind (α := Bool × Unit) (HM.bind (α := Int) (HM.load1 (.int .i64) (Addr.add ⟨x1, 0, none⟩ 1)) fun x2 =>
  HM.ite (!(x2 == 0)) (
  HM.bind (α := Int) (HM.load1 (.int .i64) (Addr.add ⟨x1, 0, none⟩ 1)) fun x3 =>
  HM.pure (!(x3 == 2), ())) (
  HM.pure (false, ()))) fun x4 =>
  HM.ite x4.1 (
  HM.pure (ByteArray.mk #[], false, ())) (
  HM.bind (α := ByteArray × Int × Int × ByteArray × ByteArray × Unit) (HM.loadN [.str, .int .i64, .int .i64, .str, .str] ⟨x1, 0, none⟩) fun x5 =>
  HM.bind (α := ByteArray) (HM.load1 .str (Addr.add ⟨x1, 0, none⟩ 3)) fun x6 =>
  HM.bind (α := ByteArray) (HM.load1 .str (Addr.add ⟨x1, 0, none⟩ 4)) fun x7 =>
  HM.bind (α := ByteArray × Bool × Unit) (HM.callN Tryz.prog [.one .str, .one .bool] 114 #[.agg #[.string x5.1, .int .i64 x5.2.1, .int .i64 x5.2.2.1, .string x5.2.2.2.1, .string x5.2.2.2.2.1], .string p1, .string x6, .string x7]) fun x8 =>
  HM.pure (x8.1, x8.2.1, ()))
theorem ref10_ToRemote_den (p0 : ByteArray × Int × Int × ByteArray × ByteArray × Unit) (p1 : ByteArray) : denFn Tryz.prog [114] 23 [0, 1, 2, 4, 5, 13] [0, 1, 2, 13] Tryz.f73.results.toList [.one .str, .one .bool] (bodyOf Tryz.f73) [Kind.val (.agg [.str, .int .i64, .int .i64, .str, .str]) p0, Kind.val (.one .str) p1] = ref10_ToRemote p0 p1 := by kernel_rfl
theorem ref10_ToRemote_calls (p0 : ByteArray × Int × Int × ByteArray × ByteArray × Unit) (p1 : ByteArray) (h : Heap) (Q : Value → Heap → Prop) (hh : ref10_ToRemote p0 p1 h fun x h' => Q (.tuple #[.string x.1, .bool x.2.1]) h') :
    HCalls Tryz.prog 73 #[.agg #[.string p0.1, .int .i64 p0.2.1, .int .i64 p0.2.2.1, .string p0.2.2.2.1, .string p0.2.2.2.2.1], .string p1] h Q :=
  calls_of_eq Tryz.func73 (by kernel_rfl) Tryz.ntmps73 (by kernel_rfl) (CC Tryz.call114 CN) orders (ref10_ToRemote_den p0 p1) hh
def ref10_less (p0 : Int) (p1 : Int) : HM (Int × Unit) :=
  HM.ite (decide (p0 < (p1 : Int))) (
  HM.pure (p0, ())) (
  HM.pure (p1, ()))
theorem ref10_less_den (p0 : Int) (p1 : Int) : denFn Tryz.prog [] 10 [0, 1, 4, 7] [0, 1, 7] Tryz.f74.results.toList [.one (.int .i64)] (bodyOf Tryz.f74) [Kind.val (.one (.int .i64)) p0, Kind.val (.one (.int .i64)) p1] = ref10_less p0 p1 := by kernel_rfl
theorem ref10_less_calls (p0 : Int) (p1 : Int) (h : Heap) (Q : Value → Heap → Prop) (hh : ref10_less p0 p1 h fun x h' => Q (.int .i64 x.1) h') :
    HCalls Tryz.prog 74 #[.int .i64 p0, .int .i64 p1] h Q :=
  calls_of_eq Tryz.func74 (by kernel_rfl) Tryz.ntmps74 (by kernel_rfl) CN orders (ref10_less_den p0 p1) hh
def slices_IndexFunc_Flight (p0 : Slc) (p1 : Value) : HM (Int × Unit) :=
  HM.bind (α := (Int × Unit) ⊕ (Int × Unit)) (HM.loop (σ := Int × Unit) (τ := (Int × Unit) ⊕ (Int × Unit)) (fun x2 =>
  HM.ite (decide (x2.1 < (((p0.len : Nat) : Int) : Int))) (
  HM.bind (α := Addr) (HM.idx p0.a p0.len x2.1 7) fun x3 =>
  HM.bind (α := Int × ByteArray × ByteArray × Int × Bool × ByteArray × Bool × Unit) (HM.loadN [.int .i64, .str, .str, .int .i64, .bool, .str, .bool] x3) fun x4 =>
  HM.bind (α := Bool) (HM.callV1 Tryz.prog (.one .bool) p1 #[.agg #[.int .i64 x4.1, .string x4.2.1, .string x4.2.2.1, .int .i64 x4.2.2.2.1, .bool x4.2.2.2.2.1, .string x4.2.2.2.2.2.1, .bool x4.2.2.2.2.2.2.1]]) fun x5 =>
  HM.ite x5 (
  HM.pure (.inr (.inr (x2.1, ())))) (
  HM.pure (.inl (IntKind.wrap .i64 (x2.1 + 1), ())))) (
  HM.pure (.inr (.inl (x2.1, ()))))) (0, ())) (Sum.elim (fun x1 =>
  HM.pure ((-1), ())) HM.pure)
theorem slices_IndexFunc_Flight_den (p0 : Slc) (p1 : Value) : denFn Tryz.prog [] 19 [0, 1, 4, 5, 7, 8, 9, 16] [0, 1, 5, 7, 8, 9, 16] Tryz.f75.results.toList [.one (.int .i64)] (bodyOf Tryz.f75) [Kind.val (.one .slc) p0, Kind.val (.one .any) p1] = slices_IndexFunc_Flight p0 p1 := by kernel_rfl
theorem slices_IndexFunc_Flight_calls (p0 : Slc) (p1 : Value) (h : Heap) (Q : Value → Heap → Prop) (hh : slices_IndexFunc_Flight p0 p1 h fun x h' => Q (.int .i64 x.1) h') :
    HCalls Tryz.prog 75 #[.slice p0.a p0.len p0.cap, p1] h Q :=
  calls_of_eq Tryz.func75 (by kernel_rfl) Tryz.ntmps75 (by kernel_rfl) CN orders (slices_IndexFunc_Flight_den p0 p1) hh
def outflow_Flow_Answer_f1 (p0 : Int × ByteArray × ByteArray × Int × Bool × ByteArray × Bool × Unit) (p1 : Addr) : HM (Bool × Unit) :=
  HM.bind (α := Nat) (HM.new (.cells #[.int .i64 p0.1, .string p0.2.1, .string p0.2.2.1, .int .i64 p0.2.2.2.1, .bool p0.2.2.2.2.1, .string p0.2.2.2.2.2.1, .bool p0.2.2.2.2.2.2.1] 158)) fun x1 =>
  HM.bind (α := Int) (HM.load1 (.int .i64) (Addr.add ⟨x1, 0, none⟩ 0)) fun x2 =>
  HM.bind (α := Int) (HM.load1 (.int .i64) (Addr.add p1 4)) fun x3 =>
  HM.pure (x2 == x3, ())
theorem outflow_Flow_Answer_f1_den (p0 : Int × ByteArray × ByteArray × Int × Bool × ByteArray × Bool × Unit) (p1 : Addr) : denFn Tryz.prog [] 9 [0, 1, 2, 3] [0, 1, 2] Tryz.f76.results.toList [.one .bool] (bodyOf Tryz.f76) [Kind.val (.agg [.int .i64, .str, .str, .int .i64, .bool, .str, .bool]) p0, Value.pointer (some p1)] = outflow_Flow_Answer_f1 p0 p1 := by kernel_rfl
theorem outflow_Flow_Answer_f1_calls (p0 : Int × ByteArray × ByteArray × Int × Bool × ByteArray × Bool × Unit) (p1 : Addr) (h : Heap) (Q : Value → Heap → Prop) (hh : outflow_Flow_Answer_f1 p0 p1 h fun x h' => Q (.bool x.1) h') :
    HCalls Tryz.prog 76 #[.agg #[.int .i64 p0.1, .string p0.2.1, .string p0.2.2.1, .int .i64 p0.2.2.2.1, .bool p0.2.2.2.2.1, .string p0.2.2.2.2.2.1, .bool p0.2.2.2.2.2.2.1], .pointer (some p1)] h Q :=
  calls_of_eq Tryz.func76 (by kernel_rfl) Tryz.ntmps76 (by kernel_rfl) CN orders (outflow_Flow_Answer_f1_den p0 p1) hh
def outflow_Flow_over (p0 : Option Addr) (p1 : Int) : HM (Unit) :=
  HM.bind (α := Addr) (HM.nonnil p0) fun x1 =>
  HM.bind (α := Option Addr) (HM.load1 .ptr (Addr.add x1 0)) fun x2 =>
  HM.bind (α := Addr) (HM.nonnil p0) fun x3 =>
  HM.bind (α := Slc) (HM.load1 .slc (Addr.add x3 3)) fun x4 =>
  HM.bind (α := Addr) (HM.idx x4.a x4.len p1 7) fun x5 =>
  HM.bind (α := Int) (HM.load1 (.int .i64) (Addr.add x5 0)) fun x6 =>
  HM.bind (α := Bool) (HM.call1 Tryz.prog (.one .bool) 115 #[.pointer x2, .int .i64 x6]) fun x7 =>
  HM.bind (α := Addr) (HM.nonnil p0) fun x8 =>
  HM.bind (α := Slc) (HM.load1 .slc (Addr.add x8 3)) fun x9 =>
  HM.bind (α := Slc) (HM.call1 Tryz.prog (.one .slc) 116 #[.slice x9.a x9.len x9.cap, .int .i64 p1, .int .i64 (IntKind.wrap .i64 (p1 + 1))]) fun x10 =>
  HM.bind (α := Addr) (HM.nonnil p0) fun x11 =>
  HM.bind (α := Unit) (HM.store1 (Addr.add x11 3) (.slice x10.a x10.len x10.cap)) fun _ =>
  HM.pure ()
theorem outflow_Flow_over_den (p0 : Option Addr) (p1 : Int) : denFn Tryz.prog [115, 116] 28 [0, 1] [0, 1] Tryz.f77.results.toList [] (bodyOf Tryz.f77) [Kind.val (.one .ptr) p0, Kind.val (.one (.int .i64)) p1] = outflow_Flow_over p0 p1 := by kernel_rfl
theorem outflow_Flow_over_calls (p0 : Option Addr) (p1 : Int) (h : Heap) (Q : Value → Heap → Prop) (hh : outflow_Flow_over p0 p1 h fun x h' => Q (.tuple #[]) h') :
    HCalls Tryz.prog 77 #[.pointer p0, .int .i64 p1] h Q :=
  calls_of_eq Tryz.func77 (by kernel_rfl) Tryz.ntmps77 (by kernel_rfl) (CC Tryz.call115 (CC Tryz.call116 CN)) orders (outflow_Flow_over_den p0 p1) hh
def outflow_Flow_goOn (p0 : Option Addr) (p1 : Slc) : HM (Slc × Unit) :=
  HM.bind (α := Slc × Unit) (HM.loop (σ := Slc × Unit) (τ := Slc × Unit) (fun x2 =>
  HM.bind (α := Bool × Unit) (HM.bind (α := Addr) (HM.nonnil p0) fun x3 =>
  HM.bind (α := Bool) (HM.load1 .bool (Addr.add x3 2)) fun x4 =>
  HM.ite x4 (
  HM.bind (α := Addr) (HM.nonnil p0) fun x5 =>
  HM.bind (α := Slc) (HM.load1 .slc (Addr.add x5 4)) fun x6 =>
  HM.pure (decide (0 < (((x6.len : Nat) : Int) : Int)), ())) (
  HM.pure (false, ()))) fun x7 =>
  HM.ite x7.1 (
  HM.bind (α := Addr) (HM.nonnil p0) fun x8 =>
  HM.bind (α := Slc) (HM.load1 .slc (Addr.add x8 4)) fun x9 =>
  HM.bind (α := Addr) (HM.idx x9.a x9.len 0 5) fun x10 =>
  HM.bind (α := ByteArray × ByteArray × Int × Bool × ByteArray × Unit) (HM.loadN [.str, .str, .int .i64, .bool, .str] x10) fun x11 =>
  HM.bind (α := Nat) (HM.new (.cells #[.string (ByteArray.mk #[]), .string (ByteArray.mk #[]), .int .i64 0, .bool false, .string (ByteArray.mk #[])] 50)) fun x12 =>
  HM.bind (α := Unit) (HM.storeN ⟨x12, 0, none⟩ [.string x11.1, .string x11.2.1, .int .i64 x11.2.2.1, .bool x11.2.2.2.1, .string x11.2.2.2.2.1]) fun _ =>
  HM.bind (α := Bool × Unit) (HM.bind (α := Int) (HM.load1 (.int .i64) (Addr.add ⟨x12, 0, none⟩ 2)) fun x13 =>
  HM.ite (decide (0 < (x13 : Int))) (
  HM.bind (α := Addr) (HM.nonnil p0) fun x14 =>
  HM.bind (α := Slc) (HM.load1 .slc (Addr.add x14 3)) fun x15 =>
  HM.bind (α := Addr) (HM.nonnil p0) fun x16 =>
  HM.bind (α := Int) (HM.load1 (.int .i64) (Addr.add x16 1)) fun x17 =>
  HM.pure (decide (x17 ≤ (((x15.len : Nat) : Int) : Int)), ())) (
  HM.pure (false, ()))) fun x18 =>
  HM.ite x18.1 (
  HM.pure (.inr (x2.1, ()))) (
  HM.bind (α := Addr) (HM.nonnil p0) fun x19 =>
  HM.bind (α := Slc) (HM.load1 .slc (Addr.add x19 4)) fun x20 =>
  HM.bind (α := Slc) (HM.slice x20 (some 1) none none 5) fun x21 =>
  HM.bind (α := Addr) (HM.nonnil p0) fun x22 =>
  HM.bind (α := Unit) (HM.store1 (Addr.add x22 4) (.slice x21.a x21.len x21.cap)) fun _ =>
  HM.bind (α := Int) (HM.load1 (.int .i64) (Addr.add ⟨x12, 0, none⟩ 2)) fun x23 =>
  HM.bind (α := Int × Unit) (HM.ite (decide (0 < (x23 : Int))) (
  HM.bind (α := Addr) (HM.nonnil p0) fun x25 =>
  HM.bind (α := Option Addr) (HM.load1 .ptr (Addr.add x25 0)) fun x26 =>
  HM.bind (α := Int × Int × Unit) (HM.callN Tryz.prog [.one (.int .i64), .one (.int .u8)] 117 #[.pointer x26]) fun x27 =>
  HM.bind (α := Addr) (HM.nonnil p0) fun x28 =>
  HM.bind (α := Slc) (HM.load1 .slc (Addr.add x28 3)) fun x29 =>
  HM.bind (α := ByteArray × ByteArray × Int × Bool × ByteArray × Unit) (HM.loadN [.str, .str, .int .i64, .bool, .str] ⟨x12, 0, none⟩) fun x30 =>
  HM.bind (α := Nat) (HM.new (.cells #[.int .i64 x27.1, .string x30.1, .string x30.2.1, .int .i64 x30.2.2.1, .bool x30.2.2.2.1, .string x30.2.2.2.2.1, .bool false] 158)) fun x31 =>
  HM.bind (α := Slc) (HM.load1 .slc (Addr.add x28 3)) fun x32 =>
  HM.req ((.slice x32.a x32.len x32.cap : Value) = .slice x29.a x29.len x29.cap) <|
  HM.bind (α := Slc) (HM.append 158 7 80 #[.int .i64 0, .string (ByteArray.mk #[]), .string (ByteArray.mk #[]), .int .i64 0, .bool false, .string (ByteArray.mk #[]), .bool false] x29 1 (srcSlc 7 (⟨some ⟨x31, 0, none⟩, 1, 1⟩))) fun x33 =>
  HM.bind (α := Addr) (HM.nonnil p0) fun x34 =>
  HM.bind (α := Unit) (HM.store1 (Addr.add x34 3) (.slice x33.a x33.len x33.cap)) fun _ =>
  HM.pure (x27.1, ())) (
  HM.pure (0, ()))) fun x24 =>
  HM.bind (α := ByteArray × ByteArray × Int × Bool × ByteArray × Unit) (HM.loadN [.str, .str, .int .i64, .bool, .str] ⟨x12, 0, none⟩) fun x35 =>
  HM.bind (α := Int × Bool × Bool × Int × Int × ByteArray × ByteArray × Int × Slc × Slc × ByteArray × Bool × Int × Bool × ByteArray × ByteArray × Int × Bool × Slc × Bool × Bool × ByteArray × ByteArray × Bool × Slc × Slc × Unit) (HM.call1 Tryz.prog (.agg [.int .i64, .bool, .bool, .int .i64, .int .i64, .str, .str, .int .u8, .slc, .slc, .str, .bool, .int .i64, .bool, .str, .str, .int .i64, .bool, .slc, .bool, .bool, .str, .str, .bool, .slc, .slc]) 81 #[.agg #[.string x35.1, .string x35.2.1, .int .i64 x35.2.2.1, .bool x35.2.2.2.1, .string x35.2.2.2.2.1], .int .i64 x24.1, .bool false]) fun x36 =>
  HM.bind (α := Nat) (HM.new (.cells #[.int .i64 x36.1, .bool x36.2.1, .bool x36.2.2.1, .int .i64 x36.2.2.2.1, .int .i64 x36.2.2.2.2.1, .string x36.2.2.2.2.2.1, .string x36.2.2.2.2.2.2.1, .int .u8 x36.2.2.2.2.2.2.2.1, .slice x36.2.2.2.2.2.2.2.2.1.a x36.2.2.2.2.2.2.2.2.1.len x36.2.2.2.2.2.2.2.2.1.cap, .slice x36.2.2.2.2.2.2.2.2.2.1.a x36.2.2.2.2.2.2.2.2.2.1.len x36.2.2.2.2.2.2.2.2.2.1.cap, .string x36.2.2.2.2.2.2.2.2.2.2.1, .bool x36.2.2.2.2.2.2.2.2.2.2.2.1, .int .i64 x36.2.2.2.2.2.2.2.2.2.2.2.2.1, .bool x36.2.2.2.2.2.2.2.2.2.2.2.2.2.1, .string x36.2.2.2.2.2.2.2.2.2.2.2.2.2.2.1, .string x36.2.2.2.2.2.2.2.2.2.2.2.2.2.2.2.1, .int .i64 x36.2.2.2.2.2.2.2.2.2.2.2.2.2.2.2.2.1, .bool x36.2.2.2.2.2.2.2.2.2.2.2.2.2.2.2.2.2.1, .slice x36.2.2.2.2.2.2.2.2.2.2.2.2.2.2.2.2.2.2.1.a x36.2.2.2.2.2.2.2.2.2.2.2.2.2.2.2.2.2.2.1.len x36.2.2.2.2.2.2.2.2.2.2.2.2.2.2.2.2.2.2.1.cap, .bool x36.2.2.2.2.2.2.2.2.2.2.2.2.2.2.2.2.2.2.2.1, .bool x36.2.2.2.2.2.2.2.2.2.2.2.2.2.2.2.2.2.2.2.2.1, .string x36.2.2.2.2.2.2.2.2.2.2.2.2.2.2.2.2.2.2.2.2.2.1, .string x36.2.2.2.2.2.2.2.2.2.2.2.2.2.2.2.2.2.2.2.2.2.2.1, .bool x36.2.2.2.2.2.2.2.2.2.2.2.2.2.2.2.2.2.2.2.2.2.2.2.1, .slice x36.2.2.2.2.2.2.2.2.2.2.2.2.2.2.2.2.2.2.2.2.2.2.2.2.1.a x36.2.2.2.2.2.2.2.2.2.2.2.2.2.2.2.2.2.2.2.2.2.2.2.2.1.len x36.2.2.2.2.2.2.2.2.2.2.2.2.2.2.2.2.2.2.2.2.2.2.2.2.1.cap, .slice x36.2.2.2.2.2.2.2.2.2.2.2.2.2.2.2.2.2.2.2.2.2.2.2.2.2.1.a x36.2.2.2.2.2.2.2.2.2.2.2.2.2.2.2.2.2.2.2.2.2.2.2.2.2.1.len x36.2.2.2.2.2.2.2.2.2.2.2.2.2.2.2.2.2.2.2.2.2.2.2.2.2.1.cap] 34)) fun x37 =>
  HM.bind (α := Slc) (HM.append 34 26 328 #[.int .i64 0, .bool false, .bool false, .int .i64 0, .int .i64 0, .string (ByteArray.mk #[]), .string (ByteArray.mk #[]), .int .u8 0, .slice none 0 0, .slice none 0 0, .string (ByteArray.mk #[]), .bool false, .int .i64 0, .bool false, .string (ByteArray.mk #[]), .string (ByteArray.mk #[]), .int .i64 0, .bool false, .slice none 0 0, .bool false, .bool false, .string (ByteArray.mk #[]), .string (ByteArray.mk #[]), .bool false, .slice none 0 0, .slice none 0 0] x2.1 1 (srcSlc 26 (⟨some ⟨x37, 0, none⟩, 1, 1⟩))) fun x38 =>
  HM.pure (.inl (x38, ())))) (
  HM.pure (.inr (x2.1, ())))) (p1, ())) fun x1 =>
  HM.pure (x1.1, ())
theorem outflow_Flow_goOn_den (p0 : Option Addr) (p1 : Slc) : denFn Tryz.prog [117, 81] 78 [0, 1, 4, 5, 6, 18, 39, 50] [0, 1, 5, 6, 18, 39, 50] Tryz.f78.results.toList [.one .slc] (bodyOf Tryz.f78) [Kind.val (.one .ptr) p0, Kind.val (.one .slc) p1] = outflow_Flow_goOn p0 p1 := by kernel_rfl
theorem outflow_Flow_goOn_calls (p0 : Option Addr) (p1 : Slc) (h : Heap) (Q : Value → Heap → Prop) (hh : outflow_Flow_goOn p0 p1 h fun x h' => Q (.slice x.1.a x.1.len x.1.cap) h') :
    HCalls Tryz.prog 78 #[.pointer p0, .slice p1.a p1.len p1.cap] h Q :=
  calls_of_eq Tryz.func78 (by kernel_rfl) Tryz.ntmps78 (by kernel_rfl) (CC Tryz.call117 (CC Tryz.call81 CN)) orders (outflow_Flow_goOn_den p0 p1) hh
def ref13_Free (p0 : Option Addr) (p1 : Int) : HM (Bool × Unit) :=
  HM.bind (α := Slc × Int × Unit) (HM.loop (σ := Slc × Int × Unit) (τ := Slc × Int × Unit) (fun x2 =>
  HM.bind (α := Addr) (HM.nonnil p0) fun x3 =>
  HM.bind (α := Slc) (HM.load1 .slc (Addr.add x3 2)) fun x4 =>
  HM.ite (decide (x2.2.1 < (((x4.len : Nat) : Int) : Int))) (
  HM.bind (α := Addr) (HM.nonnil p0) fun x5 =>
  HM.bind (α := Slc) (HM.load1 .slc (Addr.add x5 2)) fun x6 =>
  HM.bind (α := Addr) (HM.idx x6.a x6.len x2.2.1 1) fun x7 =>
  HM.bind (α := Int) (HM.load1 (.int .i64) x7) fun x8 =>
  HM.bind (α := Slc × Unit) (HM.ite (!(x8 == p1)) (
  HM.bind (α := Addr) (HM.nonnil p0) fun x10 =>
  HM.bind (α := Slc) (HM.load1 .slc (Addr.add x10 2)) fun x11 =>
  HM.bind (α := Addr) (HM.idx x11.a x11.len x2.2.1 1) fun x12 =>
  HM.bind (α := Int) (HM.load1 (.int .i64) x12) fun x13 =>
  HM.bind (α := Nat) (HM.new (.cells #[.int .i64 x13] 3)) fun x14 =>
  HM.bind (α := Slc) (HM.append 3 1 8 #[.int .i64 0] x2.1 1 (srcSlc 1 (⟨some ⟨x14, 0, none⟩, 1, 1⟩))) fun x15 =>
  HM.pure (x15, ())) (
  HM.pure (x2.1, ()))) fun x9 =>
  HM.pure (.inl (x9.1, IntKind.wrap .i64 (x2.2.1 + 1), ()))) (
  HM.pure (.inr (x2.1, x2.2.1, ())))) (⟨none, 0, 0⟩, 0, ())) fun x1 =>
  HM.bind (α := Addr) (HM.nonnil p0) fun x16 =>
  HM.bind (α := Slc) (HM.load1 .slc (Addr.add x16 2)) fun x17 =>
  HM.bind (α := Addr) (HM.nonnil p0) fun x18 =>
  HM.bind (α := Unit) (HM.store1 (Addr.add x18 2) (.slice x1.1.a x1.1.len x1.1.cap)) fun _ =>
  HM.pure (decide (((x1.1.len : Nat) : Int) < (((x17.len : Nat) : Int) : Int)), ())
theorem ref13_Free_den (p0 : Option Addr) (p1 : Int) : denFn Tryz.prog [] 49 [0, 1, 4, 5, 6, 7, 14, 25] [0, 1, 5, 6, 7, 14, 25] Tryz.f79.results.toList [.one .bool] (bodyOf Tryz.f79) [Kind.val (.one .ptr) p0, Kind.val (.one (.int .i64)) p1] = ref13_Free p0 p1 := by kernel_rfl
theorem ref13_Free_calls (p0 : Option Addr) (p1 : Int) (h : Heap) (Q : Value → Heap → Prop) (hh : ref13_Free p0 p1 h fun x h' => Q (.bool x.1) h') :
    HCalls Tryz.prog 79 #[.pointer p0, .int .i64 p1] h Q :=
  calls_of_eq Tryz.func79 (by kernel_rfl) Tryz.ntmps79 (by kernel_rfl) CN orders (ref13_Free_den p0 p1) hh
def ref13_Take (p0 : Option Addr) : HM (Int × Int × Unit) :=
  HM.bind (α := Addr) (HM.nonnil p0) fun x1 =>
  HM.bind (α := Slc) (HM.load1 .slc (Addr.add x1 2)) fun x2 =>
  HM.bind (α := Addr) (HM.nonnil p0) fun x3 =>
  HM.bind (α := Int) (HM.load1 (.int .i64) (Addr.add x3 0)) fun x4 =>
  HM.ite (decide (x4 ≤ (((x2.len : Nat) : Int) : Int))) (
  HM.pure (0, 147, ())) (
  HM.bind (α := Addr) (HM.nonnil p0) fun x5 =>
  HM.bind (α := Int) (HM.load1 (.int .i64) (Addr.add x5 1)) fun x6 =>
  HM.bind (α := Int × Int × Unit) (HM.loop (σ := Int × Int × Unit) (τ := Int × Int × Unit) (fun x8 =>
  HM.ite (decide (x8.2.1 ≤ (64 : Int))) (
  HM.bind (α := Int × Unit) (HM.ite (decide (65535 < ((IntKind.wrap .i64 (x8.1 + 1)) : Int))) (
  HM.pure (1, ())) (
  HM.pure (IntKind.wrap .i64 (x8.1 + 1), ()))) fun x9 =>
  HM.bind (α := Bool) (HM.call1 Tryz.prog (.one .bool) 118 #[.pointer p0, .int .i64 x9.1]) fun x10 =>
  HM.ite (!x10) (
  HM.pure (.inr (x9.1, x8.2.1, ()))) (
  HM.pure (.inl (x9.1, IntKind.wrap .i64 (x8.2.1 + 1), ())))) (
  HM.pure (.inr (x8.1, x8.2.1, ())))) (x6, 0, ())) fun x7 =>
  HM.bind (α := Addr) (HM.nonnil p0) fun x11 =>
  HM.bind (α := Unit) (HM.store1 (Addr.add x11 1) (.int .i64 x7.1)) fun _ =>
  HM.bind (α := Unit) (HM.callN Tryz.prog [] 119 #[.pointer p0, .int .i64 x7.1]) fun x12 =>
  HM.pure (x7.1, 0, ()))
theorem ref13_Take_den (p0 : Option Addr) : denFn Tryz.prog [118, 119] 42 [0, 2, 3, 4, 5, 6, 16, 22, 28, 33] [0, 4, 5, 6, 16, 22, 28, 33] Tryz.f80.results.toList [.one (.int .i64), .one (.int .i64)] (bodyOf Tryz.f80) [Kind.val (.one .ptr) p0] = ref13_Take p0 := by kernel_rfl
theorem ref13_Take_calls (p0 : Option Addr) (h : Heap) (Q : Value → Heap → Prop) (hh : ref13_Take p0 h fun x h' => Q (.tuple #[.int .i64 x.1, .int .i64 x.2.1]) h') :
    HCalls Tryz.prog 80 #[.pointer p0] h Q :=
  calls_of_eq Tryz.func80 (by kernel_rfl) Tryz.ntmps80 (by kernel_rfl) (CC Tryz.call118 (CC Tryz.call119 CN)) orders (ref13_Take_den p0) hh
def outflow_Message_packet (p0 : ByteArray × ByteArray × Int × Bool × ByteArray × Unit) (p1 : Int) (p2 : Bool) : HM ((Int × Bool × Bool × Int × Int × ByteArray × ByteArray × Int × Slc × Slc × ByteArray × Bool × Int × Bool × ByteArray × ByteArray × Int × Bool × Slc × Bool × Bool × ByteArray × ByteArray × Bool × Slc × Slc × Unit) × Unit) :=
  HM.bind (α := Nat) (HM.new (.cells #[.string p0.1, .string p0.2.1, .int .i64 p0.2.2.1, .bool p0.2.2.2.1, .string p0.2.2.2.2.1] 50)) fun x1 =>
  HM.bind (α := Nat) (HM.new (.cells #[.int .i64 0, .bool false, .bool false, .int .i64 0, .int .i64 0, .string (ByteArray.mk #[]), .string (ByteArray.mk #[]), .int .u8 0, .slice none 0 0, .slice none 0 0, .string (ByteArray.mk #[]), .bool false, .int .i64 0, .bool false, .string (ByteArray.mk #[]), .string (ByteArray.mk #[]), .int .i64 0, .bool false, .slice none 0 0, .bool false, .bool false, .string (ByteArray.mk #[]), .string (ByteArray.mk #[]), .bool false, .slice none 0 0, .slice none 0 0] 34)) fun x2 =>
  HM.bind (α := Int) (HM.load1 (.int .i64) (Addr.add ⟨x1, 0, none⟩ 2)) fun x3 =>
  HM.bind (α := Bool) (HM.load1 .bool (Addr.add ⟨x1, 0, none⟩ 3)) fun x4 =>
  HM.bind (α := ByteArray) (HM.load1 .str (Addr.add ⟨x1, 0, none⟩ 0)) fun x5 =>
  HM.bind (α := ByteArray) (HM.load1 .str (Addr.add ⟨x1, 0, none⟩ 1)) fun x6 =>
  HM.bind (α := Nat) (HM.new (.cells #[.int .i64 0, .bool false, .bool false, .int .i64 0, .int .i64 0, .string (ByteArray.mk #[]), .string (ByteArray.mk #[]), .int .u8 0, .slice none 0 0, .slice none 0 0, .string (ByteArray.mk #[]), .bool false, .int .i64 0, .bool false, .string (ByteArray.mk #[]), .string (ByteArray.mk #[]), .int .i64 0, .bool false, .slice none 0 0, .bool false, .bool false, .string (ByteArray.mk #[]), .string (ByteArray.mk #[]), .bool false, .slice none 0 0, .slice none 0 0] 34)) fun x7 =>
  HM.bind (α := Unit) (HM.storeN ⟨x7, 0, none⟩ [.int .i64 3, .bool p2, .bool x4, .int .i64 x3, .int .i64 p1, .string x5, .string x6, .int .u8 0, .slice none 0 0, .slice none 0 0, .string (ByteArray.mk #[]), .bool false, .int .i64 0, .bool false, .string (ByteArray.mk #[]), .string (ByteArray.mk #[]), .int .i64 0, .bool false, .slice none 0 0, .bool false, .bool false, .string (ByteArray.mk #[]), .string (ByteArray.mk #[]), .bool false, .slice none 0 0, .slice none 0 0]) fun _ =>
  HM.bind (α := ByteArray) (HM.load1 .str (Addr.add ⟨x1, 0, none⟩ 4)) fun x8 =>
  HM.bind (α := Unit) (HM.ite (!(decide (x8 = (ByteArray.mk #[])))) (
  HM.bind (α := ByteArray) (HM.load1 .str (Addr.add ⟨x1, 0, none⟩ 4)) fun x10 =>
  HM.bind (α := Nat) (HM.new (.cells #[.int .i64 38, .int .i64 0, .string (ByteArray.mk #[116, 97, 103]), .string x10] 44)) fun x11 =>
  HM.bind (α := Unit) (HM.store1 (Addr.add ⟨x7, 0, none⟩ 9) (.slice (some ⟨x11, 0, none⟩) 1 1)) fun _ =>
  HM.pure ()) (
  HM.pure ())) fun x9 =>
  HM.bind (α := Int × Bool × Bool × Int × Int × ByteArray × ByteArray × Int × Slc × Slc × ByteArray × Bool × Int × Bool × ByteArray × ByteArray × Int × Bool × Slc × Bool × Bool × ByteArray × ByteArray × Bool × Slc × Slc × Unit) (HM.loadN [.int .i64, .bool, .bool, .int .i64, .int .i64, .str, .str, .int .u8, .slc, .slc, .str, .bool, .int .i64, .bool, .str, .str, .int .i64, .bool, .slc, .bool, .bool, .str, .str, .bool, .slc, .slc] ⟨x7, 0, none⟩) fun x12 =>
  HM.bind (α := Unit) (HM.storeN ⟨x2, 0, none⟩ [.int .i64 x12.1, .bool x12.2.1, .bool x12.2.2.1, .int .i64 x12.2.2.2.1, .int .i64 x12.2.2.2.2.1, .string x12.2.2.2.2.2.1, .string x12.2.2.2.2.2.2.1, .int .u8 x12.2.2.2.2.2.2.2.1, .slice x12.2.2.2.2.2.2.2.2.1.a x12.2.2.2.2.2.2.2.2.1.len x12.2.2.2.2.2.2.2.2.1.cap, .slice x12.2.2.2.2.2.2.2.2.2.1.a x12.2.2.2.2.2.2.2.2.2.1.len x12.2.2.2.2.2.2.2.2.2.1.cap, .string x12.2.2.2.2.2.2.2.2.2.2.1, .bool x12.2.2.2.2.2.2.2.2.2.2.2.1, .int .i64 x12.2.2.2.2.2.2.2.2.2.2.2.2.1, .bool x12.2.2.2.2.2.2.2.2.2.2.2.2.2.1, .string x12.2.2.2.2.2.2.2.2.2.2.2.2.2.2.1, .string x12.2.2.2.2.2.2.2.2.2.2.2.2.2.2.2.1, .int .i64 x12.2.2.2.2.2.2.2.2.2.2.2.2.2.2.2.2.1, .bool x12.2.2.2.2.2.2.2.2.2.2.2.2.2.2.2.2.2.1, .slice x12.2.2.2.2.2.2.2.2.2.2.2.2.2.2.2.2.2.2.1.a x12.2.2.2.2.2.2.2.2.2.2.2.2.2.2.2.2.2.2.1.len x12.2.2.2.2.2.2.2.2.2.2.2.2.2.2.2.2.2.2.1.cap, .bool x12.2.2.2.2.2.2.2.2.2.2.2.2.2.2.2.2.2.2.2.1, .bool x12.2.2.2.2.2.2.2.2.2.2.2.2.2.2.2.2.2.2.2.2.1, .string x12.2.2.2.2.2.2.2.2.2.2.2.2.2.2.2.2.2.2.2.2.2.1, .string x12.2.2.2.2.2.2.2.2.2.2.2.2.2.2.2.2.2.2.2.2.2.2.1, .bool x12.2.2.2.2.2.2.2.2.2.2.2.2.2.2.2.2.2.2.2.2.2.2.2.1, .slice x12.2.2.2.2.2.2.2.2.2.2.2.2.2.2.2.2.2.2.2.2.2.2.2.2.1.a x12.2.2.2.2.2.2.2.2.2.2.2.2.2.2.2.2.2.2.2.2.2.2.2.2.1.len x12.2.2.2.2.2.2.2.2.2.2.2.2.2.2.2.2.2.2.2.2.2.2.2.2.1.cap, .slice x12.2.2.2.2.2.2.2.2.2.2.2.2.2.2.2.2.2.2.2.2.2.2.2.2.2.1.a x12.2.2.2.2.2.2.2.2.2.2.2.2.2.2.2.2.2.2.2.2.2.2.2.2.2.1.len x12.2.2.2.2.2.2.2.2.2.2.2.2.2.2.2.2.2.2.2.2.2.2.2.2.2.1.cap]) fun _ =>
  HM.bind (α := Int × Bool × Bool × Int × Int × ByteArray × ByteArray × Int × Slc × Slc × ByteArray × Bool × Int × Bool × ByteArray × ByteArray × Int × Bool × Slc × Bool × Bool × ByteArray × ByteArray × Bool × Slc × Slc × Unit) (HM.loadN [.int .i64, .bool, .bool, .int .i64, .int .i64, .str, .str, .int .u8, .slc, .slc, .str, .bool, .int .i64, .bool, .str, .str, .int .i64, .bool, .slc, .bool, .bool, .str, .str, .bool, .slc, .slc] ⟨x2, 0, none⟩) fun x13 =>
  HM.pure ((x13.1, x13.2.1, x13.2.2.1, x13.2.2.2.1, x13.2.2.2.2.1, x13.2.2.2.2.2.1, x13.2.2.2.2.2.2.1, x13.2.2.2.2.2.2.2.1, x13.2.2.2.2.2.2.2.2.1, x13.2.2.2.2.2.2.2.2.2.1, x13.2.2.2.2.2.2.2.2.2.2.1, x13.2.2.2.2.2.2.2.2.2.2.2.1, x13.2.2.2.2.2.2.2.2.2.2.2.2.1, x13.2.2.2.2.2.2.2.2.2.2.2.2.2.1, x13.2.2.2.2.2.2.2.2.2.2.2.2.2.2.1, x13.2.2.2.2.2.2.2.2.2.2.2.2.2.2.2.1, x13.2.2.2.2.2.2.2.2.2.2.2.2.2.2.2.2.1, x13.2.2.2.2.2.2.2.2.2.2.2.2.2.2.2.2.2.1, x13.2.2.2.2.2.2.2.2.2.2.2.2.2.2.2.2.2.2.1, x13.2.2.2.2.2.2.2.2.2.2.2.2.2.2.2.2.2.2.2.1, x13.2.2.2.2.2.2.2.2.2.2.2.2.2.2.2.2.2.2.2.2.1, x13.2.2.2.2.2.2.2.2.2.2.2.2.2.2.2.2.2.2.2.2.2.1, x13.2.2.2.2.2.2.2.2.2.2.2.2.2.2.2.2.2.2.2.2.2.2.1, x13.2.2.2.2.2.2.2.2.2.2.2.2.2.2.2.2.2.2.2.2.2.2.2.1, x13.2.2.2.2.2.2.2.2.2.2.2.2.2.2.2.2.2.2.2.2.2.2.2.2.1, x13.2.2.2.2.2.2.2.2.2.2.2.2.2.2.2.2.2.2.2.2.2.2.2.2.2.1, ()), ())
theorem outflow_Message_packet_den (p0 : ByteArray × ByteArray × Int × Bool × ByteArray × Unit) (p1 : Int) (p2 : Bool) : denFn Tryz.prog [] 28 [0, 1, 2, 3, 6, 7, 21] [0, 1, 2, 3, 6, 7, 21] Tryz.f81.results.toList [.agg [.int .i64, .bool, .bool, .int .i64, .int .i64, .str, .str, .int .u8, .slc, .slc, .str, .bool, .int .i64, .bool, .str, .str, .int .i64, .bool, .slc, .bool, .bool, .str, .str, .bool, .slc, .slc]] (bodyOf Tryz.f81) [Kind.val (.agg [.str, .str, .int .i64, .bool, .str]) p0, Kind.val (.one (.int .i64)) p1, Kind.val (.one .bool) p2] = outflow_Message_packet p0 p1 p2 := by kernel_rfl
theorem outflow_Message_packet_calls (p0 : ByteArray × ByteArray × Int × Bool × ByteArray × Unit) (p1 : Int) (p2 : Bool) (h : Heap) (Q : Value → Heap → Prop) (hh : outflow_Message_packet p0 p1 p2 h fun x h' => Q (.agg #[.int .i64 x.1.1, .bool x.1.2.1, .bool x.1.2.2.1, .int .i64 x.1.2.2.2.1, .int .i64 x.1.2.2.2.2.1, .string x.1.2.2.2.2.2.1, .string x.1.2.2.2.2.2.2.1, .int .u8 x.1.2.2.2.2.2.2.2.1, .slice x.1.2.2.2.2.2.2.2.2.1.a x.1.2.2.2.2.2.2.2.2.1.len x.1.2.2.2.2.2.2.2.2.1.cap, .slice x.1.2.2.2.2.2.2.2.2.2.1.a x.1.2.2.2.2.2.2.2.2.2.1.len x.1.2.2.2.2.2.2.2.2.2.1.cap, .string x.1.2.2.2.2.2.2.2.2.2.2.1, .bool x.1.2.2.2.2.2.2.2.2.2.2.2.1, .int .i64 x.1.2.2.2.2.2.2.2.2.2.2.2.2.1, .bool x.1.2.2.2.2.2.2.2.2.2.2.2.2.2.1, .string x.1.2.2.2.2.2.2.2.2.2.2.2.2.2.2.1, .string x.1.2.2.2.2.2.2.2.2.2.2.2.2.2.2.2.1, .int .i64 x.1.2.2.2.2.2.2.2.2.2.2.2.2.2.2.2.2.1, .bool x.1.2.2.2.2.2.2.2.2.2.2.2.2.2.2.2.2.2.1, .slice x.1.2.2.2.2.2.2.2.2.2.2.2.2.2.2.2.2.2.2.1.a x.1.2.2.2.2.2.2.2.2.2.2.2.2.2.2.2.2.2.2.1.len x.1.2.2.2.2.2.2.2.2.2.2.2.2.2.2.2.2.2.2.1.cap, .bool x.1.2.2.2.2.2.2.2.2.2.2.2.2.2.2.2.2.2.2.2.1, .bool x.1.2.2.2.2.2.2.2.2.2.2.2.2.2.2.2.2.2.2.2.2.1, .string x.1.2.2.2.2.2.2.2.2.2.2.2.2.2.2.2.2.2.2.2.2.2.1, .string x.1.2.2.2.2.2.2.2.2.2.2.2.2.2.2.2.2.2.2.2.2.2.2.1, .bool x.1.2.2.2.2.2.2.2.2.2.2.2.2.2.2.2.2.2.2.2.2.2.2.2.1, .slice x.1.2.2.2.2.2.2.2.2.2.2.2.2.2.2.2.2.2.2.2.2.2.2.2.2.1.a x.1.2.2.2.2.2.2.2.2.2.2.2.2.2.2.2.2.2.2.2.2.2.2.2.2.1.len x.1.2.2.2.2.2.2.2.2.2.2.2.2.2.2.2.2.2.2.2.2.2.2.2.2.1.cap, .slice x.1.2.2.2.2.2.2.2.2.2.2.2.2.2.2.2.2.2.2.2.2.2.2.2.2.2.1.a x.1.2.2.2.2.2.2.2.2.2.2.2.2.2.2.2.2.2.2.2.2.2.2.2.2.2.1.len x.1.2.2.2.2.2.2.2.2.2.2.2.2.2.2.2.2.2.2.2.2.2.2.2.2.2.1.cap]) h') :
    HCalls Tryz.prog 81 #[.agg #[.string p0.1, .string p0.2.1, .int .i64 p0.2.2.1, .bool p0.2.2.2.1, .string p0.2.2.2.2.1], .int .i64 p1, .bool p2] h Q :=
  calls_of_eq Tryz.func81 (by kernel_rfl) Tryz.ntmps81 (by kernel_rfl) CN orders (outflow_Message_packet_den p0 p1 p2) hh
def packet_Kind_flags (p0 : Int) : HM (Int × Unit) :=
  HM.bind (α := Bool × Unit) (HM.ite (p0 == 6) (
  HM.pure (p0 == 6, ())) (
  HM.bind (α := Bool × Unit) (HM.ite (p0 == 8) (
  HM.pure (p0 == 8, ())) (
  HM.pure (p0 == 10, ()))) fun x2 =>
  HM.pure (x2.1, ()))) fun x1 =>
  HM.ite x1.1 (
  HM.pure (2, ())) (
  HM.pure (0, ()))
theorem packet_Kind_flags_den (p0 : Int) : denFn Tryz.prog [] 8 [0, 2, 3, 4] [0, 3, 4] Tryz.f82.results.toList [.one (.int .i64)] (bodyOf Tryz.f82) [Kind.val (.one (.int .i64)) p0] = packet_Kind_flags p0 := by kernel_rfl
theorem packet_Kind_flags_calls (p0 : Int) (h : Heap) (Q : Value → Heap → Prop) (hh : packet_Kind_flags p0 h fun x h' => Q (.int .i64 x.1) h') :
    HCalls Tryz.prog 82 #[.int .i64 p0] h Q :=
  calls_of_eq Tryz.func82 (by kernel_rfl) Tryz.ntmps82 (by kernel_rfl) CN orders (packet_Kind_flags_den p0) hh
def packet_writer_qos (p0 : Option Addr) (p1 : Int) : HM (Unit) :=
  HM.bind (α := Bool × Unit) (HM.ite (decide (p1 < (0 : Int))) (
  HM.pure (true, ())) (
  HM.pure (decide (2 < (p1 : Int)), ()))) fun x1 =>
  HM.bind (α := Unit) (HM.ite x1.1 (
  HM.bind (α := Unit) (HM.callN Tryz.prog [] 84 #[.pointer p0, .int .u8 129]) fun x3 =>
  HM.pure ()) (
  HM.pure ())) fun x2 =>
  HM.pure ()
theorem packet_writer_qos_den (p0 : Option Addr) (p1 : Int) : denFn Tryz.prog [84] 12 [0, 1, 9] [0, 1, 9] Tryz.f83.results.toList [] (bodyOf Tryz.f83) [Kind.val (.one .ptr) p0, Kind.val (.one (.int .i64)) p1] = packet_writer_qos p0 p1 := by kernel_rfl
theorem packet_writer_qos_calls (p0 : Option Addr) (p1 : Int) (h : Heap) (Q : Value → Heap → Prop) (hh : packet_writer_qos p0 p1 h fun x h' => Q (.tuple #[]) h') :
    HCalls Tryz.prog 83 #[.pointer p0, .int .i64 p1] h Q :=
  calls_of_eq Tryz.func83 (by kernel_rfl) Tryz.ntmps83 (by kernel_rfl) (CC Tryz.call84 CN) orders (packet_writer_qos_den p0 p1) hh
def packet_writer_fail (p0 : Option Addr) (p1 : Int) : HM (Unit) :=
  HM.bind (α := Addr) (HM.nonnil p0) fun x1 =>
  HM.bind (α := Int) (HM.load1 (.int .u8) (Addr.add x1 2)) fun x2 =>
  HM.bind (α := Unit) (HM.ite (x2 == 0) (
  HM.bind (α := Addr) (HM.nonnil p0) fun x4 =>
  HM.bind (α := Unit) (HM.store1 (Addr.add x4 2) (.int .u8 p1)) fun _ =>
  HM.pure ()) (
  HM.pure ())) fun x3 =>
  HM.pure ()
theorem packet_writer_fail_den (p0 : Option Addr) (p1 : Int) : denFn Tryz.prog [] 13 [0, 1, 8] [0, 1, 8] Tryz.f84.results.toList [] (bodyOf Tryz.f84) [Kind.val (.one .ptr) p0, Kind.val (.one (.int .u8)) p1] = packet_writer_fail p0 p1 := by kernel_rfl
theorem packet_writer_fail_calls (p0 : Option Addr) (p1 : Int) (h : Heap) (Q : Value → Heap → Prop) (hh : packet_writer_fail p0 p1 h fun x h' => Q (.tuple #[]) h') :
    HCalls Tryz.prog 84 #[.pointer p0, .int .u8 p1] h Q :=
  calls_of_eq Tryz.func84 (by kernel_rfl) Tryz.ntmps84 (by kernel_rfl) CN orders (packet_writer_fail_den p0 p1) hh
def packet_bit (p0 : Bool) (p1 : Int) : HM (Int × Unit) :=
  HM.ite p0 (
  HM.pure (p1, ())) (
  HM.pure (0, ()))
theorem packet_bit_den (p0 : Bool) (p1 : Int) : denFn Tryz.prog [] 7 [0, 1, 4, 5] [0, 1, 5] Tryz.f85.results.toList [.one (.int .i64)] (bodyOf Tryz.f85) [Kind.val (.one .bool) p0, Kind.val (.one (.int .i64)) p1] = packet_bit p0 p1 := by kernel_rfl
theorem packet_bit_calls (p0 : Bool) (p1 : Int) (h : Heap) (Q : Value → Heap → Prop) (hh : packet_bit p0 p1 h fun x h' => Q (.int .i64 x.1) h') :
    HCalls Tryz.prog 85 #[.bool p0, .int .i64 p1] h Q :=
  calls_of_eq Tryz.func85 (by kernel_rfl) Tryz.ntmps85 (by kernel_rfl) CN orders (packet_bit_den p0 p1) hh
def packet_writer_body (p0 : Option Addr) (p1 : Int × Bool × Bool × Int × Int × ByteArray × ByteArray × Int × Slc × Slc × ByteArray × Bool × Int × Bool × ByteArray × ByteArray × Int × Bool × Slc × Bool × Bool × ByteArray × ByteArray × Bool × Slc × Slc × Unit) : HM (Unit) :=
  HM.bind (α := Nat) (HM.new (.cells #[.int .i64 p1.1, .bool p1.2.1, .bool p1.2.2.1, .int .i64 p1.2.2.2.1, .int .i64 p1.2.2.2.2.1, .string p1.2.2.2.2.2.1, .string p1.2.2.2.2.2.2.1, .int .u8 p1.2.2.2.2.2.2.2.1, .slice p1.2.2.2.2.2.2.2.2.1.a p1.2.2.2.2.2.2.2.2.1.len p1.2.2.2.2.2.2.2.2.1.cap, .slice p1.2.2.2.2.2.2.2.2.2.1.a p1.2.2.2.2.2.2.2.2.2.1.len p1.2.2.2.2.2.2.2.2.2.1.cap, .string p1.2.2.2.2.2.2.2.2.2.2.1, .bool p1.2.2.2.2.2.2.2.2.2.2.2.1, .int .i64 p1.2.2.2.2.2.2.2.2.2.2.2.2.1, .bool p1.2.2.2.2.2.2.2.2.2.2.2.2.2.1, .string p1.2.2.2.2.2.2.2.2.2.2.2.2.2.2.1, .string p1.2.2.2.2.2.2.2.2.2.2.2.2.2.2.2.1, .int .i64 p1.2.2.2.2.2.2.2.2.2.2.2.2.2.2.2.2.1, .bool p1.2.2.2.2.2.2.2.2.2.2.2.2.2.2.2.2.2.1, .slice p1.2.2.2.2.2.2.2.2.2.2.2.2.2.2.2.2.2.2.1.a p1.2.2.2.2.2.2.2.2.2.2.2.2.2.2.2.2.2.2.1.len p1.2.2.2.2.2.2.2.2.2.2.2.2.2.2.2.2.2.2.1.cap, .bool p1.2.2.2.2.2.2.2.2.2.2.2.2.2.2.2.2.2.2.2.1, .bool p1.2.2.2.2.2.2.2.2.2.2.2.2.2.2.2.2.2.2.2.2.1, .string p1.2.2.2.2.2.2.2.2.2.2.2.2.2.2.2.2.2.2.2.2.2.1, .string p1.2.2.2.2.2.2.2.2.2.2.2.2.2.2.2.2.2.2.2.2.2.2.1, .bool p1.2.2.2.2.2.2.2.2.2.2.2.2.2.2.2.2.2.2.2.2.2.2.2.1, .slice p1.2.2.2.2.2.2.2.2.2.2.2.2.2.2.2.2.2.2.2.2.2.2.2.2.1.a p1.2.2.2.2.2.2.2.2.2.2.2.2.2.2.2.2.2.2.2.2.2.2.2.2.1.len p1.2.2.2.2.2.2.2.2.2.2.2.2.2.2.2.2.2.2.2.2.2.2.2.2.1.cap, .slice p1.2.2.2.2.2.2.2.2.2.2.2.2.2.2.2.2.2.2.2.2.2.2.2.2.2.1.a p1.2.2.2.2.2.2.2.2.2.2.2.2.2.2.2.2.2.2.2.2.2.2.2.2.2.1.len p1.2.2.2.2.2.2.2.2.2.2.2.2.2.2.2.2.2.2.2.2.2.2.2.2.2.1.cap] 34)) fun x1 =>
  HM.bind (α := Int) (HM.load1 (.int .i64) (Addr.add ⟨x1, 0, none⟩ 0)) fun x2 =>
  HM.bind (α := Unit) (HM.bind (α := (Unit) ⊕ Unit) (HM.bind (α := (Unit) ⊕ ((Unit) ⊕ Unit)) (HM.bind (α := (Unit) ⊕ ((Unit) ⊕ ((Unit) ⊕ Unit))) (HM.bind (α := (Unit) ⊕ ((Unit) ⊕ ((Unit) ⊕ ((Unit) ⊕ Unit)))) (HM.bind (α := (Unit) ⊕ ((Unit) ⊕ ((Unit) ⊕ ((Unit) ⊕ ((Unit) ⊕ Unit))))) (HM.bind (α := (Unit) ⊕ ((Unit) ⊕ ((Unit) ⊕ ((Unit) ⊕ ((Unit) ⊕ ((Unit) ⊕ Unit)))))) (HM.ite (x2 == 1) (
  HM.pure (.inl ())) (
  HM.ite (x2 == 2) (
  HM.pure (.inr (.inl ()))) (
  HM.ite (x2 == 3) (
  HM.pure (.inr (.inr (.inl ())))) (
  HM.bind (α := Bool × Unit) (HM.ite (x2 == 4) (
  HM.pure (x2 == 4, ())) (
  HM.bind (α := Bool × Unit) (HM.ite (x2 == 5) (
  HM.pure (x2 == 5, ())) (
  HM.bind (α := Bool × Unit) (HM.ite (x2 == 6) (
  HM.pure (x2 == 6, ())) (
  HM.pure (x2 == 7, ()))) fun x12 =>
  HM.pure (x12.1, ()))) fun x11 =>
  HM.pure (x11.1, ()))) fun x10 =>
  HM.ite x10.1 (
  HM.pure (.inr (.inr (.inr (.inl ()))))) (
  HM.bind (α := Bool × Unit) (HM.ite (x2 == 14) (
  HM.pure (x2 == 14, ())) (
  HM.pure (x2 == 15, ()))) fun x13 =>
  HM.ite x13.1 (
  HM.pure (.inr (.inr (.inr (.inr (.inl ())))))) (
  HM.bind (α := Bool × Unit) (HM.ite (x2 == 8) (
  HM.pure (x2 == 8, ())) (
  HM.bind (α := Bool × Unit) (HM.ite (x2 == 9) (
  HM.pure (x2 == 9, ())) (
  HM.bind (α := Bool × Unit) (HM.ite (x2 == 10) (
  HM.pure (x2 == 10, ())) (
  HM.pure (x2 == 11, ()))) fun x16 =>
  HM.pure (x16.1, ()))) fun x15 =>
  HM.pure (x15.1, ()))) fun x14 =>
  HM.ite x14.1 (
  HM.pure (.inr (.inr (.inr (.inr (.inr (.inl ()))))))) (
  HM.pure (.inr (.inr (.inr (.inr (.inr (.inr ()))))))))))))) (Sum.elim (fun x9 =>
  HM.bind (α := Int × Bool × Bool × Int × Int × ByteArray × ByteArray × Int × Slc × Slc × ByteArray × Bool × Int × Bool × ByteArray × ByteArray × Int × Bool × Slc × Bool × Bool × ByteArray × ByteArray × Bool × Slc × Slc × Unit) (HM.loadN [.int .i64, .bool, .bool, .int .i64, .int .i64, .str, .str, .int .u8, .slc, .slc, .str, .bool, .int .i64, .bool, .str, .str, .int .i64, .bool, .slc, .bool, .bool, .str, .str, .bool, .slc, .slc] ⟨x1, 0, none⟩) fun x17 =>
  HM.bind (α := Unit) (HM.callN Tryz.prog [] 120 #[.pointer p0, .agg #[.int .i64 x17.1, .bool x17.2.1, .bool x17.2.2.1, .int .i64 x17.2.2.2.1, .int .i64 x17.2.2.2.2.1, .string x17.2.2.2.2.2.1, .string x17.2.2.2.2.2.2.1, .int .u8 x17.2.2.2.2.2.2.2.1, .slice x17.2.2.2.2.2.2.2.2.1.a x17.2.2.2.2.2.2.2.2.1.len x17.2.2.2.2.2.2.2.2.1.cap, .slice x17.2.2.2.2.2.2.2.2.2.1.a x17.2.2.2.2.2.2.2.2.2.1.len x17.2.2.2.2.2.2.2.2.2.1.cap, .string x17.2.2.2.2.2.2.2.2.2.2.1, .bool x17.2.2.2.2.2.2.2.2.2.2.2.1, .int .i64 x17.2.2.2.2.2.2.2.2.2.2.2.2.1, .bool x17.2.2.2.2.2.2.2.2.2.2.2.2.2.1, .string x17.2.2.2.2.2.2.2.2.2.2.2.2.2.2.1, .string x17.2.2.2.2.2.2.2.2.2.2.2.2.2.2.2.1, .int .i64 x17.2.2.2.2.2.2.2.2.2.2.2.2.2.2.2.2.1, .bool x17.2.2.2.2.2.2.2.2.2.2.2.2.2.2.2.2.2.1, .slice x17.2.2.2.2.2.2.2.2.2.2.2.2.2.2.2.2.2.2.1.a x17.2.2.2.2.2.2.2.2.2.2.2.2.2.2.2.2.2.2.1.len x17.2.2.2.2.2.2.2.2.2.2.2.2.2.2.2.2.2.2.1.cap, .bool x17.2.2.2.2.2.2.2.2.2.2.2.2.2.2.2.2.2.2.2.1, .bool x17.2.2.2.2.2.2.2.2.2.2.2.2.2.2.2.2.2.2.2.2.1, .string x17.2.2.2.2.2.2.2.2.2.2.2.2.2.2.2.2.2.2.2.2.2.1, .string x17.2.2.2.2.2.2.2.2.2.2.2.2.2.2.2.2.2.2.2.2.2.2.1, .bool x17.2.2.2.2.2.2.2.2.2.2.2.2.2.2.2.2.2.2.2.2.2.2.2.1, .slice x17.2.2.2.2.2.2.2.2.2.2.2.2.2.2.2.2.2.2.2.2.2.2.2.2.1.a x17.2.2.2.2.2.2.2.2.2.2.2.2.2.2.2.2.2.2.2.2.2.2.2.2.1.len x17.2.2.2.2.2.2.2.2.2.2.2.2.2.2.2.2.2.2.2.2.2.2.2.2.1.cap, .slice x17.2.2.2.2.2.2.2.2.2.2.2.2.2.2.2.2.2.2.2.2.2.2.2.2.2.1.a x17.2.2.2.2.2.2.2.2.2.2.2.2.2.2.2.2.2.2.2.2.2.2.2.2.2.1.len x17.2.2.2.2.2.2.2.2.2.2.2.2.2.2.2.2.2.2.2.2.2.2.2.2.2.1.cap]]) fun x18 =>
  HM.pure (.inr (.inr (.inr (.inr (.inr ())))))) HM.pure)) (Sum.elim (fun x8 =>
  HM.bind (α := Bool) (HM.load1 .bool (Addr.add ⟨x1, 0, none⟩ 23)) fun x19 =>
  HM.bind (α := Int) (HM.call1 Tryz.prog (.one (.int .i64)) 85 #[.bool x19, .int .i64 1]) fun x20 =>
  HM.bind (α := Unit) (HM.callN Tryz.prog [] 121 #[.pointer p0, .int .i64 x20]) fun x21 =>
  HM.bind (α := Int) (HM.load1 (.int .u8) (Addr.add ⟨x1, 0, none⟩ 7)) fun x22 =>
  HM.bind (α := Unit) (HM.callN Tryz.prog [] 121 #[.pointer p0, .int .i64 (IntKind.wrap .i64 x22)]) fun x23 =>
  HM.bind (α := Slc) (HM.load1 .slc (Addr.add ⟨x1, 0, none⟩ 9)) fun x24 =>
  HM.bind (α := Unit) (HM.callN Tryz.prog [] 122 #[.pointer p0, .int .i64 2, .slice x24.a x24.len x24.cap]) fun x25 =>
  HM.pure (.inr (.inr (.inr (.inr ()))))) HM.pure)) (Sum.elim (fun x7 =>
  HM.bind (α := Int × Bool × Bool × Int × Int × ByteArray × ByteArray × Int × Slc × Slc × ByteArray × Bool × Int × Bool × ByteArray × ByteArray × Int × Bool × Slc × Bool × Bool × ByteArray × ByteArray × Bool × Slc × Slc × Unit) (HM.loadN [.int .i64, .bool, .bool, .int .i64, .int .i64, .str, .str, .int .u8, .slc, .slc, .str, .bool, .int .i64, .bool, .str, .str, .int .i64, .bool, .slc, .bool, .bool, .str, .str, .bool, .slc, .slc] ⟨x1, 0, none⟩) fun x26 =>
  HM.bind (α := Unit) (HM.callN Tryz.prog [] 123 #[.pointer p0, .agg #[.int .i64 x26.1, .bool x26.2.1, .bool x26.2.2.1, .int .i64 x26.2.2.2.1, .int .i64 x26.2.2.2.2.1, .string x26.2.2.2.2.2.1, .string x26.2.2.2.2.2.2.1, .int .u8 x26.2.2.2.2.2.2.2.1, .slice x26.2.2.2.2.2.2.2.2.1.a x26.2.2.2.2.2.2.2.2.1.len x26.2.2.2.2.2.2.2.2.1.cap, .slice x26.2.2.2.2.2.2.2.2.2.1.a x26.2.2.2.2.2.2.2.2.2.1.len x26.2.2.2.2.2.2.2.2.2.1.cap, .string x26.2.2.2.2.2.2.2.2.2.2.1, .bool x26.2.2.2.2.2.2.2.2.2.2.2.1, .int .i64 x26.2.2.2.2.2.2.2.2.2.2.2.2.1, .bool x26.2.2.2.2.2.2.2.2.2.2.2.2.2.1, .string x26.2.2.2.2.2.2.2.2.2.2.2.2.2.2.1, .string x26.2.2.2.2.2.2.2.2.2.2.2.2.2.2.2.1, .int .i64 x26.2.2.2.2.2.2.2.2.2.2.2.2.2.2.2.2.1, .bool x26.2.2.2.2.2.2.2.2.2.2.2.2.2.2.2.2.2.1, .slice x26.2.2.2.2.2.2.2.2.2.2.2.2.2.2.2.2.2.2.1.a x26.2.2.2.2.2.2.2.2.2.2.2.2.2.2.2.2.2.2.1.len x26.2.2.2.2.2.2.2.2.2.2.2.2.2.2.2.2.2.2.1.cap, .bool x26.2.2.2.2.2.2.2.2.2.2.2.2.2.2.2.2.2.2.2.1, .bool x26.2.2.2.2.2.2.2.2.2.2.2.2.2.2.2.2.2.2.2.2.1, .string x26.2.2.2.2.2.2.2.2.2.2.2.2.2.2.2.2.2.2.2.2.2.1, .string x26.2.2.2.2.2.2.2.2.2.2.2.2.2.2.2.2.2.2.2.2.2.2.1, .bool x26.2.2.2.2.2.2.2.2.2.2.2.2.2.2.2.2.2.2.2.2.2.2.2.1, .slice x26.2.2.2.2.2.2.2.2.2.2.2.2.2.2.2.2.2.2.2.2.2.2.2.2.1.a x26.2.2.2.2.2.2.2.2.2.2.2.2.2.2.2.2.2.2.2.2.2.2.2.2.1.len x26.2.2.2.2.2.2.2.2.2.2.2.2.2.2.2.2.2.2.2.2.2.2.2.2.1.cap, .slice x26.2.2.2.2.2.2.2.2.2.2.2.2.2.2.2.2.2.2.2.2.2.2.2.2.2.1.a x26.2.2.2.2.2.2.2.2.2.2.2.2.2.2.2.2.2.2.2.2.2.2.2.2.2.1.len x26.2.2.2.2.2.2.2.2.2.2.2.2.2.2.2.2.2.2.2.2.2.2.2.2.2.1.cap]]) fun x27 =>
  HM.pure (.inr (.inr (.inr ())))) HM.pure)) (Sum.elim (fun x6 =>
  HM.bind (α := Int) (HM.load1 (.int .i64) (Addr.add ⟨x1, 0, none⟩ 4)) fun x28 =>
  HM.bind (α := Unit) (HM.callN Tryz.prog [] 124 #[.pointer p0, .int .i64 x28]) fun x29 =>
  HM.pure (.inl ())) HM.pure)) (Sum.elim (fun x5 =>
  HM.bind (α := Int × Bool × Bool × Int × Int × ByteArray × ByteArray × Int × Slc × Slc × ByteArray × Bool × Int × Bool × ByteArray × ByteArray × Int × Bool × Slc × Bool × Bool × ByteArray × ByteArray × Bool × Slc × Slc × Unit) (HM.loadN [.int .i64, .bool, .bool, .int .i64, .int .i64, .str, .str, .int .u8, .slc, .slc, .str, .bool, .int .i64, .bool, .str, .str, .int .i64, .bool, .slc, .bool, .bool, .str, .str, .bool, .slc, .slc] ⟨x1, 0, none⟩) fun x30 =>
  HM.bind (α := Unit) (HM.callN Tryz.prog [] 125 #[.pointer p0, .agg #[.int .i64 x30.1, .bool x30.2.1, .bool x30.2.2.1, .int .i64 x30.2.2.2.1, .int .i64 x30.2.2.2.2.1, .string x30.2.2.2.2.2.1, .string x30.2.2.2.2.2.2.1, .int .u8 x30.2.2.2.2.2.2.2.1, .slice x30.2.2.2.2.2.2.2.2.1.a x30.2.2.2.2.2.2.2.2.1.len x30.2.2.2.2.2.2.2.2.1.cap, .slice x30.2.2.2.2.2.2.2.2.2.1.a x30.2.2.2.2.2.2.2.2.2.1.len x30.2.2.2.2.2.2.2.2.2.1.cap, .string x30.2.2.2.2.2.2.2.2.2.2.1, .bool x30.2.2.2.2.2.2.2.2.2.2.2.1, .int .i64 x30.2.2.2.2.2.2.2.2.2.2.2.2.1, .bool x30.2.2.2.2.2.2.2.2.2.2.2.2.2.1, .string x30.2.2.2.2.2.2.2.2.2.2.2.2.2.2.1, .string x30.2.2.2.2.2.2.2.2.2.2.2.2.2.2.2.1, .int .i64 x30.2.2.2.2.2.2.2.2.2.2.2.2.2.2.2.2.1, .bool x30.2.2.2.2.2.2.2.2.2.2.2.2.2.2.2.2.2.1, .slice x30.2.2.2.2.2.2.2.2.2.2.2.2.2.2.2.2.2.2.1.a x30.2.2.2.2.2.2.2.2.2.2.2.2.2.2.2.2.2.2.1.len x30.2.2.2.2.2.2.2.2.2.2.2.2.2.2.2.2.2.2.1.cap, .bool x30.2.2.2.2.2.2.2.2.2.2.2.2.2.2.2.2.2.2.2.1, .bool x30.2.2.2.2.2.2.2.2.2.2.2.2.2.2.2.2.2.2.2.2.1, .string x30.2.2.2.2.2.2.2.2.2.2.2.2.2.2.2.2.2.2.2.2.2.1, .string x30.2.2.2.2.2.2.2.2.2.2.2.2.2.2.2.2.2.2.2.2.2.2.1, .bool x30.2.2.2.2.2.2.2.2.2.2.2.2.2.2.2.2.2.2.2.2.2.2.2.1, .slice x30.2.2.2.2.2.2.2.2.2.2.2.2.2.2.2.2.2.2.2.2.2.2.2.2.1.a x30.2.2.2.2.2.2.2.2.2.2.2.2.2.2.2.2.2.2.2.2.2.2.2.2.1.len x30.2.2.2.2.2.2.2.2.2.2.2.2.2.2.2.2.2.2.2.2.2.2.2.2.1.cap, .slice x30.2.2.2.2.2.2.2.2.2.2.2.2.2.2.2.2.2.2.2.2.2.2.2.2.2.1.a x30.2.2.2.2.2.2.2.2.2.2.2.2.2.2.2.2.2.2.2.2.2.2.2.2.2.1.len x30.2.2.2.2.2.2.2.2.2.2.2.2.2.2.2.2.2.2.2.2.2.2.2.2.2.1.cap]]) fun x31 =>
  HM.pure (.inr ())) HM.pure)) (Sum.elim (fun x4 =>
  HM.bind (α := Int × Bool × Bool × Int × Int × ByteArray × ByteArray × Int × Slc × Slc × ByteArray × Bool × Int × Bool × ByteArray × ByteArray × Int × Bool × Slc × Bool × Bool × ByteArray × ByteArray × Bool × Slc × Slc × Unit) (HM.loadN [.int .i64, .bool, .bool, .int .i64, .int .i64, .str, .str, .int .u8, .slc, .slc, .str, .bool, .int .i64, .bool, .str, .str, .int .i64, .bool, .slc, .bool, .bool, .str, .str, .bool, .slc, .slc] ⟨x1, 0, none⟩) fun x32 =>
  HM.bind (α := Unit) (HM.callN Tryz.prog [] 126 #[.pointer p0, .agg #[.int .i64 x32.1, .bool x32.2.1, .bool x32.2.2.1, .int .i64 x32.2.2.2.1, .int .i64 x32.2.2.2.2.1, .string x32.2.2.2.2.2.1, .string x32.2.2.2.2.2.2.1, .int .u8 x32.2.2.2.2.2.2.2.1, .slice x32.2.2.2.2.2.2.2.2.1.a x32.2.2.2.2.2.2.2.2.1.len x32.2.2.2.2.2.2.2.2.1.cap, .slice x32.2.2.2.2.2.2.2.2.2.1.a x32.2.2.2.2.2.2.2.2.2.1.len x32.2.2.2.2.2.2.2.2.2.1.cap, .string x32.2.2.2.2.2.2.2.2.2.2.1, .bool x32.2.2.2.2.2.2.2.2.2.2.2.1, .int .i64 x32.2.2.2.2.2.2.2.2.2.2.2.2.1, .bool x32.2.2.2.2.2.2.2.2.2.2.2.2.2.1, .string x32.2.2.2.2.2.2.2.2.2.2.2.2.2.2.1, .string x32.2.2.2.2.2.2.2.2.2.2.2.2.2.2.2.1, .int .i64 x32.2.2.2.2.2.2.2.2.2.2.2.2.2.2.2.2.1, .bool x32.2.2.2.2.2.2.2.2.2.2.2.2.2.2.2.2.2.1, .slice x32.2.2.2.2.2.2.2.2.2.2.2.2.2.2.2.2.2.2.1.a x32.2.2.2.2.2.2.2.2.2.2.2.2.2.2.2.2.2.2.1.len x32.2.2.2.2.2.2.2.2.2.2.2.2.2.2.2.2.2.2.1.cap, .bool x32.2.2.2.2.2.2.2.2.2.2.2.2.2.2.2.2.2.2.2.1, .bool x32.2.2.2.2.2.2.2.2.2.2.2.2.2.2.2.2.2.2.2.2.1, .string x32.2.2.2.2.2.2.2.2.2.2.2.2.2.2.2.2.2.2.2.2.2.1, .string x32.2.2.2.2.2.2.2.2.2.2.2.2.2.2.2.2.2.2.2.2.2.2.1, .bool x32.2.2.2.2.2.2.2.2.2.2.2.2.2.2.2.2.2.2.2.2.2.2.2.1, .slice x32.2.2.2.2.2.2.2.2.2.2.2.2.2.2.2.2.2.2.2.2.2.2.2.2.1.a x32.2.2.2.2.2.2.2.2.2.2.2.2.2.2.2.2.2.2.2.2.2.2.2.2.1.len x32.2.2.2.2.2.2.2.2.2.2.2.2.2.2.2.2.2.2.2.2.2.2.2.2.1.cap, .slice x32.2.2.2.2.2.2.2.2.2.2.2.2.2.2.2.2.2.2.2.2.2.2.2.2.2.1.a x32.2.2.2.2.2.2.2.2.2.2.2.2.2.2.2.2.2.2.2.2.2.2.2.2.2.1.len x32.2.2.2.2.2.2.2.2.2.2.2.2.2.2.2.2.2.2.2.2.2.2.2.2.2.1.cap]]) fun x33 =>
  HM.pure ()) HM.pure)) fun x3 =>
  HM.pure ()
theorem packet_writer_body_den (p0 : Option Addr) (p1 : Int × Bool × Bool × Int × Int × ByteArray × ByteArray × Int × Slc × Slc × ByteArray × Bool × Int × Bool × ByteArray × ByteArray × Int × Bool × Slc × Bool × Bool × ByteArray × ByteArray × Bool × Slc × Slc × Unit) : denFn Tryz.prog [120, 85, 121, 122, 123, 124, 125, 126] 55 [0, 1, 3, 5, 6, 8, 10, 12, 17, 20] [0, 1, 3, 5, 6, 8, 10, 12, 17, 20] Tryz.f86.results.toList [] (bodyOf Tryz.f86) [Kind.val (.one .ptr) p0, Kind.val (.agg [.int .i64, .bool, .bool, .int .i64, .int .i64, .str, .str, .int .u8, .slc, .slc, .str, .bool, .int .i64, .bool, .str, .str, .int .i64, .bool, .slc, .bool, .bool, .str, .str, .bool, .slc, .slc]) p1] = packet_writer_body p0 p1 := by kernel_rfl
theorem packet_writer_body_calls (p0 : Option Addr) (p1 : Int × Bool × Bool × Int × Int × ByteArray × ByteArray × Int × Slc × Slc × ByteArray × Bool × Int × Bool × ByteArray × ByteArray × Int × Bool × Slc × Bool × Bool × ByteArray × ByteArray × Bool × Slc × Slc × Unit) (h : Heap) (Q : Value → Heap → Prop) (hh : packet_writer_body p0 p1 h fun x h' => Q (.tuple #[]) h') :
    HCalls Tryz.prog 86 #[.pointer p0, .agg #[.int .i64 p1.1, .bool p1.2.1, .bool p1.2.2.1, .int .i64 p1.2.2.2.1, .int .i64 p1.2.2.2.2.1, .string p1.2.2.2.2.2.1, .string p1.2.2.2.2.2.2.1, .int .u8 p1.2.2.2.2.2.2.2.1, .slice p1.2.2.2.2.2.2.2.2.1.a p1.2.2.2.2.2.2.2.2.1.len p1.2.2.2.2.2.2.2.2.1.cap, .slice p1.2.2.2.2.2.2.2.2.2.1.a p1.2.2.2.2.2.2.2.2.2.1.len p1.2.2.2.2.2.2.2.2.2.1.cap, .string p1.2.2.2.2.2.2.2.2.2.2.1, .bool p1.2.2.2.2.2.2.2.2.2.2.2.1, .int .i64 p1.2.2.2.2.2.2.2.2.2.2.2.2.1, .bool p1.2.2.2.2.2.2.2.2.2.2.2.2.2.1, .string p1.2.2.2.2.2.2.2.2.2.2.2.2.2.2.1, .string p1.2.2.2.2.2.2.2.2.2.2.2.2.2.2.2.1, .int .i64 p1.2.2.2.2.2.2.2.2.2.2.2.2.2.2.2.2.1, .bool p1.2.2.2.2.2.2.2.2.2.2.2.2.2.2.2.2.2.1, .slice p1.2.2.2.2.2.2.2.2.2.2.2.2.2.2.2.2.2.2.1.a p1.2.2.2.2.2.2.2.2.2.2.2.2.2.2.2.2.2.2.1.len p1.2.2.2.2.2.2.2.2.2.2.2.2.2.2.2.2.2.2.1.cap, .bool p1.2.2.2.2.2.2.2.2.2.2.2.2.2.2.2.2.2.2.2.1, .bool p1.2.2.2.2.2.2.2.2.2.2.2.2.2.2.2.2.2.2.2.2.1, .string p1.2.2.2.2.2.2.2.2.2.2.2.2.2.2.2.2.2.2.2.2.2.1, .string p1.2.2.2.2.2.2.2.2.2.2.2.2.2.2.2.2.2.2.2.2.2.2.1, .bool p1.2.2.2.2.2.2.2.2.2.2.2.2.2.2.2.2.2.2.2.2.2.2.2.1, .slice p1.2.2.2.2.2.2.2.2.2.2.2.2.2.2.2.2.2.2.2.2.2.2.2.2.1.a p1.2.2.2.2.2.2.2.2.2.2.2.2.2.2.2.2.2.2.2.2.2.2.2.2.1.len p1.2.2.2.2.2.2.2.2.2.2.2.2.2.2.2.2.2.2.2.2.2.2.2.2.1.cap, .slice p1.2.2.2.2.2.2.2.2.2.2.2.2.2.2.2.2.2.2.2.2.2.2.2.2.2.1.a p1.2.2.2.2.2.2.2.2.2.2.2.2.2.2.2.2.2.2.2.2.2.2.2.2.2.1.len p1.2.2.2.2.2.2.2.2.2.2.2.2.2.2.2.2.2.2.2.2.2.2.2.2.2.1.cap]] h Q :=
  calls_of_eq Tryz.func86 (by kernel_rfl) Tryz.ntmps86 (by kernel_rfl) (CC Tryz.call120 (CC Tryz.call85 (CC Tryz.call121 (CC Tryz.call122 (CC Tryz.call123 (CC Tryz.call124 (CC Tryz.call125 (CC Tryz.call126 CN)))))))) orders (packet_writer_body_den p0 p1) hh
def varint_Fixed (p0 : Int) (p1 : Int) : HM (ByteArray × Int × Unit) :=
  HM.bind (α := Bool) (HM.call1 Tryz.prog (.one .bool) 127 #[.int .i64 p0]) fun x1 =>
  HM.ite (!x1) (
  HM.pure (ByteArray.mk #[], 128, ())) (
  HM.bind (α := Bool × Unit) (HM.ite (decide (p1 < (0 : Int))) (
  HM.pure (true, ())) (
  HM.req ((0 : Int) ≤ (IntKind.wrap .i64 (8 * p0))) <|
  HM.pure (decide ((IntKind.wrap .i64 (1 * 2 ^ (min (Int.toNat (IntKind.wrap .i64 (8 * p0))) (IntKind.bits .i64)))) ≤ (p1 : Int)), ()))) fun x2 =>
  HM.ite x2.1 (
  HM.pure (ByteArray.mk #[], 129, ())) (
  HM.bind (α := Slc × Int × Unit) (HM.loop (σ := Slc × Int × Unit) (τ := Slc × Int × Unit) (fun x4 =>
  HM.ite (decide (0 ≤ (x4.2.1 : Int))) (
  HM.req ((0 : Int) ≤ (IntKind.wrap .i64 (8 * x4.2.1))) <|
  HM.bind (α := Nat) (HM.new (.cells #[.int .u8 (IntKind.wrap .u8 (Int.fdiv p1 (2 ^ (min (Int.toNat (IntKind.wrap .i64 (8 * x4.2.1))) (IntKind.bits .i64)))))] 5)) fun x5 =>
  HM.bind (α := Slc) (HM.append 5 1 1 #[.int .u8 0] x4.1 1 (srcSlc 1 (⟨some ⟨x5, 0, none⟩, 1, 1⟩))) fun x6 =>
  HM.pure (.inl (x6, IntKind.wrap .i64 (x4.2.1 - 1), ()))) (
  HM.pure (.inr (x4.1, x4.2.1, ())))) (⟨none, 0, 0⟩, IntKind.wrap .i64 (p0 - 1), ())) fun x3 =>
  HM.bind (α := ByteArray) (HM.strOf x3.1) fun x7 =>
  HM.pure (x7, 0, ())))
theorem varint_Fixed_den (p0 : Int) (p1 : Int) : denFn Tryz.prog [127] 38 [0, 1, 4, 5, 6, 7, 8, 12, 25] [0, 1, 6, 7, 8, 12, 25] Tryz.f88.results.toList [.one .str, .one (.int .u8)] (bodyOf Tryz.f88) [Kind.val (.one (.int .i64)) p0, Kind.val (.one (.int .i64)) p1] = varint_Fixed p0 p1 := by kernel_rfl
theorem varint_Fixed_calls (p0 : Int) (p1 : Int) (h : Heap) (Q : Value → Heap → Prop) (hh : varint_Fixed p0 p1 h fun x h' => Q (.tuple #[.string x.1, .int .u8 x.2.1]) h') :
    HCalls Tryz.prog 88 #[.int .i64 p0, .int .i64 p1] h Q :=
  calls_of_eq Tryz.func88 (by kernel_rfl) Tryz.ntmps88 (by kernel_rfl) (CC Tryz.call127 CN) orders (varint_Fixed_den p0 p1) hh
def varint_Put (p0 : Int) : HM (ByteArray × Int × Unit) :=
  HM.bind (α := Int) (HM.call1 Tryz.prog (.one (.int .i64)) 128 #[.int .i64 p0]) fun x1 =>
  HM.ite (x1 == 0) (
  HM.pure (ByteArray.mk #[], 129, ())) (
  HM.bind (α := Slc × Int × Unit) (HM.loop (σ := Slc × Int × Unit) (τ := Slc × Int × Unit) (fun x3 =>
  HM.ite (decide (x3.2.1 < (x1 : Int))) (
  HM.req ((0 : Int) ≤ (IntKind.wrap .i64 (7 * x3.2.1))) <|
  HM.bind (α := Int × Unit) (HM.ite (decide (x3.2.1 < ((IntKind.wrap .i64 (x1 - 1)) : Int))) (
  HM.pure (bitOp .or .u8 (IntKind.wrap .u8 (bitOp .and .i64 (Int.fdiv p0 (2 ^ (min (Int.toNat (IntKind.wrap .i64 (7 * x3.2.1))) (IntKind.bits .i64)))) 127)) 128, ())) (
  HM.pure (IntKind.wrap .u8 (bitOp .and .i64 (Int.fdiv p0 (2 ^ (min (Int.toNat (IntKind.wrap .i64 (7 * x3.2.1))) (IntKind.bits .i64)))) 127), ()))) fun x4 =>
  HM.bind (α := Nat) (HM.new (.cells #[.int .u8 x4.1] 5)) fun x5 =>
  HM.bind (α := Slc) (HM.append 5 1 1 #[.int .u8 0] x3.1 1 (srcSlc 1 (⟨some ⟨x5, 0, none⟩, 1, 1⟩))) fun x6 =>
  HM.pure (.inl (x6, IntKind.wrap .i64 (x3.2.1 + 1), ()))) (
  HM.pure (.inr (x3.1, x3.2.1, ())))) (⟨none, 0, 0⟩, 0, ())) fun x2 =>
  HM.bind (α := ByteArray) (HM.strOf x2.1) fun x7 =>
  HM.pure (x7, 0, ()))
theorem varint_Put_den (p0 : Int) : denFn Tryz.prog [128] 35 [0, 2, 3, 4, 5, 6, 7, 11, 12, 13, 14, 25] [0, 4, 5, 6, 7, 11, 12, 13, 14, 25] Tryz.f89.results.toList [.one .str, .one (.int .u8)] (bodyOf Tryz.f89) [Kind.val (.one (.int .i64)) p0] = varint_Put p0 := by kernel_rfl
theorem varint_Put_calls (p0 : Int) (h : Heap) (Q : Value → Heap → Prop) (hh : varint_Put p0 h fun x h' => Q (.tuple #[.string x.1, .int .u8 x.2.1]) h') :
    HCalls Tryz.prog 89 #[.int .i64 p0] h Q :=
  calls_of_eq Tryz.func89 (by kernel_rfl) Tryz.ntmps89 (by kernel_rfl) (CC Tryz.call128 CN) orders (varint_Put_den p0) hh
def ref05_body (p0 : ByteArray × Int × Unit) (p1 : Int × Bool × Bool × Int × Int × ByteArray × ByteArray × Int × Slc × Slc × ByteArray × Bool × Int × Bool × ByteArray × ByteArray × Int × Bool × Slc × Bool × Bool × ByteArray × ByteArray × Bool × Slc × Slc × Unit) : HM ((ByteArray × Int × Unit) × Unit) :=
  HM.bind (α := Nat) (HM.new (.cells #[.string p0.1, .int .i64 p0.2.1] 209)) fun x1 =>
  HM.bind (α := Nat) (HM.new (.cells #[.int .i64 p1.1, .bool p1.2.1, .bool p1.2.2.1, .int .i64 p1.2.2.2.1, .int .i64 p1.2.2.2.2.1, .string p1.2.2.2.2.2.1, .string p1.2.2.2.2.2.2.1, .int .i64 p1.2.2.2.2.2.2.2.1, .slice p1.2.2.2.2.2.2.2.2.1.a p1.2.2.2.2.2.2.2.2.1.len p1.2.2.2.2.2.2.2.2.1.cap, .slice p1.2.2.2.2.2.2.2.2.2.1.a p1.2.2.2.2.2.2.2.2.2.1.len p1.2.2.2.2.2.2.2.2.2.1.cap, .string p1.2.2.2.2.2.2.2.2.2.2.1, .bool p1.2.2.2.2.2.2.2.2.2.2.2.1, .int .i64 p1.2.2.2.2.2.2.2.2.2.2.2.2.1, .bool p1.2.2.2.2.2.2.2.2.2.2.2.2.2.1, .string p1.2.2.2.2.2.2.2.2.2.2.2.2.2.2.1, .string p1.2.2.2.2.2.2.2.2.2.2.2.2.2.2.2.1, .int .i64 p1.2.2.2.2.2.2.2.2.2.2.2.2.2.2.2.2.1, .bool p1.2.2.2.2.2.2.2.2.2.2.2.2.2.2.2.2.2.1, .slice p1.2.2.2.2.2.2.2.2.2.2.2.2.2.2.2.2.2.2.1.a p1.2.2.2.2.2.2.2.2.2.2.2.2.2.2.2.2.2.2.1.len p1.2.2.2.2.2.2.2.2.2.2.2.2.2.2.2.2.2.2.1.cap, .bool p1.2.2.2.2.2.2.2.2.2.2.2.2.2.2.2.2.2.2.2.1, .bool p1.2.2.2.2.2.2.2.2.2.2.2.2.2.2.2.2.2.2.2.2.1, .string p1.2.2.2.2.2.2.2.2.2.2.2.2.2.2.2.2.2.2.2.2.2.1, .string p1.2.2.2.2.2.2.2.2.2.2.2.2.2.2.2.2.2.2.2.2.2.2.1, .bool p1.2.2.2.2.2.2.2.2.2.2.2.2.2.2.2.2.2.2.2.2.2.2.2.1, .slice p1.2.2.2.2.2.2.2.2.2.2.2.2.2.2.2.2.2.2.2.2.2.2.2.2.1.a p1.2.2.2.2.2.2.2.2.2.2.2.2.2.2.2.2.2.2.2.2.2.2.2.2.1.len p1.2.2.2.2.2.2.2.2.2.2.2.2.2.2.2.2.2.2.2.2.2.2.2.2.1.cap, .slice p1.2.2.2.2.2.2.2.2.2.2.2.2.2.2.2.2.2.2.2.2.2.2.2.2.2.1.a p1.2.2.2.2.2.2.2.2.2.2.2.2.2.2.2.2.2.2.2.2.2.2.2.2.2.1.len p1.2.2.2.2.2.2.2.2.2.2.2.2.2.2.2.2.2.2.2.2.2.2.2.2.2.1.cap] 41)) fun x2 =>
  HM.bind (α := Nat) (HM.new (.cells #[.string (ByteArray.mk #[]), .int .i64 0] 209)) fun x3 =>
  HM.bind (α := Int) (HM.load1 (.int .i64) (Addr.add ⟨x2, 0, none⟩ 0)) fun x4 =>
  HM.ite (x4 == 1) (
  HM.bind (α := ByteArray × Int × Unit) (HM.loadN [.str, .int .i64] ⟨x1, 0, none⟩) fun x5 =>
  HM.bind (α := Int × Bool × Bool × Int × Int × ByteArray × ByteArray × Int × Slc × Slc × ByteArray × Bool × Int × Bool × ByteArray × ByteArray × Int × Bool × Slc × Bool × Bool × ByteArray × ByteArray × Bool × Slc × Slc × Unit) (HM.loadN [.int .i64, .bool, .bool, .int .i64, .int .i64, .str, .str, .int .i64, .slc, .slc, .str, .bool, .int .i64, .bool, .str, .str, .int .i64, .bool, .slc, .bool, .bool, .str, .str, .bool, .slc, .slc] ⟨x2, 0, none⟩) fun x6 =>
  HM.bind (α := ByteArray × Int × Unit) (HM.call1 Tryz.prog (.agg [.str, .int .i64]) 129 #[.agg #[.string x5.1, .int .i64 x5.2.1], .agg #[.int .i64 x6.1, .bool x6.2.1, .bool x6.2.2.1, .int .i64 x6.2.2.2.1, .int .i64 x6.2.2.2.2.1, .string x6.2.2.2.2.2.1, .string x6.2.2.2.2.2.2.1, .int .i64 x6.2.2.2.2.2.2.2.1, .slice x6.2.2.2.2.2.2.2.2.1.a x6.2.2.2.2.2.2.2.2.1.len x6.2.2.2.2.2.2.2.2.1.cap, .slice x6.2.2.2.2.2.2.2.2.2.1.a x6.2.2.2.2.2.2.2.2.2.1.len x6.2.2.2.2.2.2.2.2.2.1.cap, .string x6.2.2.2.2.2.2.2.2.2.2.1, .bool x6.2.2.2.2.2.2.2.2.2.2.2.1, .int .i64 x6.2.2.2.2.2.2.2.2.2.2.2.2.1, .bool x6.2.2.2.2.2.2.2.2.2.2.2.2.2.1, .string x6.2.2.2.2.2.2.2.2.2.2.2.2.2.2.1, .string x6.2.2.2.2.2.2.2.2.2.2.2.2.2.2.2.1, .int .i64 x6.2.2.2.2.2.2.2.2.2.2.2.2.2.2.2.2.1, .bool x6.2.2.2.2.2.2.2.2.2.2.2.2.2.2.2.2.2.1, .slice x6.2.2.2.2.2.2.2.2.2.2.2.2.2.2.2.2.2.2.1.a x6.2.2.2.2.2.2.2.2.2.2.2.2.2.2.2.2.2.2.1.len x6.2.2.2.2.2.2.2.2.2.2.2.2.2.2.2.2.2.2.1.cap, .bool x6.2.2.2.2.2.2.2.2.2.2.2.2.2.2.2.2.2.2.2.1, .bool x6.2.2.2.2.2.2.2.2.2.2.2.2.2.2.2.2.2.2.2.2.1, .string x6.2.2.2.2.2.2.2.2.2.2.2.2.2.2.2.2.2.2.2.2.2.1, .string x6.2.2.2.2.2.2.2.2.2.2.2.2.2.2.2.2.2.2.2.2.2.2.1, .bool x6.2.2.2.2.2.2.2.2.2.2.2.2.2.2.2.2.2.2.2.2.2.2.2.1, .slice x6.2.2.2.2.2.2.2.2.2.2.2.2.2.2.2.2.2.2.2.2.2.2.2.2.1.a x6.2.2.2.2.2.2.2.2.2.2.2.2.2.2.2.2.2.2.2.2.2.2.2.2.1.len x6.2.2.2.2.2.2.2.2.2.2.2.2.2.2.2.2.2.2.2.2.2.2.2.2.1.cap, .slice x6.2.2.2.2.2.2.2.2.2.2.2.2.2.2.2.2.2.2.2.2.2.2.2.2.2.1.a x6.2.2.2.2.2.2.2.2.2.2.2.2.2.2.2.2.2.2.2.2.2.2.2.2.2.1.len x6.2.2.2.2.2.2.2.2.2.2.2.2.2.2.2.2.2.2.2.2.2.2.2.2.2.1.cap]]) fun x7 =>
  HM.bind (α := Unit) (HM.storeN ⟨x3, 0, none⟩ [.string x7.1, .int .i64 x7.2.1]) fun _ =>
  HM.bind (α := ByteArray × Int × Unit) (HM.loadN [.str, .int .i64] ⟨x3, 0, none⟩) fun x8 =>
  HM.pure ((x8.1, x8.2.1, ()), ())) (
  HM.ite (x4 == 2) (
  HM.bind (α := Bool) (HM.load1 .bool (Addr.add ⟨x2, 0, none⟩ 23)) fun x9 =>
  HM.bind (α := Int) (HM.call1 Tryz.prog (.one (.int .i64)) 130 #[.bool x9, .int .i64 1]) fun x10 =>
  HM.bind (α := ByteArray × Int × Unit) (HM.loadN [.str, .int .i64] ⟨x1, 0, none⟩) fun x11 =>
  HM.bind (α := ByteArray × Int × Unit) (HM.call1 Tryz.prog (.agg [.str, .int .i64]) 131 #[.agg #[.string x11.1, .int .i64 x11.2.1], .int .i64 1, .int .i64 x10]) fun x12 =>
  HM.bind (α := Unit) (HM.storeN ⟨x1, 0, none⟩ [.string x12.1, .int .i64 x12.2.1]) fun _ =>
  HM.bind (α := ByteArray × Int × Unit) (HM.loadN [.str, .int .i64] ⟨x1, 0, none⟩) fun x13 =>
  HM.bind (α := Int) (HM.load1 (.int .i64) (Addr.add ⟨x2, 0, none⟩ 7)) fun x14 =>
  HM.bind (α := ByteArray × Int × Unit) (HM.call1 Tryz.prog (.agg [.str, .int .i64]) 131 #[.agg #[.string x13.1, .int .i64 x13.2.1], .int .i64 1, .int .i64 x14]) fun x15 =>
  HM.bind (α := Unit) (HM.storeN ⟨x1, 0, none⟩ [.string x15.1, .int .i64 x15.2.1]) fun _ =>
  HM.bind (α := ByteArray × Int × Unit) (HM.loadN [.str, .int .i64] ⟨x1, 0, none⟩) fun x16 =>
  HM.bind (α := Slc) (HM.load1 .slc (Addr.add ⟨x2, 0, none⟩ 9)) fun x17 =>
  HM.bind (α := ByteArray × Int × Unit) (HM.call1 Tryz.prog (.agg [.str, .int .i64]) 132 #[.agg #[.string x16.1, .int .i64 x16.2.1], .int .i64 2, .slice x17.a x17.len x17.cap]) fun x18 =>
  HM.bind (α := Unit) (HM.storeN ⟨x3, 0, none⟩ [.string x18.1, .int .i64 x18.2.1]) fun _ =>
  HM.bind (α := ByteArray × Int × Unit) (HM.loadN [.str, .int .i64] ⟨x3, 0, none⟩) fun x19 =>
  HM.pure ((x19.1, x19.2.1, ()), ())) (
  HM.ite (x4 == 3) (
  HM.bind (α := ByteArray × Int × Unit) (HM.loadN [.str, .int .i64] ⟨x1, 0, none⟩) fun x20 =>
  HM.bind (α := Int) (HM.load1 (.int .i64) (Addr.add ⟨x2, 0, none⟩ 3)) fun x21 =>
  HM.bind (α := ByteArray × Int × Unit) (HM.call1 Tryz.prog (.agg [.str, .int .i64]) 133 #[.agg #[.string x20.1, .int .i64 x20.2.1], .int .i64 x21]) fun x22 =>
  HM.bind (α := Unit) (HM.storeN ⟨x1, 0, none⟩ [.string x22.1, .int .i64 x22.2.1]) fun _ =>
  HM.bind (α := Bool × Unit) (HM.bind (α := Bool) (HM.load1 .bool (Addr.add ⟨x2, 0, none⟩ 1)) fun x23 =>
  HM.ite x23 (
  HM.bind (α := Int) (HM.load1 (.int .i64) (Addr.add ⟨x2, 0, none⟩ 3)) fun x24 =>
  HM.pure (x24 == 0, ())) (
  HM.pure (false, ()))) fun x25 =>
  HM.bind (α := Unit) (HM.ite x25.1 (
  HM.bind (α := ByteArray × Int × Unit) (HM.loadN [.str, .int .i64] ⟨x1, 0, none⟩) fun x27 =>
  HM.bind (α := ByteArray × Int × Unit) (HM.call1 Tryz.prog (.agg [.str, .int .i64]) 134 #[.agg #[.string x27.1, .int .i64 x27.2.1], .string (ByteArray.mk #[]), .int .i64 129]) fun x28 =>
  HM.bind (α := Unit) (HM.storeN ⟨x1, 0, none⟩ [.string x28.1, .int .i64 x28.2.1]) fun _ =>
  HM.pure ()) (
  HM.pure ())) fun x26 =>
  HM.bind (α := ByteArray × Int × Unit) (HM.loadN [.str, .int .i64] ⟨x1, 0, none⟩) fun x29 =>
  HM.bind (α := ByteArray) (HM.load1 .str (Addr.add ⟨x2, 0, none⟩ 5)) fun x30 =>
  HM.bind (α := ByteArray × Int × Unit) (HM.call1 Tryz.prog (.agg [.str, .int .i64]) 135 #[.agg #[.string x29.1, .int .i64 x29.2.1], .string x30]) fun x31 =>
  HM.bind (α := Unit) (HM.storeN ⟨x1, 0, none⟩ [.string x31.1, .int .i64 x31.2.1]) fun _ =>
  HM.bind (α := Int) (HM.load1 (.int .i64) (Addr.add ⟨x2, 0, none⟩ 3)) fun x32 =>
  HM.bind (α := Unit) (HM.ite (decide (0 < (x32 : Int))) (
  HM.bind (α := ByteArray × Int × Unit) (HM.loadN [.str, .int .i64] ⟨x1, 0, none⟩) fun x34 =>
  HM.bind (α := Int) (HM.load1 (.int .i64) (Addr.add ⟨x2, 0, none⟩ 4)) fun x35 =>
  HM.bind (α := ByteArray × Int × Unit) (HM.call1 Tryz.prog (.agg [.str, .int .i64]) 136 #[.agg #[.string x34.1, .int .i64 x34.2.1], .int .i64 x35]) fun x36 =>
  HM.bind (α := Unit) (HM.storeN ⟨x1, 0, none⟩ [.string x36.1, .int .i64 x36.2.1]) fun _ =>
  HM.pure ()) (
  HM.pure ())) fun x33 =>
  HM.bind (α := ByteArray × Int × Unit) (HM.loadN [.str, .int .i64] ⟨x1, 0, none⟩) fun x37 =>
  HM.bind (α := Slc) (HM.load1 .slc (Addr.add ⟨x2, 0, none⟩ 9)) fun x38 =>
  HM.bind (α := ByteArray × Int × Unit) (HM.call1 Tryz.prog (.agg [.str, .int .i64]) 132 #[.agg #[.string x37.1, .int .i64 x37.2.1], .int .i64 3, .slice x38.a x38.len x38.cap]) fun x39 =>
  HM.bind (α := Unit) (HM.storeN ⟨x1, 0, none⟩ [.string x39.1, .int .i64 x39.2.1]) fun _ =>
  HM.bind (α := ByteArray × Int × Unit) (HM.loadN [.str, .int .i64] ⟨x1, 0, none⟩) fun x40 =>
  HM.bind (α := ByteArray) (HM.load1 .str (Addr.add ⟨x2, 0, none⟩ 6)) fun x41 =>
  HM.bind (α := ByteArray × Int × Unit) (HM.call1 Tryz.prog (.agg [.str, .int .i64]) 134 #[.agg #[.string x40.1, .int .i64 x40.2.1], .string x41, .int .i64 0]) fun x42 =>
  HM.bind (α := Unit) (HM.storeN ⟨x3, 0, none⟩ [.string x42.1, .int .i64 x42.2.1]) fun _ =>
  HM.bind (α := ByteArray × Int × Unit) (HM.loadN [.str, .int .i64] ⟨x3, 0, none⟩) fun x43 =>
  HM.pure ((x43.1, x43.2.1, ()), ())) (
  HM.bind (α := Bool × Unit) (HM.ite (x4 == 4) (
  HM.pure (x4 == 4, ())) (
  HM.bind (α := Bool × Unit) (HM.ite (x4 == 5) (
  HM.pure (x4 == 5, ())) (
  HM.bind (α := Bool × Unit) (HM.ite (x4 == 6) (
  HM.pure (x4 == 6, ())) (
  HM.pure (x4 == 7, ()))) fun x46 =>
  HM.pure (x46.1, ()))) fun x45 =>
  HM.pure (x45.1, ()))) fun x44 =>
  HM.ite x44.1 (
  HM.bind (α := ByteArray × Int × Unit) (HM.loadN [.str, .int .i64] ⟨x1, 0, none⟩) fun x47 =>
  HM.bind (α := Int) (HM.load1 (.int .i64) (Addr.add ⟨x2, 0, none⟩ 4)) fun x48 =>
  HM.bind (α := ByteArray × Int × Unit) (HM.call1 Tryz.prog (.agg [.str, .int .i64]) 136 #[.agg #[.string x47.1, .int .i64 x47.2.1], .int .i64 x48]) fun x49 =>
  HM.bind (α := Unit) (HM.storeN ⟨x1, 0, none⟩ [.string x49.1, .int .i64 x49.2.1]) fun _ =>
  HM.bind (α := ByteArray × Int × Unit) (HM.loadN [.str, .int .i64] ⟨x1, 0, none⟩) fun x50 =>
  HM.bind (α := Int × Bool × Bool × Int × Int × ByteArray × ByteArray × Int × Slc × Slc × ByteArray × Bool × Int × Bool × ByteArray × ByteArray × Int × Bool × Slc × Bool × Bool × ByteArray × ByteArray × Bool × Slc × Slc × Unit) (HM.loadN [.int .i64, .bool, .bool, .int .i64, .int .i64, .str, .str, .int .i64, .slc, .slc, .str, .bool, .int .i64, .bool, .str, .str, .int .i64, .bool, .slc, .bool, .bool, .str, .str, .bool, .slc, .slc] ⟨x2, 0, none⟩) fun x51 =>
  HM.bind (α := ByteArray × Int × Unit) (HM.call1 Tryz.prog (.agg [.str, .int .i64]) 137 #[.agg #[.string x50.1, .int .i64 x50.2.1], .agg #[.int .i64 x51.1, .bool x51.2.1, .bool x51.2.2.1, .int .i64 x51.2.2.2.1, .int .i64 x51.2.2.2.2.1, .string x51.2.2.2.2.2.1, .string x51.2.2.2.2.2.2.1, .int .i64 x51.2.2.2.2.2.2.2.1, .slice x51.2.2.2.2.2.2.2.2.1.a x51.2.2.2.2.2.2.2.2.1.len x51.2.2.2.2.2.2.2.2.1.cap, .slice x51.2.2.2.2.2.2.2.2.2.1.a x51.2.2.2.2.2.2.2.2.2.1.len x51.2.2.2.2.2.2.2.2.2.1.cap, .string x51.2.2.2.2.2.2.2.2.2.2.1, .bool x51.2.2.2.2.2.2.2.2.2.2.2.1, .int .i64 x51.2.2.2.2.2.2.2.2.2.2.2.2.1, .bool x51.2.2.2.2.2.2.2.2.2.2.2.2.2.1, .string x51.2.2.2.2.2.2.2.2.2.2.2.2.2.2.1, .string x51.2.2.2.2.2.2.2.2.2.2.2.2.2.2.2.1, .int .i64 x51.2.2.2.2.2.2.2.2.2.2.2.2.2.2.2.2.1, .bool x51.2.2.2.2.2.2.2.2.2.2.2.2.2.2.2.2.2.1, .slice x51.2.2.2.2.2.2.2.2.2.2.2.2.2.2.2.2.2.2.1.a x51.2.2.2.2.2.2.2.2.2.2.2.2.2.2.2.2.2.2.1.len x51.2.2.2.2.2.2.2.2.2.2.2.2.2.2.2.2.2.2.1.cap, .bool x51.2.2.2.2.2.2.2.2.2.2.2.2.2.2.2.2.2.2.2.1, .bool x51.2.2.2.2.2.2.2.2.2.2.2.2.2.2.2.2.2.2.2.2.1, .string x51.2.2.2.2.2.2.2.2.2.2.2.2.2.2.2.2.2.2.2.2.2.1, .string x51.2.2.2.2.2.2.2.2.2.2.2.2.2.2.2.2.2.2.2.2.2.2.1, .bool x51.2.2.2.2.2.2.2.2.2.2.2.2.2.2.2.2.2.2.2.2.2.2.2.1, .slice x51.2.2.2.2.2.2.2.2.2.2.2.2.2.2.2.2.2.2.2.2.2.2.2.2.1.a x51.2.2.2.2.2.2.2.2.2.2.2.2.2.2.2.2.2.2.2.2.2.2.2.2.1.len x51.2.2.2.2.2.2.2.2.2.2.2.2.2.2.2.2.2.2.2.2.2.2.2.2.1.cap, .slice x51.2.2.2.2.2.2.2.2.2.2.2.2.2.2.2.2.2.2.2.2.2.2.2.2.2.1.a x51.2.2.2.2.2.2.2.2.2.2.2.2.2.2.2.2.2.2.2.2.2.2.2.2.2.1.len x51.2.2.2.2.2.2.2.2.2.2.2.2.2.2.2.2.2.2.2.2.2.2.2.2.2.1.cap]]) fun x52 =>
  HM.bind (α := Unit) (HM.storeN ⟨x3, 0, none⟩ [.string x52.1, .int .i64 x52.2.1]) fun _ =>
  HM.bind (α := ByteArray × Int × Unit) (HM.loadN [.str, .int .i64] ⟨x3, 0, none⟩) fun x53 =>
  HM.pure ((x53.1, x53.2.1, ()), ())) (
  HM.bind (α := Bool × Unit) (HM.ite (x4 == 14) (
  HM.pure (x4 == 14, ())) (
  HM.pure (x4 == 15, ()))) fun x54 =>
  HM.ite x54.1 (
  HM.bind (α := ByteArray × Int × Unit) (HM.loadN [.str, .int .i64] ⟨x1, 0, none⟩) fun x55 =>
  HM.bind (α := Int × Bool × Bool × Int × Int × ByteArray × ByteArray × Int × Slc × Slc × ByteArray × Bool × Int × Bool × ByteArray × ByteArray × Int × Bool × Slc × Bool × Bool × ByteArray × ByteArray × Bool × Slc × Slc × Unit) (HM.loadN [.int .i64, .bool, .bool, .int .i64, .int .i64, .str, .str, .int .i64, .slc, .slc, .str, .bool, .int .i64, .bool, .str, .str, .int .i64, .bool, .slc, .bool, .bool, .str, .str, .bool, .slc, .slc] ⟨x2, 0, none⟩) fun x56 =>
  HM.bind (α := ByteArray × Int × Unit) (HM.call1 Tryz.prog (.agg [.str, .int .i64]) 137 #[.agg #[.string x55.1, .int .i64 x55.2.1], .agg #[.int .i64 x56.1, .bool x56.2.1, .bool x56.2.2.1, .int .i64 x56.2.2.2.1, .int .i64 x56.2.2.2.2.1, .string x56.2.2.2.2.2.1, .string x56.2.2.2.2.2.2.1, .int .i64 x56.2.2.2.2.2.2.2.1, .slice x56.2.2.2.2.2.2.2.2.1.a x56.2.2.2.2.2.2.2.2.1.len x56.2.2.2.2.2.2.2.2.1.cap, .slice x56.2.2.2.2.2.2.2.2.2.1.a x56.2.2.2.2.2.2.2.2.2.1.len x56.2.2.2.2.2.2.2.2.2.1.cap, .string x56.2.2.2.2.2.2.2.2.2.2.1, .bool x56.2.2.2.2.2.2.2.2.2.2.2.1, .int .i64 x56.2.2.2.2.2.2.2.2.2.2.2.2.1, .bool x56.2.2.2.2.2.2.2.2.2.2.2.2.2.1, .string x56.2.2.2.2.2.2.2.2.2.2.2.2.2.2.1, .string x56.2.2.2.2.2.2.2.2.2.2.2.2.2.2.2.1, .int .i64 x56.2.2.2.2.2.2.2.2.2.2.2.2.2.2.2.2.1, .bool x56.2.2.2.2.2.2.2.2.2.2.2.2.2.2.2.2.2.1, .slice x56.2.2.2.2.2.2.2.2.2.2.2.2.2.2.2.2.2.2.1.a x56.2.2.2.2.2.2.2.2.2.2.2.2.2.2.2.2.2.2.1.len x56.2.2.2.2.2.2.2.2.2.2.2.2.2.2.2.2.2.2.1.cap, .bool x56.2.2.2.2.2.2.2.2.2.2.2.2.2.2.2.2.2.2.2.1, .bool x56.2.2.2.2.2.2.2.2.2.2.2.2.2.2.2.2.2.2.2.2.1, .string x56.2.2.2.2.2.2.2.2.2.2.2.2.2.2.2.2.2.2.2.2.2.1, .string x56.2.2.2.2.2.2.2.2.2.2.2.2.2.2.2.2.2.2.2.2.2.2.1, .bool x56.2.2.2.2.2.2.2.2.2.2.2.2.2.2.2.2.2.2.2.2.2.2.2.1, .slice x56.2.2.2.2.2.2.2.2.2.2.2.2.2.2.2.2.2.2.2.2.2.2.2.2.1.a x56.2.2.2.2.2.2.2.2.2.2.2.2.2.2.2.2.2.2.2.2.2.2.2.2.1.len x56.2.2.2.2.2.2.2.2.2.2.2.2.2.2.2.2.2.2.2.2.2.2.2.2.1.cap, .slice x56.2.2.2.2.2.2.2.2.2.2.2.2.2.2.2.2.2.2.2.2.2.2.2.2.2.1.a x56.2.2.2.2.2.2.2.2.2.2.2.2.2.2.2.2.2.2.2.2.2.2.2.2.2.1.len x56.2.2.2.2.2.2.2.2.2.2.2.2.2.2.2.2.2.2.2.2.2.2.2.2.2.1.cap]]) fun x57 =>
  HM.bind (α := Unit) (HM.storeN ⟨x3, 0, none⟩ [.string x57.1, .int .i64 x57.2.1]) fun _ =>
  HM.bind (α := ByteArray × Int × Unit) (HM.loadN [.str, .int .i64] ⟨x3, 0, none⟩) fun x58 =>
  HM.pure ((x58.1, x58.2.1, ()), ())) (
  HM.bind (α := Bool × Unit) (HM.ite (x4 == 8) (
  HM.pure (x4 == 8, ())) (
  HM.bind (α := Bool × Unit) (HM.ite (x4 == 9) (
  HM.pure (x4 == 9, ())) (
  HM.bind (α := Bool × Unit) (HM.ite (x4 == 10) (
  HM.pure (x4 == 10, ())) (
  HM.pure (x4 == 11, ()))) fun x61 =>
  HM.pure (x61.1, ()))) fun x60 =>
  HM.pure (x60.1, ()))) fun x59 =>
  HM.ite x59.1 (
  HM.bind (α := ByteArray × Int × Unit) (HM.loadN [.str, .int .i64] ⟨x1, 0, none⟩) fun x62 =>
  HM.bind (α := Int × Bool × Bool × Int × Int × ByteArray × ByteArray × Int × Slc × Slc × ByteArray × Bool × Int × Bool × ByteArray × ByteArray × Int × Bool × Slc × Bool × Bool × ByteArray × ByteArray × Bool × Slc × Slc × Unit) (HM.loadN [.int .i64, .bool, .bool, .int .i64, .int .i64, .str, .str, .int .i64, .slc, .slc, .str, .bool, .int .i64, .bool, .str, .str, .int .i64, .bool, .slc, .bool, .bool, .str, .str, .bool, .slc, .slc] ⟨x2, 0, none⟩) fun x63 =>
  HM.bind (α := ByteArray × Int × Unit) (HM.call1 Tryz.prog (.agg [.str, .int .i64]) 138 #[.agg #[.string x62.1, .int .i64 x62.2.1], .agg #[.int .i64 x63.1, .bool x63.2.1, .bool x63.2.2.1, .int .i64 x63.2.2.2.1, .int .i64 x63.2.2.2.2.1, .string x63.2.2.2.2.2.1, .string x63.2.2.2.2.2.2.1, .int .i64 x63.2.2.2.2.2.2.2.1, .slice x63.2.2.2.2.2.2.2.2.1.a x63.2.2.2.2.2.2.2.2.1.len x63.2.2.2.2.2.2.2.2.1.cap, .slice x63.2.2.2.2.2.2.2.2.2.1.a x63.2.2.2.2.2.2.2.2.2.1.len x63.2.2.2.2.2.2.2.2.2.1.cap, .string x63.2.2.2.2.2.2.2.2.2.2.1, .bool x63.2.2.2.2.2.2.2.2.2.2.2.1, .int .i64 x63.2.2.2.2.2.2.2.2.2.2.2.2.1, .bool x63.2.2.2.2.2.2.2.2.2.2.2.2.2.1, .string x63.2.2.2.2.2.2.2.2.2.2.2.2.2.2.1, .string x63.2.2.2.2.2.2.2.2.2.2.2.2.2.2.2.1, .int .i64 x63.2.2.2.2.2.2.2.2.2.2.2.2.2.2.2.2.1, .bool x63.2.2.2.2.2.2.2.2.2.2.2.2.2.2.2.2.2.1, .slice x63.2.2.2.2.2.2.2.2.2.2.2.2.2.2.2.2.2.2.1.a x63.2.2.2.2.2.2.2.2.2.2.2.2.2.2.2.2.2.2.1.len x63.2.2.2.2.2.2.2.2.2.2.2.2.2.2.2.2.2.2.1.cap, .bool x63.2.2.2.2.2.2.2.2.2.2.2.2.2.2.2.2.2.2.2.1, .bool x63.2.2.2.2.2.2.2.2.2.2.2.2.2.2.2.2.2.2.2.2.1, .string x63.2.2.2.2.2.2.2.2.2.2.2.2.2.2.2.2.2.2.2.2.2.1, .string x63.2.2.2.2.2.2.2.2.2.2.2.2.2.2.2.2.2.2.2.2.2.2.1, .bool x63.2.2.2.2.2.2.2.2.2.2.2.2.2.2.2.2.2.2.2.2.2.2.2.1, .slice x63.2.2.2.2.2.2.2.2.2.2.2.2.2.2.2.2.2.2.2.2.2.2.2.2.1.a x63.2.2.2.2.2.2.2.2.2.2.2.2.2.2.2.2.2.2.2.2.2.2.2.2.1.len x63.2.2.2.2.2.2.2.2.2.2.2.2.2.2.2.2.2.2.2.2.2.2.2.2.1.cap, .slice x63.2.2.2.2.2.2.2.2.2.2.2.2.2.2.2.2.2.2.2.2.2.2.2.2.2.1.a x63.2.2.2.2.2.2.2.2.2.2.2.2.2.2.2.2.2.2.2.2.2.2.2.2.2.1.len x63.2.2.2.2.2.2.2.2.2.2.2.2.2.2.2.2.2.2.2.2.2.2.2.2.2.1.cap]]) fun x64 =>
  HM.bind (α := Unit) (HM.storeN ⟨x3, 0, none⟩ [.string x64.1, .int .i64 x64.2.1]) fun _ =>
  HM.bind (α := ByteArray × Int × Unit) (HM.loadN [.str, .int .i64] ⟨x3, 0, none⟩) fun x65 =>
  HM.pure ((x65.1, x65.2.1, ()), ())) (
  HM.bind (α := ByteArray × Int × Unit) (HM.loadN [.str, .int .i64] ⟨x1, 0, none⟩) fun x66 =>
  HM.bind (α := Unit) (HM.storeN ⟨x3, 0, none⟩ [.string x66.1, .int .i64 x66.2.1]) fun _ =>
  HM.bind (α := ByteArray × Int × Unit) (HM.loadN [.str, .int .i64] ⟨x3, 0, none⟩) fun x67 =>
  HM.pure ((x67.1, x67.2.1, ()), ())))))))
theorem ref05_body_den (p0 : ByteArray × Int × Unit) (p1 : Int × Bool × Bool × Int × Int × ByteArray × ByteArray × Int × Slc × Slc × ByteArray × Bool × Int × Bool × ByteArray × ByteArray × Int × Bool × Slc × Bool × Bool × ByteArray × ByteArray × Bool × Slc × Slc × Unit) : denFn Tryz.prog [129, 130, 131, 132, 133, 134, 135, 136, 137, 138] 90 [0, 1, 2, 3, 4, 5, 7, 8, 13, 29, 41, 50, 63, 75, 81] [0, 1, 2, 3, 4, 5, 7, 8, 13, 29, 41, 50, 63, 75, 81] Tryz.f91.results.toList [.agg [.str, .int .i64]] (bodyOf Tryz.f91) [Kind.val (.agg [.str, .int .i64]) p0, Kind.val (.agg [.int .i64, .bool, .bool, .int .i64, .int .i64, .str, .str, .int .i64, .slc, .slc, .str, .bool, .int .i64, .bool, .str, .str, .int .i64, .bool, .slc, .bool, .bool, .str, .str, .bool, .slc, .slc]) p1] = ref05_body p0 p1 := by kernel_rfl
theorem ref05_body_calls (p0 : ByteArray × Int × Unit) (p1 : Int × Bool × Bool × Int × Int × ByteArray × ByteArray × Int × Slc × Slc × ByteArray × Bool × Int × Bool × ByteArray × ByteArray × Int × Bool × Slc × Bool × Bool × ByteArray × ByteArray × Bool × Slc × Slc × Unit) (h : Heap) (Q : Value → Heap → Prop) (hh : ref05_body p0 p1 h fun x h' => Q (.agg #[.string x.1.1, .int .i64 x.1.2.1]) h') :
    HCalls Tryz.prog 91 #[.agg #[.string p0.1, .int .i64 p0.2.1], .agg #[.int .i64 p1.1, .bool p1.2.1, .bool p1.2.2.1, .int .i64 p1.2.2.2.1, .int .i64 p1.2.2.2.2.1, .string p1.2.2.2.2.2.1, .string p1.2.2.2.2.2.2.1, .int .i64 p1.2.2.2.2.2.2.2.1, .slice p1.2.2.2.2.2.2.2.2.1.a p1.2.2.2.2.2.2.2.2.1.len p1.2.2.2.2.2.2.2.2.1.cap, .slice p1.2.2.2.2.2.2.2.2.2.1.a p1.2.2.2.2.2.2.2.2.2.1.len p1.2.2.2.2.2.2.2.2.2.1.cap, .string p1.2.2.2.2.2.2.2.2.2.2.1, .bool p1.2.2.2.2.2.2.2.2.2.2.2.1, .int .i64 p1.2.2.2.2.2.2.2.2.2.2.2.2.1, .bool p1.2.2.2.2.2.2.2.2.2.2.2.2.2.1, .string p1.2.2.2.2.2.2.2.2.2.2.2.2.2.2.1, .string p1.2.2.2.2.2.2.2.2.2.2.2.2.2.2.2.1, .int .i64 p1.2.2.2.2.2.2.2.2.2.2.2.2.2.2.2.2.1, .bool p1.2.2.2.2.2.2.2.2.2.2.2.2.2.2.2.2.2.1, .slice p1.2.2.2.2.2.2.2.2.2.2.2.2.2.2.2.2.2.2.1.a p1.2.2.2.2.2.2.2.2.2.2.2.2.2.2.2.2.2.2.1.len p1.2.2.2.2.2.2.2.2.2.2.2.2.2.2.2.2.2.2.1.cap, .bool p1.2.2.2.2.2.2.2.2.2.2.2.2.2.2.2.2.2.2.2.1, .bool p1.2.2.2.2.2.2.2.2.2.2.2.2.2.2.2.2.2.2.2.2.1, .string p1.2.2.2.2.2.2.2.2.2.2.2.2.2.2.2.2.2.2.2.2.2.1, .string p1.2.2.2.2.2.2.2.2.2.2.2.2.2.2.2.2.2.2.2.2.2.2.1, .bool p1.2.2.2.2.2.2.2.2.2.2.2.2.2.2.2.2.2.2.2.2.2.2.2.1, .slice p1.2.2.2.2.2.2.2.2.2.2.2.2.2.2.2.2.2.2.2.2.2.2.2.2.1.a p1.2.2.2.2.2.2.2.2.2.2.2.2.2.2.2.2.2.2.2.2.2.2.2.2.1.len p1.2.2.2.2.2.2.2.2.2.2.2.2.2.2.2.2.2.2.2.2.2.2.2.2.1.cap, .slice p1.2.2.2.2.2.2.2.2.2.2.2.2.2.2.2.2.2.2.2.2.2.2.2.2.2.1.a p1.2.2.2.2.2.2.2.2.2.2.2.2.2.2.2.2.2.2.2.2.2.2.2.2.2.1.len p1.2.2.2.2.2.2.2.2.2.2.2.2.2.2.2.2.2.2.2.2.2.2.2.2.2.1.cap]] h Q :=
  calls_of_eq Tryz.func91 (by kernel_rfl) Tryz.ntmps91 (by kernel_rfl) (CC Tryz.call129 (CC Tryz.call130 (CC Tryz.call131 (CC Tryz.call132 (CC Tryz.call133 (CC Tryz.call134 (CC Tryz.call135 (CC Tryz.call136 (CC Tryz.call137 (CC Tryz.call138 CN)))))))))) orders (ref05_body_den p0 p1) hh
def ref05_flags (p0 : Int × Bool × Bool × Int × Int × ByteArray × ByteArray × Int × Slc × Slc × ByteArray × Bool × Int × Bool × ByteArray × ByteArray × Int × Bool × Slc × Bool × Bool × ByteArray × ByteArray × Bool × Slc × Slc × Unit) : HM (Int × Unit) :=
  HM.bind (α := Nat) (HM.new (.cells #[.int .i64 p0.1, .bool p0.2.1, .bool p0.2.2.1, .int .i64 p0.2.2.2.1, .int .i64 p0.2.2.2.2.1, .string p0.2.2.2.2.2.1, .string p0.2.2.2.2.2.2.1, .int .i64 p0.2.2.2.2.2.2.2.1, .slice p0.2.2.2.2.2.2.2.2.1.a p0.2.2.2.2.2.2.2.2.1.len p0.2.2.2.2.2.2.2.2.1.cap, .slice p0.2.2.2.2.2.2.2.2.2.1.a p0.2.2.2.2.2.2.2.2.2.1.len p0.2.2.2.2.2.2.2.2.2.1.cap, .string p0.2.2.2.2.2.2.2.2.2.2.1, .bool p0.2.2.2.2.2.2.2.2.2.2.2.1, .int .i64 p0.2.2.2.2.2.2.2.2.2.2.2.2.1, .bool p0.2.2.2.2.2.2.2.2.2.2.2.2.2.1, .string p0.2.2.2.2.2.2.2.2.2.2.2.2.2.2.1, .string p0.2.2.2.2.2.2.2.2.2.2.2.2.2.2.2.1, .int .i64 p0.2.2.2.2.2.2.2.2.2.2.2.2.2.2.2.2.1, .bool p0.2.2.2.2.2.2.2.2.2.2.2.2.2.2.2.2.2.1, .slice p0.2.2.2.2.2.2.2.2.2.2.2.2.2.2.2.2.2.2.1.a p0.2.2.2.2.2.2.2.2.2.2.2.2.2.2.2.2.2.2.1.len p0.2.2.2.2.2.2.2.2.2.2.2.2.2.2.2.2.2.2.1.cap, .bool p0.2.2.2.2.2.2.2.2.2.2.2.2.2.2.2.2.2.2.2.1, .bool p0.2.2.2.2.2.2.2.2.2.2.2.2.2.2.2.2.2.2.2.2.1, .string p0.2.2.2.2.2.2.2.2.2.2.2.2.2.2.2.2.2.2.2.2.2.1, .string p0.2.2.2.2.2.2.2.2.2.2.2.2.2.2.2.2.2.2.2.2.2.2.1, .bool p0.2.2.2.2.2.2.2.2.2.2.2.2.2.2.2.2.2.2.2.2.2.2.2.1, .slice p0.2.2.2.2.2.2.2.2.2.2.2.2.2.2.2.2.2.2.2.2.2.2.2.2.1.a p0.2.2.2.2.2.2.2.2.2.2.2.2.2.2.2.2.2.2.2.2.2.2.2.2.1.len p0.2.2.2.2.2.2.2.2.2.2.2.2.2.2.2.2.2.2.2.2.2.2.2.2.1.cap, .slice p0.2.2.2.2.2.2.2.2.2.2.2.2.2.2.2.2.2.2.2.2.2.2.2.2.2.1.a p0.2.2.2.2.2.2.2.2.2.2.2.2.2.2.2.2.2.2.2.2.2.2.2.2.2.1.len p0.2.2.2.2.2.2.2.2.2.2.2.2.2.2.2.2.2.2.2.2.2.2.2.2.2.1.cap] 41)) fun x1 =>
  HM.bind (α := Int) (HM.load1 (.int .i64) (Addr.add ⟨x1, 0, none⟩ 0)) fun x2 =>
  HM.bind (α := Bool × Unit) (HM.ite (x2 == 6) (
  HM.pure (x2 == 6, ())) (
  HM.bind (α := Bool × Unit) (HM.ite (x2 == 8) (
  HM.pure (x2 == 8, ())) (
  HM.pure (x2 == 10, ()))) fun x4 =>
  HM.pure (x4.1, ()))) fun x3 =>
  HM.ite x3.1 (
  HM.pure (2, ())) (
  HM.ite (x2 == 3) (
  HM.bind (α := Bool) (HM.load1 .bool (Addr.add ⟨x1, 0, none⟩ 1)) fun x5 =>
  HM.bind (α := Int) (HM.call1 Tryz.prog (.one (.int .i64)) 130 #[.bool x5, .int .i64 8]) fun x6 =>
  HM.bind (α := Bool) (HM.load1 .bool (Addr.add ⟨x1, 0, none⟩ 2)) fun x7 =>
  HM.bind (α := Int) (HM.call1 Tryz.prog (.one (.int .i64)) 130 #[.bool x7, .int .i64 1]) fun x8 =>
  HM.bind (α := Int) (HM.load1 (.int .i64) (Addr.add ⟨x1, 0, none⟩ 3)) fun x9 =>
  HM.pure (IntKind.wrap .i64 ((IntKind.wrap .i64 (x6 + (IntKind.wrap .i64 (2 * x9)))) + x8), ())) (
  HM.pure (0, ())))
theorem ref05_flags_den (p0 : Int × Bool × Bool × Int × Int × ByteArray × ByteArray × Int × Slc × Slc × ByteArray × Bool × Int × Bool × ByteArray × ByteArray × Int × Bool × Slc × Bool × Bool × ByteArray × ByteArray × Bool × Slc × Slc × Unit) : denFn Tryz.prog [130] 26 [0, 1, 2, 3, 4, 6, 7, 11] [0, 1, 3, 4, 6, 7, 11] Tryz.f92.results.toList [.one (.int .i64)] (bodyOf Tryz.f92) [Kind.val (.agg [.int .i64, .bool, .bool, .int .i64, .int .i64, .str, .str, .int .i64, .slc, .slc, .str, .bool, .int .i64, .bool, .str, .str, .int .i64, .bool, .slc, .bool, .bool, .str, .str, .bool, .slc, .slc]) p0] = ref05_flags p0 := by kernel_rfl
theorem ref05_flags_calls (p0 : Int × Bool × Bool × Int × Int × ByteArray × ByteArray × Int × Slc × Slc × ByteArray × Bool × Int × Bool × ByteArray × ByteArray × Int × Bool × Slc × Bool × Bool × ByteArray × ByteArray × Bool × Slc × Slc × Unit) (h : Heap) (Q : Value → Heap → Prop) (hh : ref05_flags p0 h fun x h' => Q (.int .i64 x.1) h') :
    HCalls Tryz.prog 92 #[.agg #[.int .i64 p0.1, .bool p0.2.1, .bool p0.2.2.1, .int .i64 p0.2.2.2.1, .int .i64 p0.2.2.2.2.1, .string p0.2.2.2.2.2.1, .string p0.2.2.2.2.2.2.1, .int .i64 p0.2.2.2.2.2.2.2.1, .slice p0.2.2.2.2.2.2.2.2.1.a p0.2.2.2.2.2.2.2.2.1.len p0.2.2.2.2.2.2.2.2.1.cap, .slice p0.2.2.2.2.2.2.2.2.2.1.a p0.2.2.2.2.2.2.2.2.2.1.len p0.2.2.2.2.2.2.2.2.2.1.cap, .string p0.2.2.2.2.2.2.2.2.2.2.1, .bool p0.2.2.2.2.2.2.2.2.2.2.2.1, .int .i64 p0.2.2.2.2.2.2.2.2.2.2.2.2.1, .bool p0.2.2.2.2.2.2.2.2.2.2.2.2.2.1, .string p0.2.2.2.2.2.2.2.2.2.2.2.2.2.2.1, .string p0.2.2.2.2.2.2.2.2.2.2.2.2.2.2.2.1, .int .i64 p0.2.2.2.2.2.2.2.2.2.2.2.2.2.2.2.2.1, .bool p0.2.2.2.2.2.2.2.2.2.2.2.2.2.2.2.2.2.1, .slice p0.2.2.2.2.2.2.2.2.2.2.2.2.2.2.2.2.2.2.1.a p0.2.2.2.2.2.2.2.2.2.2.2.2.2.2.2.2.2.2.1.len p0.2.2.2.2.2.2.2.2.2.2.2.2.2.2.2.2.2.2.1.cap, .bool p0.2.2.2.2.2.2.2.2.2.2.2.2.2.2.2.2.2.2.2.1, .bool p0.2.2.2.2.2.2.2.2.2.2.2.2.2.2.2.2.2.2.2.2.1, .string p0.2.2.2.2.2.2.2.2.2.2.2.2.2.2.2.2.2.2.2.2.2.1, .string p0.2.2.2.2.2.2.2.2.2.2.2.2.2.2.2.2.2.2.2.2.2.2.1, .bool p0.2.2.2.2.2.2.2.2.2.2.2.2.2.2.2.2.2.2.2.2.2.2.2.1, .slice p0.2.2.2.2.2.2.2.2.2.2.2.2.2.2.2.2.2.2.2.2.2.2.2.2.1.a p0.2.2.2.2.2.2.2.2.2.2.2.2.2.2.2.2.2.2.2.2.2.2.2.2.1.len p0.2.2.2.2.2.2.2.2.2.2.2.2.2.2.2.2.2.2.2.2.2.2.2.2.1.cap, .slice p0.2.2.2.2.2.2.2.2.2.2.2.2.2.2.2.2.2.2.2.2.2.2.2.2.2.1.a p0.2.2.2.2.2.2.2.2.2.2.2.2.2.2.2.2.2.2.2.2.2.2.2.2.2.1.len p0.2.2.2.2.2.2.2.2.2.2.2.2.2.2.2.2.2.2.2.2.2.2.2.2.2.1.cap]] h Q :=
  calls_of_eq Tryz.func92 (by kernel_rfl) Tryz.ntmps92 (by kernel_rfl) (CC Tryz.call130 CN) orders (ref05_flags_den p0) hh
def ref01_Fixed (p0 : Int) (p1 : Int) : HM (ByteArray × Int × Unit) :=
  HM.bind (α := Int) (HM.call1 Tryz.prog (.one (.int .i64)) 139 #[.int .i64 p0]) fun x1 =>
  HM.ite (x1 == 0) (
  HM.pure (ByteArray.mk #[], 128, ())) (
  HM.bind (α := Bool × Unit) (HM.ite (decide (p1 < (0 : Int))) (
  HM.pure (true, ())) (
  HM.pure (decide (x1 ≤ (p1 : Int)), ()))) fun x2 =>
  HM.ite x2.1 (
  HM.pure (ByteArray.mk #[], 129, ())) (
  HM.bind (α := ByteArray × Int × Int × Unit) (HM.loop (σ := ByteArray × Int × Int × Unit) (τ := ByteArray × Int × Int × Unit) (fun x4 =>
  HM.ite (decide (x4.2.2.1 < (p0 : Int))) (
  HM.req (256 ≠ (0 : Int)) <|
  HM.bind (α := Nat) (HM.new (.cells #[.int .u8 (IntKind.wrap .u8 (Int.tmod x4.2.1 256))] 5)) fun x5 =>
  HM.bind (α := ByteArray) (HM.strOf (⟨some ⟨x5, 0, none⟩, 1, 1⟩)) fun x6 =>
  HM.req (ByteArray.size x6 + ByteArray.size x4.1 ≤ 9223372036854775807) <|
  HM.req (256 ≠ (0 : Int)) <|
  HM.pure (.inl (x6 ++ x4.1, IntKind.wrap .i64 (Int.tdiv x4.2.1 256), IntKind.wrap .i64 (x4.2.2.1 + 1), ()))) (
  HM.pure (.inr (x4.1, x4.2.1, x4.2.2.1, ())))) (ByteArray.mk #[], p1, 0, ())) fun x3 =>
  HM.pure (x3.1, 0, ())))
theorem ref01_Fixed_den (p0 : Int) (p1 : Int) : denFn Tryz.prog [139] 35 [0, 1, 4, 5, 6, 7, 8, 12, 19, 22] [0, 1, 6, 7, 8, 12, 19, 22] Tryz.f93.results.toList [.one .str, .one (.int .i64)] (bodyOf Tryz.f93) [Kind.val (.one (.int .i64)) p0, Kind.val (.one (.int .i64)) p1] = ref01_Fixed p0 p1 := by kernel_rfl
theorem ref01_Fixed_calls (p0 : Int) (p1 : Int) (h : Heap) (Q : Value → Heap → Prop) (hh : ref01_Fixed p0 p1 h fun x h' => Q (.tuple #[.string x.1, .int .i64 x.2.1]) h') :
    HCalls Tryz.prog 93 #[.int .i64 p0, .int .i64 p1] h Q :=
  calls_of_eq Tryz.func93 (by kernel_rfl) Tryz.ntmps93 (by kernel_rfl) (CC Tryz.call139 CN) orders (ref01_Fixed_den p0 p1) hh
def ref01_Put (p0 : Int) : HM (ByteArray × Int × Unit) :=
  HM.bind (α := Int) (HM.call1 Tryz.prog (.one (.int .i64)) 140 #[.int .i64 p0]) fun x1 =>
  HM.ite (x1 == 0) (
  HM.pure (ByteArray.mk #[], 129, ())) (
  HM.bind (α := ByteArray × Int × Int × Unit) (HM.loop (σ := ByteArray × Int × Int × Unit) (τ := ByteArray × Int × Int × Unit) (fun x3 =>
  HM.ite (decide (x3.2.2.1 < (x1 : Int))) (
  HM.req (128 ≠ (0 : Int)) <|
  HM.bind (α := Int × Unit) (HM.ite (decide (x3.2.2.1 < ((IntKind.wrap .i64 (x1 - 1)) : Int))) (
  HM.pure (IntKind.wrap .i64 ((Int.tmod x3.2.1 128) + 128), ())) (
  HM.pure (Int.tmod x3.2.1 128, ()))) fun x4 =>
  HM.bind (α := Nat) (HM.new (.cells #[.int .u8 (IntKind.wrap .u8 x4.1)] 5)) fun x5 =>
  HM.bind (α := ByteArray) (HM.strOf (⟨some ⟨x5, 0, none⟩, 1, 1⟩)) fun x6 =>
  HM.req (ByteArray.size x3.1 + ByteArray.size x6 ≤ 9223372036854775807) <|
  HM.req (128 ≠ (0 : Int)) <|
  HM.pure (.inl (x3.1 ++ x6, IntKind.wrap .i64 (Int.tdiv x3.2.1 128), IntKind.wrap .i64 (x3.2.2.1 + 1), ()))) (
  HM.pure (.inr (x3.1, x3.2.1, x3.2.2.1, ())))) (ByteArray.mk #[], p0, 0, ())) fun x2 =>
  HM.pure (x2.1, 0, ()))
theorem ref01_Put_den (p0 : Int) : denFn Tryz.prog [140] 34 [0, 2, 3, 4, 5, 6, 7, 11, 14, 22] [0, 4, 5, 6, 7, 11, 14, 22] Tryz.f94.results.toList [.one .str, .one (.int .i64)] (bodyOf Tryz.f94) [Kind.val (.one (.int .i64)) p0] = ref01_Put p0 := by kernel_rfl
theorem ref01_Put_calls (p0 : Int) (h : Heap) (Q : Value → Heap → Prop) (hh : ref01_Put p0 h fun x h' => Q (.tuple #[.string x.1, .int .i64 x.2.1]) h') :
    HCalls Tryz.prog 94 #[.int .i64 p0] h Q :=
  calls_of_eq Tryz.func94 (by kernel_rfl) Tryz.ntmps94 (by kernel_rfl) (CC Tryz.call140 CN) orders (ref01_Put_den p0) hh
def slices_Clone_Flight (p0 : Slc) : HM (Slc × Unit) :=
  HM.ite (Option.isNone p0.a) (
  HM.pure (⟨none, 0, 0⟩, ())) (
  HM.bind (α := Nat) (HM.new (.cells #[] 158)) fun x1 =>
  HM.bind (α := Slc) (HM.append 158 7 80 #[.int .i64 0, .string (ByteArray.mk #[]), .string (ByteArray.mk #[]), .int .i64 0, .bool false, .string (ByteArray.mk #[]), .bool false] (⟨some ⟨x1, 0, none⟩, 0, 0⟩) p0.len (srcSlc 7 p0)) fun x2 =>
  HM.pure (x2, ()))
theorem slices_Clone_Flight_den (p0 : Slc) : denFn Tryz.prog [] 8 [0, 2, 4] [0, 4] Tryz.f95.results.toList [.one .slc] (bodyOf Tryz.f95) [Kind.val (.one .slc) p0] = slices_Clone_Flight p0 := by kernel_rfl
theorem slices_Clone_Flight_calls (p0 : Slc) (h : Heap) (Q : Value → Heap → Prop) (hh : slices_Clone_Flight p0 h fun x h' => Q (.slice x.1.a x.1.len x.1.cap) h') :
    HCalls Tryz.prog 95 #[.slice p0.a p0.len p0.cap] h Q :=
  calls_of_eq Tryz.func95 (by kernel_rfl) Tryz.ntmps95 (by kernel_rfl) CN orders (slices_Clone_Flight_den p0) hh
def slices_Clone_Message (p0 : Slc) : HM (Slc × Unit) :=
  HM.ite (Option.isNone p0.a) (
  HM.pure (⟨none, 0, 0⟩, ())) (
  HM.bind (α := Nat) (HM.new (.cells #[] 50)) fun x1 =>
  HM.bind (α := Slc) (HM.append 50 5 64 #[.string (ByteArray.mk #[]), .string (ByteArray.mk #[]), .int .i64 0, .bool false, .string (ByteArray.mk #[])] (⟨some ⟨x1, 0, none⟩, 0, 0⟩) p0.len (srcSlc 5 p0)) fun x2 =>
  HM.pure (x2, ()))
theorem slices_Clone_Message_den (p0 : Slc) : denFn Tryz.prog [] 8 [0, 2, 4] [0, 4] Tryz.f96.results.toList [.one .slc] (bodyOf Tryz.f96) [Kind.val (.one .slc) p0] = slices_Clone_Message p0 := by kernel_rfl
theorem slices_Clone_Message_calls (p0 : Slc) (h : Heap) (Q : Value → Heap → Prop) (hh : slices_Clone_Message p0 h fun x h' => Q (.slice x.1.a x.1.len x.1.cap) h') :
    HCalls Tryz.prog 96 #[.slice p0.a p0.len p0.cap] h Q :=
  calls_of_eq Tryz.func96 (by kernel_rfl) Tryz.ntmps96 (by kernel_rfl) CN orders (slices_Clone_Message_den p0) hh
def remap_Rule_turned (p0 : ByteArray × Int × Int × ByteArray × ByteArray × Unit) (p1 : ByteArray) (p2 : ByteArray) (p3 : ByteArray) : HM (ByteArray × Bool × Unit) :=
  HM.bind (α := Nat) (HM.new (.cells #[.string p0.1, .int .i64 p0.2.1, .int .i64 p0.2.2.1, .string p0.2.2.2.1, .string p0.2.2.2.2.1] 123)) fun x1 =>
  HM.bind (α := ByteArray × Bool × Unit) (HM.callN Tryz.prog [.one .str, .one .bool] 141 #[.string p1, .string p2]) fun x2 =>
  HM.bind (α := Bool × Unit) (HM.ite (!x2.2.1) (
  HM.pure (true, ())) (
  HM.bind (α := ByteArray × Int × Int × ByteArray × ByteArray × Unit) (HM.loadN [.str, .int .i64, .int .i64, .str, .str] ⟨x1, 0, none⟩) fun x3 =>
  HM.bind (α := Int) (HM.call1 Tryz.prog (.one (.int .u8)) 36 #[.agg #[.string x3.1, .int .i64 x3.2.1, .int .i64 x3.2.2.1, .string x3.2.2.2.1, .string x3.2.2.2.2.1]]) fun x4 =>
  HM.ite (!(x4 == 0)) (
  HM.pure (true, ())) (
  HM.bind (α := ByteArray) (HM.load1 .str (Addr.add ⟨x1, 0, none⟩ 0)) fun x5 =>
  HM.bind (α := Bool) (HM.call1 Tryz.prog (.one .bool) 142 #[.string x5, .string x2.1]) fun x6 =>
  HM.ite (!x6) (
  HM.pure (true, ())) (
  HM.bind (α := Int) (HM.call1 Tryz.prog (.one (.int .u8)) 110 #[.string p1]) fun x7 =>
  HM.ite (!(x7 == 0)) (
  HM.pure (true, ())) (
  HM.req (ByteArray.size p3 + ByteArray.size x2.1 ≤ 9223372036854775807) <|
  HM.bind (α := Int) (HM.call1 Tryz.prog (.one (.int .u8)) 110 #[.string (p3 ++ x2.1)]) fun x8 =>
  HM.pure (!(x8 == 0), ())))))) fun x9 =>
  HM.ite x9.1 (
  HM.pure (ByteArray.mk #[], false, ())) (
  HM.req (ByteArray.size p3 + ByteArray.size x2.1 ≤ 9223372036854775807) <|
  HM.pure (p3 ++ x2.1, true, ()))
theorem remap_Rule_turned_den (p0 : ByteArray × Int × Int × ByteArray × ByteArray × Unit) (p1 : ByteArray) (p2 : ByteArray) (p3 : ByteArray) : denFn Tryz.prog [141, 36, 142, 110] 47 [0, 1, 2, 3, 4, 8, 9, 10, 11, 43] [0, 1, 2, 3, 4, 10, 11, 43] Tryz.f97.results.toList [.one .str, .one .bool] (bodyOf Tryz.f97) [Kind.val (.agg [.str, .int .i64, .int .i64, .str, .str]) p0, Kind.val (.one .str) p1, Kind.val (.one .str) p2, Kind.val (.one .str) p3] = remap_Rule_turned p0 p1 p2 p3 := by kernel_rfl
theorem remap_Rule_turned_calls (p0 : ByteArray × Int × Int × ByteArray × ByteArray × Unit) (p1 : ByteArray) (p2 : ByteArray) (p3 : ByteArray) (h : Heap) (Q : Value → Heap → Prop) (hh : remap_Rule_turned p0 p1 p2 p3 h fun x h' => Q (.tuple #[.string x.1, .bool x.2.1]) h') :
    HCalls Tryz.prog 97 #[.agg #[.string p0.1, .int .i64 p0.2.1, .int .i64 p0.2.2.1, .string p0.2.2.2.1, .string p0.2.2.2.2.1], .string p1, .string p2, .string p3] h Q :=
  calls_of_eq Tryz.func97 (by kernel_rfl) Tryz.ntmps97 (by kernel_rfl) (CC Tryz.call141 (CC Tryz.call36 (CC Tryz.call142 (CC Tryz.call110 CN)))) orders (remap_Rule_turned_den p0 p1 p2 p3) hh
def tags_Tag_good (p0 : Int × Int × Unit) : HM (Bool × Unit) :=
  HM.bind (α := Nat) (HM.new (.cells #[.int .i64 p0.1, .int .i64 p0.2.1] 47)) fun x1 =>
  HM.bind (α := Bool × Unit) (HM.bind (α := Int) (HM.load1 (.int .i64) (Addr.add ⟨x1, 0, none⟩ 0)) fun x2 =>
  HM.ite (decide (0 ≤ (x2 : Int))) (
  HM.bind (α := Int) (HM.load1 (.int .i64) (Addr.add ⟨x1, 0, none⟩ 0)) fun x3 =>
  HM.ite (decide (x3 < (8 : Int))) (
  HM.bind (α := Int) (HM.load1 (.int .i64) (Addr.add ⟨x1, 0, none⟩ 1)) fun x4 =>
  HM.ite (decide (1 ≤ (x4 : Int))) (
  HM.bind (α := Int) (HM.load1 (.int .i64) (Addr.add ⟨x1, 0, none⟩ 1)) fun x5 =>
  HM.pure (decide (x5 ≤ (9007199254740992 : Int)), ())) (
  HM.pure (false, ()))) (
  HM.pure (false, ()))) (
  HM.pure (false, ()))) fun x6 =>
  HM.pure (x6.1, ())
theorem tags_Tag_good_den (p0 : Int × Int × Unit) : denFn Tryz.prog [] 21 [0, 1, 2] [0, 1] Tryz.f98.results.toList [.one .bool] (bodyOf Tryz.f98) [Kind.val (.agg [.int .i64, .int .i64]) p0] = tags_Tag_good p0 := by kernel_rfl
theorem tags_Tag_good_calls (p0 : Int × Int × Unit) (h : Heap) (Q : Value → Heap → Prop) (hh : tags_Tag_good p0 h fun x h' => Q (.bool x.1) h') :
    HCalls Tryz.prog 98 #[.agg #[.int .i64 p0.1, .int .i64 p0.2.1]] h Q :=
  calls_of_eq Tryz.func98 (by kernel_rfl) Tryz.ntmps98 (by kernel_rfl) CN orders (tags_Tag_good_den p0) hh
def ref16_Good (p0 : Int × Int × Unit) : HM (Bool × Unit) :=
  HM.bind (α := Nat) (HM.new (.cells #[.int .i64 p0.1, .int .i64 p0.2.1] 53)) fun x1 =>
  HM.bind (α := Bool × Unit) (HM.bind (α := Int) (HM.load1 (.int .i64) (Addr.add ⟨x1, 0, none⟩ 0)) fun x2 =>
  HM.ite (decide (0 ≤ (x2 : Int))) (
  HM.bind (α := Int) (HM.load1 (.int .i64) (Addr.add ⟨x1, 0, none⟩ 0)) fun x3 =>
  HM.ite (decide (x3 < (8 : Int))) (
  HM.bind (α := Int) (HM.load1 (.int .i64) (Addr.add ⟨x1, 0, none⟩ 1)) fun x4 =>
  HM.ite (decide (0 < (x4 : Int))) (
  HM.bind (α := Int) (HM.load1 (.int .i64) (Addr.add ⟨x1, 0, none⟩ 1)) fun x5 =>
  HM.pure (decide (x5 ≤ (9007199254740992 : Int)), ())) (
  HM.pure (false, ()))) (
  HM.pure (false, ()))) (
  HM.pure (false, ()))) fun x6 =>
  HM.pure (x6.1, ())
theorem ref16_Good_den (p0 : Int × Int × Unit) : denFn Tryz.prog [] 21 [0, 1, 2] [0, 1] Tryz.f106.results.toList [.one .bool] (bodyOf Tryz.f106) [Kind.val (.agg [.int .i64, .int .i64]) p0] = ref16_Good p0 := by kernel_rfl
theorem ref16_Good_calls (p0 : Int × Int × Unit) (h : Heap) (Q : Value → Heap → Prop) (hh : ref16_Good p0 h fun x h' => Q (.bool x.1) h') :
    HCalls Tryz.prog 106 #[.agg #[.int .i64 p0.1, .int .i64 p0.2.1]] h Q :=
  calls_of_eq Tryz.func106 (by kernel_rfl) Tryz.ntmps106 (by kernel_rfl) CN orders (ref16_Good_den p0) hh
def topic_sized (p0 : ByteArray) : HM (Bool × Unit) :=
  HM.bind (α := Int × Bool × Unit) (HM.callN Tryz.prog [.one (.int .i64), .one .bool] 157 #[.string p0]) fun x1 =>
  HM.bind (α := Bool × Unit) (HM.ite (!x1.2.1) (
  HM.ite (!(decide (p0 = (ByteArray.mk #[])))) (
  HM.ite (decide (((ByteArray.size p0 : Nat) : Int) ≤ (256 : Int))) (
  HM.bind (α := Int) (HM.call1 Tryz.prog (.one (.int .i64)) 150 #[.string p0, .string (ByteArray.mk #[47])]) fun x2 =>
  HM.pure (decide (x2 < (32 : Int)), ())) (
  HM.pure (false, ()))) (
  HM.pure (false, ()))) (
  HM.pure (false, ()))) fun x3 =>
  HM.pure (x3.1, ())
theorem topic_sized_den (p0 : ByteArray) : denFn Tryz.prog [157, 150] 26 [0, 2, 4] [0, 4] Tryz.f107.results.toList [.one .bool] (bodyOf Tryz.f107) [Kind.val (.one .str) p0] = topic_sized p0 := by kernel_rfl
theorem topic_sized_calls (p0 : ByteArray) (h : Heap) (Q : Value → Heap → Prop) (hh : topic_sized p0 h fun x h' => Q (.bool x.1) h') :
    HCalls Tryz.prog 107 #[.string p0] h Q :=
  calls_of_eq Tryz.func107 (by kernel_rfl) Tryz.ntmps107 (by kernel_rfl) (CC Tryz.call157 (CC Tryz.call150 CN)) orders (topic_sized_den p0) hh
def topic_Levels (p0 : ByteArray) : HM (Slc × Unit) :=
  HM.bind (α := Slc) (HM.call1 Tryz.prog (.one .slc) 61 #[.string p0, .string (ByteArray.mk #[47])]) fun x1 =>
  HM.pure (x1, ())
theorem topic_Levels_den (p0 : ByteArray) : denFn Tryz.prog [61] 5 [0, 2] [0] Tryz.f108.results.toList [.one .slc] (bodyOf Tryz.f108) [Kind.val (.one .str) p0] = topic_Levels p0 := by kernel_rfl
theorem topic_Levels_calls (p0 : ByteArray) (h : Heap) (Q : Value → Heap → Prop) (hh : topic_Levels p0 h fun x h' => Q (.slice x.1.a x.1.len x.1.cap) h') :
    HCalls Tryz.prog 108 #[.string p0] h Q :=
  calls_of_eq Tryz.func108 (by kernel_rfl) Tryz.ntmps108 (by kernel_rfl) (CC Tryz.call61 CN) orders (topic_Levels_den p0) hh
def topic_CheckName (p0 : ByteArray) : HM (Int × Unit) :=
  HM.bind (α := Bool × Unit) (HM.bind (α := Bool) (HM.call1 Tryz.prog (.one .bool) 107 #[.string p0]) fun x1 =>
  HM.ite (!x1) (
  HM.pure (true, ())) (
  HM.bind (α := Bool) (HM.call1 Tryz.prog (.one .bool) 109 #[.string p0, .string (ByteArray.mk #[43])]) fun x2 =>
  HM.ite x2 (
  HM.pure (true, ())) (
  HM.bind (α := Bool) (HM.call1 Tryz.prog (.one .bool) 109 #[.string p0, .string (ByteArray.mk #[35])]) fun x3 =>
  HM.pure (x3, ())))) fun x4 =>
  HM.ite x4.1 (
  HM.pure (144, ())) (
  HM.pure (0, ()))
theorem topic_CheckName_den (p0 : ByteArray) : denFn Tryz.prog [107, 109] 14 [0, 2, 13] [0, 13] Tryz.f110.results.toList [.one (.int .u8)] (bodyOf Tryz.f110) [Kind.val (.one .str) p0] = topic_CheckName p0 := by kernel_rfl
theorem topic_CheckName_calls (p0 : ByteArray) (h : Heap) (Q : Value → Heap → Prop) (hh : topic_CheckName p0 h fun x h' => Q (.int .u8 x.1) h') :
    HCalls Tryz.prog 110 #[.string p0] h Q :=
  calls_of_eq Tryz.func110 (by kernel_rfl) Tryz.ntmps110 (by kernel_rfl) (CC Tryz.call107 (CC Tryz.call109 CN)) orders (topic_CheckName_den p0) hh
def ref07_sized (p0 : ByteArray) : HM (Bool × Unit) :=
  HM.bind (α := Int × Bool × Unit) (HM.callN Tryz.prog [.one (.int .i64), .one .bool] 158 #[.string p0]) fun x1 =>
  HM.bind (α := Bool × Unit) (HM.ite x1.2.1 (
  HM.pure (true, ())) (
  HM.ite (((ByteArray.size p0 : Nat) : Int) == 0) (
  HM.pure (true, ())) (
  HM.pure (decide (256 < (((ByteArray.size p0 : Nat) : Int) : Int)), ())))) fun x2 =>
  HM.ite x2.1 (
  HM.pure (false, ())) (
  HM.bind (α := Slc) (HM.call1 Tryz.prog (.one .slc) 112 #[.string p0]) fun x3 =>
  HM.pure (decide (((x3.len : Nat) : Int) ≤ (32 : Int)), ()))
theorem ref07_sized_den (p0 : ByteArray) : denFn Tryz.prog [158, 112] 27 [0, 2, 4, 5, 21] [0, 4, 5, 21] Tryz.f111.results.toList [.one .bool] (bodyOf Tryz.f111) [Kind.val (.one .str) p0] = ref07_sized p0 := by kernel_rfl
theorem ref07_sized_calls (p0 : ByteArray) (h : Heap) (Q : Value → Heap → Prop) (hh : ref07_sized p0 h fun x h' => Q (.bool x.1) h') :
    HCalls Tryz.prog 111 #[.string p0] h Q :=
  calls_of_eq Tryz.func111 (by kernel_rfl) Tryz.ntmps111 (by kernel_rfl) (CC Tryz.call158 (CC Tryz.call112 CN)) orders (ref07_sized_den p0) hh
def ref07_Levels (p0 : ByteArray) : HM (Slc × Unit) :=
  HM.bind (α := Slc × ByteArray × Int × Unit) (HM.loop (σ := Slc × ByteArray × Int × Unit) (τ := Slc × ByteArray × Int × Unit) (fun x2 =>
  HM.ite (decide (x2.2.2.1 < (((ByteArray.size p0 : Nat) : Int) : Int))) (
  HM.bind (α := Slc × ByteArray × Unit) (HM.bind (α := Int) (HM.strIdx p0 x2.2.2.1) fun x4 =>
  HM.ite (x4 == 47) (
  HM.bind (α := Nat) (HM.new (.cells #[.string x2.2.1] 9)) fun x5 =>
  HM.bind (α := Slc) (HM.append 9 1 16 #[.string (ByteArray.mk #[])] x2.1 1 (srcSlc 1 (⟨some ⟨x5, 0, none⟩, 1, 1⟩))) fun x6 =>
  HM.pure (x6, ByteArray.mk #[], ())) (
  HM.bind (α := ByteArray) (HM.substr p0 (some x2.2.2.1) (some (IntKind.wrap .i64 (x2.2.2.1 + 1)))) fun x7 =>
  HM.req (ByteArray.size x2.2.1 + ByteArray.size x7 ≤ 9223372036854775807) <|
  HM.pure (x2.1, x2.2.1 ++ x7, ()))) fun x3 =>
  HM.pure (.inl (x3.1, x3.2.1, IntKind.wrap .i64 (x2.2.2.1 + 1), ()))) (
  HM.pure (.inr (x2.1, x2.2.1, x2.2.2.1, ())))) (⟨none, 0, 0⟩, ByteArray.mk #[], 0, ())) fun x1 =>
  HM.bind (α := Nat) (HM.new (.cells #[.string x1.2.1] 9)) fun x8 =>
  HM.bind (α := Slc) (HM.append 9 1 16 #[.string (ByteArray.mk #[])] x1.1 1 (srcSlc 1 (⟨some ⟨x8, 0, none⟩, 1, 1⟩))) fun x9 =>
  HM.pure (x9, ())
theorem ref07_Levels_den (p0 : ByteArray) : denFn Tryz.prog [] 31 [0, 2, 3, 4, 5, 9, 15] [0, 3, 4, 5, 9, 15] Tryz.f112.results.toList [.one .slc] (bodyOf Tryz.f112) [Kind.val (.one .str) p0] = ref07_Levels p0 := by kernel_rfl
theorem ref07_Levels_calls (p0 : ByteArray) (h : Heap) (Q : Value → Heap → Prop) (hh : ref07_Levels p0 h fun x h' => Q (.slice x.1.a x.1.len x.1.cap) h') :
    HCalls Tryz.prog 112 #[.string p0] h Q :=
  calls_of_eq Tryz.func112 (by kernel_rfl) Tryz.ntmps112 (by kernel_rfl) CN orders (ref07_Levels_den p0) hh
def ref07_has (p0 : ByteArray) (p1 : Int) : HM (Bool × Unit) :=
  HM.bind (α := (Int × Unit) ⊕ (Bool × Unit)) (HM.loop (σ := Int × Unit) (τ := (Int × Unit) ⊕ (Bool × Unit)) (fun x2 =>
  HM.ite (decide (x2.1 < (((ByteArray.size p0 : Nat) : Int) : Int))) (
  HM.bind (α := Int) (HM.strIdx p0 x2.1) fun x3 =>
  HM.ite (x3 == p1) (
  HM.pure (.inr (.inr (true, ())))) (
  HM.pure (.inl (IntKind.wrap .i64 (x2.1 + 1), ())))) (
  HM.pure (.inr (.inl (x2.1, ()))))) (0, ())) (Sum.elim (fun x1 =>
  HM.pure (false, ())) HM.pure)
theorem ref07_has_den (p0 : ByteArray) (p1 : Int) : denFn Tryz.prog [] 17 [0, 1, 4, 5, 9, 16] [0, 1, 5, 9, 16] Tryz.f113.results.toList [.one .bool] (bodyOf Tryz.f113) [Kind.val (.one .str) p0, Kind.val (.one (.int .u8)) p1] = ref07_has p0 p1 := by kernel_rfl
theorem ref07_has_calls (p0 : ByteArray) (p1 : Int) (h : Heap) (Q : Value → Heap → Prop) (hh : ref07_has p0 p1 h fun x h' => Q (.bool x.1) h') :
    HCalls Tryz.prog 113 #[.string p0, .int .u8 p1] h Q :=
  calls_of_eq Tryz.func113 (by kernel_rfl) Tryz.ntmps113 (by kernel_rfl) CN orders (ref07_has_den p0 p1) hh
def ref10_joined (p0 : ByteArray × Int × Int × ByteArray × ByteArray × Unit) (p1 : ByteArray) (p2 : ByteArray) (p3 : ByteArray) : HM (ByteArray × Bool × Unit) :=
  HM.bind (α := Nat) (HM.new (.cells #[.string p0.1, .int .i64 p0.2.1, .int .i64 p0.2.2.1, .string p0.2.2.2.1, .string p0.2.2.2.2.1] 128)) fun x1 =>
  HM.bind (α := ByteArray × Int × Int × ByteArray × ByteArray × Unit) (HM.loadN [.str, .int .i64, .int .i64, .str, .str] ⟨x1, 0, none⟩) fun x2 =>
  HM.bind (α := Int) (HM.call1 Tryz.prog (.one (.int .i64)) 39 #[.agg #[.string x2.1, .int .i64 x2.2.1, .int .i64 x2.2.2.1, .string x2.2.2.2.1, .string x2.2.2.2.2.1]]) fun x3 =>
  HM.bind (α := Bool × Unit) (HM.ite (!(x3 == 0)) (
  HM.pure (true, ())) (
  HM.ite (decide (((ByteArray.size p1 : Nat) : Int) < (((ByteArray.size p2 : Nat) : Int) : Int))) (
  HM.pure (true, ())) (
  HM.bind (α := ByteArray) (HM.substr p1 none (some ((ByteArray.size p2 : Nat) : Int))) fun x4 =>
  HM.pure (!(decide (x4 = p2)), ())))) fun x5 =>
  HM.ite x5.1 (
  HM.pure (ByteArray.mk #[], false, ())) (
  HM.bind (α := ByteArray) (HM.substr p1 (some ((ByteArray.size p2 : Nat) : Int)) none) fun x6 =>
  HM.bind (α := ByteArray) (HM.load1 .str (Addr.add ⟨x1, 0, none⟩ 0)) fun x7 =>
  HM.bind (α := Bool) (HM.call1 Tryz.prog (.one .bool) 159 #[.string x7, .string x6]) fun x8 =>
  HM.bind (α := Int) (HM.call1 Tryz.prog (.one (.int .i64)) 70 #[.string p1]) fun x9 =>
  HM.req (ByteArray.size p3 + ByteArray.size x6 ≤ 9223372036854775807) <|
  HM.bind (α := Int) (HM.call1 Tryz.prog (.one (.int .i64)) 70 #[.string (p3 ++ x6)]) fun x10 =>
  HM.bind (α := Bool × Unit) (HM.ite (!x8) (
  HM.pure (true, ())) (
  HM.ite (!(x9 == 0)) (
  HM.pure (true, ())) (
  HM.pure (!(x10 == 0), ())))) fun x11 =>
  HM.ite x11.1 (
  HM.pure (ByteArray.mk #[], false, ())) (
  HM.req (ByteArray.size p3 + ByteArray.size x6 ≤ 9223372036854775807) <|
  HM.pure (p3 ++ x6, true, ())))
theorem ref10_joined_den (p0 : ByteArray × Int × Int × ByteArray × ByteArray × Unit) (p1 : ByteArray) (p2 : ByteArray) (p3 : ByteArray) : denFn Tryz.prog [39, 159, 70] 61 [0, 1, 2, 3, 4, 8, 9, 10, 11, 12, 13, 14, 33, 57] [0, 1, 2, 3, 4, 10, 11, 12, 13, 14, 33, 57] Tryz.f114.results.toList [.one .str, .one .bool] (bodyOf Tryz.f114) [Kind.val (.agg [.str, .int .i64, .int .i64, .str, .str]) p0, Kind.val (.one .str) p1, Kind.val (.one .str) p2, Kind.val (.one .str) p3] = ref10_joined p0 p1 p2 p3 := by kernel_rfl
theorem ref10_joined_calls (p0 : ByteArray × Int × Int × ByteArray × ByteArray × Unit) (p1 : ByteArray) (p2 : ByteArray) (p3 : ByteArray) (h : Heap) (Q : Value → Heap → Prop) (hh : ref10_joined p0 p1 p2 p3 h fun x h' => Q (.tuple #[.string x.1, .bool x.2.1]) h') :
    HCalls Tryz.prog 114 #[.agg #[.string p0.1, .int .i64 p0.2.1, .int .i64 p0.2.2.1, .string p0.2.2.2.1, .string p0.2.2.2.2.1], .string p1, .string p2, .string p3] h Q :=
  calls_of_eq Tryz.func114 (by kernel_rfl) Tryz.ntmps114 (by kernel_rfl) (CC Tryz.call39 (CC Tryz.call159 (CC Tryz.call70 CN))) orders (ref10_joined_den p0 p1 p2 p3) hh
def ids_Pool_Free (p0 : Option Addr) (p1 : Int) : HM (Bool × Unit) :=
  HM.bind (α := Bool × Unit) (HM.ite (Option.isNone p0) (
  HM.pure (true, ())) (
  HM.bind (α := Addr) (HM.nonnil p0) fun x1 =>
  HM.bind (α := Option Nat) (HM.load1 .map (Addr.add x1 2)) fun x2 =>
  HM.bind (α := Bool × Bool) (HM.lookup (Instr.sameNow (.int .i64)) (.bool false) (.one .bool) x2 (.int .i64 p1)) fun x3 =>
  HM.pure (!x3.1, ()))) fun x4 =>
  HM.ite x4.1 (
  HM.pure (false, ())) (
  HM.bind (α := Addr) (HM.nonnil p0) fun x5 =>
  HM.bind (α := Option Nat) (HM.load1 .map (Addr.add x5 2)) fun x6 =>
  HM.bind (α := Unit) (HM.mapDel (Instr.sameNow (.int .i64)) x6 (.int .i64 p1)) fun _ =>
  HM.pure (true, ()))
theorem ids_Pool_Free_den (p0 : Option Addr) (p1 : Int) : denFn Tryz.prog [] 21 [0, 1, 4, 15] [0, 1, 15] Tryz.f115.results.toList [.one .bool] (bodyOf Tryz.f115) [Kind.val (.one .ptr) p0, Kind.val (.one (.int .i64)) p1] = ids_Pool_Free p0 p1 := by kernel_rfl
theorem ids_Pool_Free_calls (p0 : Option Addr) (p1 : Int) (h : Heap) (Q : Value → Heap → Prop) (hh : ids_Pool_Free p0 p1 h fun x h' => Q (.bool x.1) h') :
    HCalls Tryz.prog 115 #[.pointer p0, .int .i64 p1] h Q :=
  calls_of_eq Tryz.func115 (by kernel_rfl) Tryz.ntmps115 (by kernel_rfl) CN orders (ids_Pool_Free_den p0 p1) hh
def slices_Delete (p0 : Slc) (p1 : Int) (p2 : Int) : HM (Slc × Unit) :=
  HM.bind (α := Slc) (HM.slice p0 (some p1) (some p2) (some ((p0.len : Nat) : Int)) 7) fun x1 =>
  HM.ite (p1 == p2) (
  HM.pure (p0, ())) (
  HM.bind (α := Slc) (HM.slice p0 none (some p1) none 7) fun x2 =>
  HM.bind (α := Slc) (HM.slice p0 (some p2) none none 7) fun x3 =>
  HM.bind (α := Slc) (HM.append 158 7 80 #[.int .i64 0, .string (ByteArray.mk #[]), .string (ByteArray.mk #[]), .int .i64 0, .bool false, .string (ByteArray.mk #[]), .bool false] x2 x3.len (srcSlc 7 x3)) fun x4 =>
  HM.bind (α := Slc) (HM.slice x4 (some ((x4.len : Nat) : Int)) (some ((p0.len : Nat) : Int)) none 7) fun x5 =>
  HM.bind (α := Unit) (HM.clearS #[.int .i64 0, .string (ByteArray.mk #[]), .string (ByteArray.mk #[]), .int .i64 0, .bool false, .string (ByteArray.mk #[]), .bool false] x5) fun _ =>
  HM.pure (x4, ()))
theorem slices_Delete_den (p0 : Slc) (p1 : Int) (p2 : Int) : denFn Tryz.prog [] 33 [0, 1, 2, 6, 7, 16] [0, 1, 2, 7, 16] Tryz.f116.results.toList [.one .slc] (bodyOf Tryz.f116) [Kind.val (.one .slc) p0, Kind.val (.one (.int .i64)) p1, Kind.val (.one (.int .i64)) p2] = slices_Delete p0 p1 p2 := by kernel_rfl
theorem slices_Delete_calls (p0 : Slc) (p1 : Int) (p2 : Int) (h : Heap) (Q : Value → Heap → Prop) (hh : slices_Delete p0 p1 p2 h fun x h' => Q (.slice x.1.a x.1.len x.1.cap) h') :
    HCalls Tryz.prog 116 #[.slice p0.a p0.len p0.cap, .int .i64 p1, .int .i64 p2] h Q :=
  calls_of_eq Tryz.func116 (by kernel_rfl) Tryz.ntmps116 (by kernel_rfl) CN orders (slices_Delete_den p0 p1 p2) hh
def ids_Pool_Take (p0 : Option Addr) : HM (Int × Int × Unit) :=
  HM.ite (Option.isNone p0) (
  HM.pure (0, 128, ())) (
  HM.bind (α := Int) (HM.call1 Tryz.prog (.one (.int .i64)) 160 #[.pointer p0]) fun x1 =>
  HM.ite (x1 == 0) (
  HM.pure (0, 147, ())) (
  HM.bind (α := Unit) (HM.loop (σ := Unit) (τ := Unit) (fun x3 =>
  HM.bind (α := Addr) (HM.nonnil p0) fun x4 =>
  HM.bind (α := Int) (HM.load1 (.int .i64) (Addr.add x4 1)) fun x5 =>
  HM.req (65535 ≠ (0 : Int)) <|
  HM.bind (α := Addr) (HM.nonnil p0) fun x6 =>
  HM.bind (α := Unit) (HM.store1 (Addr.add x6 1) (.int .i64 (IntKind.wrap .i64 ((Int.tmod x5 65535) + 1)))) fun _ =>
  HM.bind (α := Addr) (HM.nonnil p0) fun x7 =>
  HM.bind (α := Option Nat) (HM.load1 .map (Addr.add x7 2)) fun x8 =>
  HM.bind (α := Addr) (HM.nonnil p0) fun x9 =>
  HM.bind (α := Int) (HM.load1 (.int .i64) (Addr.add x9 1)) fun x10 =>
  HM.bind (α := Bool × Bool) (HM.lookup (Instr.sameNow (.int .i64)) (.bool false) (.one .bool) x8 (.int .i64 x10)) fun x11 =>
  HM.ite (!x11.1) (
  HM.pure (.inr ())) (
  HM.pure (.inl ()))) ()) fun x2 =>
  HM.bind (α := Addr) (HM.nonnil p0) fun x12 =>
  HM.bind (α := Option Nat) (HM.load1 .map (Addr.add x12 2)) fun x13 =>
  HM.bind (α := Addr) (HM.nonnil p0) fun x14 =>
  HM.bind (α := Int) (HM.load1 (.int .i64) (Addr.add x14 1)) fun x15 =>
  HM.bind (α := Unit) (HM.mapSet (Instr.sameNow (.int .i64)) x13 (.int .i64 x15) (.bool true)) fun _ =>
  HM.bind (α := Addr) (HM.nonnil p0) fun x16 =>
  HM.bind (α := Int) (HM.load1 (.int .i64) (Addr.add x16 1)) fun x17 =>
  HM.pure (x17, 0, ())))
theorem ids_Pool_Take_den (p0 : Option Addr) : denFn Tryz.prog [160] 42 [0, 2, 3, 4, 7, 29] [0, 4, 7, 29] Tryz.f117.results.toList [.one (.int .i64), .one (.int .u8)] (bodyOf Tryz.f117) [Kind.val (.one .ptr) p0] = ids_Pool_Take p0 := by kernel_rfl
theorem ids_Pool_Take_calls (p0 : Option Addr) (h : Heap) (Q : Value → Heap → Prop) (hh : ids_Pool_Take p0 h fun x h' => Q (.tuple #[.int .i64 x.1, .int .u8 x.2.1]) h') :
    HCalls Tryz.prog 117 #[.pointer p0] h Q :=
  calls_of_eq Tryz.func117 (by kernel_rfl) Tryz.ntmps117 (by kernel_rfl) (CC Tryz.call160 CN) orders (ids_Pool_Take_den p0) hh
def ref13_In (p0 : Option Addr) (p1 : Int) : HM (Bool × Unit) :=
  HM.bind (α := (Int × Unit) ⊕ (Bool × Unit)) (HM.loop (σ := Int × Unit) (τ := (Int × Unit) ⊕ (Bool × Unit)) (fun x2 =>
  HM.bind (α := Addr) (HM.nonnil p0) fun x3 =>
  HM.bind (α := Slc) (HM.load1 .slc (Addr.add x3 2)) fun x4 =>
  HM.ite (decide (x2.1 < (((x4.len : Nat) : Int) : Int))) (
  HM.bind (α := Addr) (HM.nonnil p0) fun x5 =>
  HM.bind (α := Slc) (HM.load1 .slc (Addr.add x5 2)) fun x6 =>
  HM.bind (α := Addr) (HM.idx x6.a x6.len x2.1 1) fun x7 =>
  HM.bind (α := Int) (HM.load1 (.int .i64) x7) fun x8 =>
  HM.ite (x8 == p1) (
  HM.pure (.inr (.inr (true, ())))) (
  HM.pure (.inl (IntKind.wrap .i64 (x2.1 + 1), ())))) (
  HM.pure (.inr (.inl (x2.1, ()))))) (0, ())) (Sum.elim (fun x1 =>
  HM.pure (false, ())) HM.pure)
theorem ref13_In_den (p0 : Option Addr) (p1 : Int) : denFn Tryz.prog [] 24 [0, 1, 4, 5, 12, 23] [0, 1, 5, 12, 23] Tryz.f118.results.toList [.one .bool] (bodyOf Tryz.f118) [Kind.val (.one .ptr) p0, Kind.val (.one (.int .i64)) p1] = ref13_In p0 p1 := by kernel_rfl
theorem ref13_In_calls (p0 : Option Addr) (p1 : Int) (h : Heap) (Q : Value → Heap → Prop) (hh : ref13_In p0 p1 h fun x h' => Q (.bool x.1) h') :
    HCalls Tryz.prog 118 #[.pointer p0, .int .i64 p1] h Q :=
  calls_of_eq Tryz.func118 (by kernel_rfl) Tryz.ntmps118 (by kernel_rfl) CN orders (ref13_In_den p0 p1) hh
def ref13_put (p0 : Option Addr) (p1 : Int) : HM (Unit) :=
  HM.bind (α := Bool × Slc × Int × Unit) (HM.loop (σ := Bool × Slc × Int × Unit) (τ := Bool × Slc × Int × Unit) (fun x2 =>
  HM.bind (α := Addr) (HM.nonnil p0) fun x3 =>
  HM.bind (α := Slc) (HM.load1 .slc (Addr.add x3 2)) fun x4 =>
  HM.ite (decide (x2.2.2.1 < (((x4.len : Nat) : Int) : Int))) (
  HM.bind (α := Bool × Unit) (HM.ite (!x2.1) (
  HM.bind (α := Addr) (HM.nonnil p0) fun x5 =>
  HM.bind (α := Slc) (HM.load1 .slc (Addr.add x5 2)) fun x6 =>
  HM.bind (α := Addr) (HM.idx x6.a x6.len x2.2.2.1 1) fun x7 =>
  HM.bind (α := Int) (HM.load1 (.int .i64) x7) fun x8 =>
  HM.pure (decide (p1 < (x8 : Int)), ())) (
  HM.pure (false, ()))) fun x9 =>
  HM.bind (α := Slc × Bool × Unit) (HM.ite x9.1 (
  HM.bind (α := Nat) (HM.new (.cells #[.int .i64 p1] 3)) fun x11 =>
  HM.bind (α := Slc) (HM.append 3 1 8 #[.int .i64 0] x2.2.1 1 (srcSlc 1 (⟨some ⟨x11, 0, none⟩, 1, 1⟩))) fun x12 =>
  HM.pure (x12, true, ())) (
  HM.pure (x2.2.1, x2.1, ()))) fun x10 =>
  HM.bind (α := Addr) (HM.nonnil p0) fun x13 =>
  HM.bind (α := Slc) (HM.load1 .slc (Addr.add x13 2)) fun x14 =>
  HM.bind (α := Addr) (HM.idx x14.a x14.len x2.2.2.1 1) fun x15 =>
  HM.bind (α := Int) (HM.load1 (.int .i64) x15) fun x16 =>
  HM.bind (α := Nat) (HM.new (.cells #[.int .i64 x16] 3)) fun x17 =>
  HM.bind (α := Slc) (HM.append 3 1 8 #[.int .i64 0] x10.1 1 (srcSlc 1 (⟨some ⟨x17, 0, none⟩, 1, 1⟩))) fun x18 =>
  HM.pure (.inl (x10.2.1, x18, IntKind.wrap .i64 (x2.2.2.1 + 1), ()))) (
  HM.pure (.inr (x2.1, x2.2.1, x2.2.2.1, ())))) (false, ⟨none, 0, 0⟩, 0, ())) fun x1 =>
  HM.bind (α := Slc × Unit) (HM.ite (!x1.1) (
  HM.bind (α := Nat) (HM.new (.cells #[.int .i64 p1] 3)) fun x20 =>
  HM.bind (α := Slc) (HM.append 3 1 8 #[.int .i64 0] x1.2.1 1 (srcSlc 1 (⟨some ⟨x20, 0, none⟩, 1, 1⟩))) fun x21 =>
  HM.pure (x21, ())) (
  HM.pure (x1.2.1, ()))) fun x19 =>
  HM.bind (α := Addr) (HM.nonnil p0) fun x22 =>
  HM.bind (α := Unit) (HM.store1 (Addr.add x22 2) (.slice x19.1.a x19.1.len x19.1.cap)) fun _ =>
  HM.pure ()
theorem ref13_put_den (p0 : Option Addr) (p1 : Int) : denFn Tryz.prog [] 53 [0, 1, 4, 5, 6, 13, 28, 44] [0, 1, 4, 5, 6, 13, 28, 44] Tryz.f119.results.toList [] (bodyOf Tryz.f119) [Kind.val (.one .ptr) p0, Kind.val (.one (.int .i64)) p1] = ref13_put p0 p1 := by kernel_rfl
theorem ref13_put_calls (p0 : Option Addr) (p1 : Int) (h : Heap) (Q : Value → Heap → Prop) (hh : ref13_put p0 p1 h fun x h' => Q (.tuple #[]) h') :
    HCalls Tryz.prog 119 #[.pointer p0, .int .i64 p1] h Q :=
  calls_of_eq Tryz.func119 (by kernel_rfl) Tryz.ntmps119 (by kernel_rfl) CN orders (ref13_put_den p0 p1) hh
end Go.Proofs.YtfhalebbcbgbdaaGreatDoor
