/-
  QBrokerNil2: what the proof BrokerNilProof reaches of our texts: Sg, Sh, Ku8, Cu8, Cchr, Ltop, Kcnt, Hk, Hl, Ctop, D09, Hlp, Hv, Hu, Hwp, Cids, Cout, Cpk.
-/
import Derived.Test.YtidlldnlphdhcaaGreatDoorQBrokerNil1
import Derived.Test.YtidlldnlphdhcaaGreatDoorProg
import Derived.KernelRfl
import Derived.Shelf.Unicode.DecodeAny
import Derived.Shelf.Unicode.DecodeLastEight
import Derived.Lib.DecodeN
import Derived.Lib.Split
import Derived.Lib.SplitLaws
import Derived.Lib.IndexBytes
import Derived.Shelf.Strings.Split
import Derived.Shelf.Strings.Count
import Derived.Shelf.SlIterI.Nil
import Derived.Shelf.SortM.Plain
import Derived.Shelf.SortM.SortNone
import Derived.Shelf.SlIter.Nil
import Derived.Test.YtidlldnlphdhcaaGreatDoorRows
import Derived.Test.YtidlldnlphdhcaaGreatDoorChecked
import Derived.Shelf.Vars
import Derived.ProofKit
import Derived.LaidMore
import Derived.LaidHandle
import Derived.OpenShut
import Derived.Stop.Joined
import Derived.Lib.LaidU8T
import Derived.PinnedBridge
namespace Go.Proofs.YtidlldnlphdhcaaGreatDoor
open Go.H Go.Proofs
set_option linter.unusedVariables false
set_option linter.unusedSimpArgs false
set_option maxRecDepth 100000
set_option maxHeartbeats 4000000
def q_ec (p0 : Option Addr) (p1 : Int) (p2 : Bool) : HM (Unit) :=
  HM.bind (α := Addr) (HM.nonnil p0) fun x1 =>
  HM.bind (α := Option Addr) (HM.load1 .ptr (Addr.add x1 0)) fun x2 =>
  HM.bind (α := Addr) (HM.nonnil x2) fun x3 =>
  HM.bind (α := Option Nat) (HM.load1 .map (Addr.add x3 3)) fun x4 =>
  HM.bind (α := (yS4) × Bool) (HM.lookup (Instr.sameNow (.int .i64)) (.agg zS4) (.agg tS4) x4 (.int .i64 p1)) fun x5 =>
  HM.bind (α := Nat) (HM.new (.cells zS4 112)) fun x6 =>
  HM.bind (α := Unit) (HM.storeN ⟨x6, 0, none⟩ (lS4 x5.1)) fun _ =>
  HM.ite (!x5.2) (
  HM.pure ()) (
  HM.bind (α := Addr) (HM.nonnil p0) fun x7 =>
  HM.bind (α := Option Addr) (HM.load1 .ptr (Addr.add x7 0)) fun x8 =>
  HM.bind (α := Addr) (HM.nonnil x8) fun x9 =>
  HM.bind (α := Option Nat) (HM.load1 .map (Addr.add x9 3)) fun x10 =>
  HM.bind (α := Unit) (HM.mapDel (Instr.sameNow (.int .i64)) x10 (.int .i64 p1)) fun _ =>
  HM.bind (α := Addr) (HM.nonnil p0) fun x11 =>
  HM.bind (α := Option Addr) (HM.load1 .ptr (Addr.add x11 0)) fun x12 =>
  HM.bind (α := Addr) (HM.nonnil x12) fun x13 =>
  HM.bind (α := Option Addr) (HM.load1 .ptr (Addr.add x13 0)) fun x14 =>
  HM.bind (α := Int) (HM.load1 (.int .i64) (Addr.add ⟨x6, 0, none⟩ 0)) fun x15 =>
  HM.bind (α := Bool) (HM.call1 Tryz.prog (.one .bool) 95 #[.pointer x14, .int .i64 x15]) fun x16 =>
  HM.bind (α := Unit) (HM.ite x16 (
  HM.bind (α := Addr) (HM.nonnil p0) fun x18 =>
  HM.bind (α := Option Addr) (HM.load1 .ptr (Addr.add x18 0)) fun x19 =>
  HM.bind (α := Addr) (HM.nonnil x19) fun x20 =>
  HM.bind (α := Option Addr) (HM.load1 .ptr (Addr.add x20 1)) fun x21 =>
  HM.bind (α := Int) (HM.load1 (.int .i64) (Addr.add ⟨x6, 0, none⟩ 0)) fun x22 =>
  HM.bind (α := Int) (HM.call1 Tryz.prog (.one (.int .i64)) 71 #[.pointer x21, .int .i64 x22]) fun x23 =>
  HM.pure ()) (
  HM.pure ())) fun x17 =>
  HM.bind (α := Bool × Unit) (HM.ite p2 (
  HM.bind (α := Bool) (HM.load1 .bool (Addr.add ⟨x6, 0, none⟩ 1)) fun x24 =>
  HM.ite x24 (
  HM.bind (α := Addr) (HM.nonnil p0) fun x25 =>
  HM.bind (α := Bool) (HM.load1 .bool (Addr.add x25 1)) fun x26 =>
  HM.pure (!x26, ())) (
  HM.pure (false, ()))) (
  HM.pure (false, ()))) fun x27 =>
  HM.bind (α := Unit) (HM.ite x27.1 (
  HM.bind (α := yS7) (HM.loadN tS7 (Addr.add ⟨x6, 0, none⟩ 2)) fun x29 =>
  HM.bind (α := Unit) (HM.callN Tryz.prog [] 96 #[.pointer p0, .agg (aS7 x29)]) fun x30 =>
  HM.pure ()) (
  HM.pure ())) fun x28 =>
  HM.pure ())
theorem broker_turn_end_den (p0 : Option Addr) (p1 : Int) (p2 : Bool) : denFn Tryz.prog [95, 71, 96] 66 [0, 1, 2, 6, 7, 21, 39, 61] [0, 1, 2, 6, 7, 21, 39, 61] Tryz.f54.results.toList [] (bodyOf Tryz.f54) [Kind.val (.one .ptr) p0, Kind.val (.one (.int .i64)) p1, Kind.val (.one .bool) p2] = q_ec p0 p1 p2 := by kernel_rfl
theorem q_h9 (p0 : Option Addr) (p1 : Int) (p2 : Bool) (h : Heap) (Q : Value → Heap → Prop) (hh : q_ec p0 p1 p2 h fun x h' => Q (.tuple #[]) h') :
    HCalls Tryz.prog 54 #[.pointer p0, .int .i64 p1, .bool p2] h Q :=
  q_a Tryz.func54 (by kernel_rfl) Tryz.ntmps54 (by kernel_rfl) (CC Tryz.call95 (CC Tryz.call71 (CC Tryz.call96 CN))) orders (broker_turn_end_den p0 p1 p2) hh
def q_b7 (p0 : Option Addr) (p1 : ByteArray) : HM ((yS9) × Bool × Unit) :=
  HM.bind (α := Nat) (HM.new (.cells zS9 79)) fun x1 =>
  HM.bind (α := Option Addr) (HM.call1 Tryz.prog (.one .ptr) 98 #[.pointer p0, .string p1]) fun x2 =>
  HM.bind (α := (yS9) × Bool × Unit) (HM.callN Tryz.prog [.agg tS9, .one .bool] 97 #[.pointer x2]) fun x3 =>
  HM.bind (α := Unit) (HM.storeN ⟨x1, 0, none⟩ (lS9 x3.1)) fun _ =>
  HM.bind (α := yS9) (HM.loadN tS9 ⟨x1, 0, none⟩) fun x4 =>
  HM.pure ((x4.1, x4.2.1, x4.2.2.1, x4.2.2.2.1, ()), x3.2.1, ())
theorem q_gy (p0 : Option Addr) (p1 : ByteArray) : denFn Tryz.prog [98, 97] 12 [0, 1, 4, 5] [0, 1, 4] Tryz.f55.results.toList [.agg tS9, .one .bool] (bodyOf Tryz.f55) [Kind.val (.one .ptr) p0, Kind.val (.one .str) p1] = q_b7 p0 p1 := by kernel_rfl
theorem q_fc (p0 : Option Addr) (p1 : ByteArray) (h : Heap) (Q : Value → Heap → Prop) (hh : q_b7 p0 p1 h fun x h' => Q (.tuple #[.agg (aS9 x.1), .bool x.2.1]) h') :
    HCalls Tryz.prog 55 #[.pointer p0, .string p1] h Q :=
  q_a Tryz.func55 (by kernel_rfl) Tryz.ntmps55 (by kernel_rfl) (CC Tryz.call98 (CC Tryz.call97 CN)) orders (q_gy p0 p1) hh
def q_cm (p0 : Option Addr) (p1 : Int) : HM (Option Addr × Unit) :=
  HM.bind (α := Option Addr) (HM.call1 Tryz.prog (.one .ptr) 99 #[.pointer p0, .int .i64 p1]) fun x1 =>
  HM.ite (!(Option.isNone x1)) (
  HM.bind (α := Addr) (HM.nonnil x1) fun x2 =>
  HM.bind (α := Option Addr) (HM.load1 .ptr (Addr.add x2 4)) fun x3 =>
  HM.pure (x3, ())) (
  HM.pure (none, ()))
theorem q_hn (p0 : Option Addr) (p1 : Int) : denFn Tryz.prog [99] 15 [0, 1, 4, 5, 10] [0, 1, 5, 10] Tryz.f56.results.toList [.one .ptr] (bodyOf Tryz.f56) [Kind.val (.one .ptr) p0, Kind.val (.one (.int .i64)) p1] = q_cm p0 p1 := by kernel_rfl
theorem q_fv (p0 : Option Addr) (p1 : Int) (h : Heap) (Q : Value → Heap → Prop) (hh : q_cm p0 p1 h fun x h' => Q (.pointer x.1) h') :
    HCalls Tryz.prog 56 #[.pointer p0, .int .i64 p1] h Q :=
  q_a Tryz.func56 (by kernel_rfl) Tryz.ntmps56 (by kernel_rfl) (CC Tryz.call99 CN) orders (q_hn p0 p1) hh
def trie_sprout : HM (Option Addr × Unit) :=
  HM.bind (α := Nat) (HM.new (.map #[] 0)) fun x1 =>
  HM.bind (α := Nat) (HM.new (.map #[] 0)) fun x2 =>
  HM.bind (α := Nat) (HM.new (.cells #[.map (some x1), .map (some x2)] 243)) fun x3 =>
  HM.pure (some ⟨x3, 0, none⟩, ())
theorem trie_sprout_den : denFn Tryz.prog [] 5 [0] [] Tryz.f59.results.toList [.one .ptr] (bodyOf Tryz.f59) [] = trie_sprout := by kernel_rfl
theorem trie_sprout_calls (h : Heap) (Q : Value → Heap → Prop) (hh : trie_sprout h fun x h' => Q (.pointer x.1) h') :
    HCalls Tryz.prog 59 #[] h Q :=
  q_a Tryz.func59 (by kernel_rfl) Tryz.ntmps59 (by kernel_rfl) CN orders (trie_sprout_den) hh
def text_Fault (p0 : ByteArray) : HM (Int × Bool × Unit) :=
  HM.bind (α := (Int × Unit) ⊕ (Int × Bool × Unit)) (HM.loop (σ := Int × Unit) (τ := (Int × Unit) ⊕ (Int × Bool × Unit)) (fun x2 =>
  HM.ite (decide (x2.1 < (((ByteArray.size p0 : Nat) : Int) : Int))) (
  HM.bind (α := ByteArray) (HM.substr p0 (some x2.1) none) fun x3 =>
  HM.bind (α := Int) (HM.call1 Tryz.prog (.one (.int .i64)) 102 #[.string x3]) fun x4 =>
  HM.ite (x4 == 0) (
  HM.pure (.inr (.inr (x2.1, true, ())))) (
  HM.pure (.inl (IntKind.wrap .i64 (x2.1 + x4), ())))) (
  HM.pure (.inr (.inl (x2.1, ()))))) (0, ())) (Sum.elim (fun x1 =>
  HM.pure (0, false, ())) HM.pure)
theorem text_Fault_den (p0 : ByteArray) : denFn Tryz.prog [102] 20 [0, 2, 3, 4, 5, 9, 15] [0, 4, 5, 9, 15] Tryz.f60.results.toList [.one (.int .i64), .one .bool] (bodyOf Tryz.f60) [Kind.val (.one .str) p0] = text_Fault p0 := by kernel_rfl
theorem text_Fault_calls (p0 : ByteArray) (h : Heap) (Q : Value → Heap → Prop) (hh : text_Fault p0 h fun x h' => Q (.tuple #[.int .i64 x.1, .bool x.2.1]) h') :
    HCalls Tryz.prog 60 #[.string p0] h Q :=
  q_a Tryz.func60 (by kernel_rfl) Tryz.ntmps60 (by kernel_rfl) (CC Tryz.call102 CN) orders (text_Fault_den p0) hh
def q_di (p0 : Option Addr) (p1 : Int) (p2 : yS2) : HM (Unit) :=
  HM.bind (α := Nat) (HM.new (.cells (aS3 p2) 45)) fun x1 =>
  HM.bind (α := Bool × Unit) (HM.bind (α := Int) (HM.load1 (.int .i64) (Addr.add ⟨x1, 0, none⟩ 0)) fun x2 =>
  HM.ite (x2 == 3) (
  HM.bind (α := ByteArray) (HM.load1 .str (Addr.add ⟨x1, 0, none⟩ 5)) fun x3 =>
  HM.bind (α := Int) (HM.call1 Tryz.prog (.one (.int .u8)) 12 #[.string x3]) fun x4 =>
  HM.pure (!(x4 == 0), ())) (
  HM.pure (false, ()))) fun x5 =>
  HM.ite x5.1 (
  HM.bind (α := Unit) (HM.callN Tryz.prog [] 68 #[.pointer p0, .int .i64 p1, .int .u8 144]) fun x6 =>
  HM.pure ()) (
  HM.bind (α := Addr) (HM.nonnil p0) fun x7 =>
  HM.bind (α := Bool) (HM.load1 .bool (Addr.add x7 1)) fun x8 =>
  HM.bind (α := Int × Unit) (HM.ite x8 (
  HM.pure (151, ())) (
  HM.pure (0, ()))) fun x9 =>
  HM.bind (α := Addr) (HM.nonnil p0) fun x10 =>
  HM.bind (α := Option Addr) (HM.load1 .ptr (Addr.add x10 0)) fun x11 =>
  HM.bind (α := Addr) (HM.nonnil x11) fun x12 =>
  HM.bind (α := Option Nat) (HM.load1 .map (Addr.add x12 3)) fun x13 =>
  HM.bind (α := (yS4) × Bool) (HM.lookup (Instr.sameNow (.int .i64)) (.agg zS4) (.agg tS4) x13 (.int .i64 p1)) fun x14 =>
  HM.bind (α := Addr) (HM.nonnil p0) fun x15 =>
  HM.bind (α := Option Addr) (HM.load1 .ptr (Addr.add x15 0)) fun x16 =>
  HM.bind (α := Addr) (HM.nonnil x16) fun x17 =>
  HM.bind (α := Option Addr) (HM.load1 .ptr (Addr.add x17 0)) fun x18 =>
  HM.bind (α := yS2) (HM.loadN tS3 ⟨x1, 0, none⟩) fun x19 =>
  HM.bind (α := Option Addr) (HM.call1 Tryz.prog (.one .ptr) 106 #[.pointer x18, .int .i64 x14.1.1]) fun x20 =>
  HM.bind (α := yS2) (HM.loadN tS3 ⟨x1, 0, none⟩) fun x21 =>
  HM.req ((.agg (aS3 x21) : Value) = .agg (aS3 x19)) <|
  HM.bind (α := Bool × Slc × Int × Unit) (HM.callN Tryz.prog [.one .bool, .one .slc, .one (.int .u8)] 107 #[.pointer x20, .agg (aS3 x19), .int .u8 x9.1]) fun x22 =>
  HM.ite (!(x22.2.2.1 == 0)) (
  HM.bind (α := Unit) (HM.callN Tryz.prog [] 68 #[.pointer p0, .int .i64 p1, .int .u8 x22.2.2.1]) fun x23 =>
  HM.pure ()) (
  HM.bind (α := Unit) (HM.callN Tryz.prog [] 72 #[.pointer p0, .int .i64 x14.1.1, .slice x22.2.1.a x22.2.1.len x22.2.1.cap]) fun x24 =>
  HM.bind (α := Bool × Unit) (HM.ite x22.1 (
  HM.bind (α := Addr) (HM.nonnil p0) fun x25 =>
  HM.bind (α := Bool) (HM.load1 .bool (Addr.add x25 1)) fun x26 =>
  HM.pure (!x26, ())) (
  HM.pure (false, ()))) fun x27 =>
  HM.bind (α := Unit) (HM.ite x27.1 (
  HM.bind (α := ByteArray) (HM.load1 .str (Addr.add ⟨x1, 0, none⟩ 5)) fun x29 =>
  HM.bind (α := ByteArray) (HM.load1 .str (Addr.add ⟨x1, 0, none⟩ 6)) fun x30 =>
  HM.bind (α := Int) (HM.load1 (.int .i64) (Addr.add ⟨x1, 0, none⟩ 3)) fun x31 =>
  HM.bind (α := Bool) (HM.load1 .bool (Addr.add ⟨x1, 0, none⟩ 2)) fun x32 =>
  HM.bind (α := Unit) (HM.callN Tryz.prog [] 96 #[.pointer p0, .agg #[.string x29, .string x30, .int .i64 x31, .bool x32, .string (ByteArray.mk #[])]]) fun x33 =>
  HM.pure ()) (
  HM.pure ())) fun x28 =>
  HM.pure ()))
theorem q_i1 (p0 : Option Addr) (p1 : Int) (p2 : yS2) : denFn Tryz.prog [12, 68, 106, 107, 72, 96] 82 [0, 1, 2, 5, 6, 7, 8, 9, 10, 19, 26, 54, 70] [0, 1, 2, 5, 6, 7, 8, 9, 10, 19, 26, 54, 70] Tryz.f63.results.toList [] (bodyOf Tryz.f63) [Kind.val (.one .ptr) p0, Kind.val (.one (.int .i64)) p1, Kind.val (.agg tS3) p2] = q_di p0 p1 p2 := by kernel_rfl
theorem q_g4 (p0 : Option Addr) (p1 : Int) (p2 : yS2) (h : Heap) (Q : Value → Heap → Prop) (hh : q_di p0 p1 p2 h fun x h' => Q (.tuple #[]) h') :
    HCalls Tryz.prog 63 #[.pointer p0, .int .i64 p1, .agg (aS3 p2)] h Q :=
  q_a Tryz.func63 (by kernel_rfl) Tryz.ntmps63 (by kernel_rfl) (CC Tryz.call12 (CC Tryz.call68 (CC Tryz.call106 (CC Tryz.call107 (CC Tryz.call72 (CC Tryz.call96 CN)))))) orders (q_i1 p0 p1 p2) hh
def q_cf (p0 : Option Addr) (p1 : Int) (p2 : yS2) : HM (Unit) :=
  HM.bind (α := Nat) (HM.new (.cells (aS3 p2) 45)) fun x1 =>
  HM.bind (α := Addr) (HM.nonnil p0) fun x2 =>
  HM.bind (α := Option Addr) (HM.load1 .ptr (Addr.add x2 0)) fun x3 =>
  HM.bind (α := Addr) (HM.nonnil x3) fun x4 =>
  HM.bind (α := Option Nat) (HM.load1 .map (Addr.add x4 3)) fun x5 =>
  HM.bind (α := (yS4) × Bool) (HM.lookup (Instr.sameNow (.int .i64)) (.agg zS4) (.agg tS4) x5 (.int .i64 p1)) fun x6 =>
  HM.bind (α := Addr) (HM.nonnil p0) fun x7 =>
  HM.bind (α := Option Addr) (HM.load1 .ptr (Addr.add x7 0)) fun x8 =>
  HM.bind (α := Addr) (HM.nonnil x8) fun x9 =>
  HM.bind (α := Option Addr) (HM.load1 .ptr (Addr.add x9 0)) fun x10 =>
  HM.bind (α := yS2) (HM.loadN tS3 ⟨x1, 0, none⟩) fun x11 =>
  HM.bind (α := Option Addr) (HM.call1 Tryz.prog (.one .ptr) 56 #[.pointer x10, .int .i64 x6.1.1]) fun x12 =>
  HM.bind (α := yS2) (HM.loadN tS3 ⟨x1, 0, none⟩) fun x13 =>
  HM.req ((.agg (aS3 x13) : Value) = .agg (aS3 x11)) <|
  HM.bind (α := Slc × Int × Unit) (HM.callN Tryz.prog [.one .slc, .one (.int .u8)] 108 #[.pointer x12, .agg (aS3 x11)]) fun x14 =>
  HM.ite (!(x14.2.1 == 0)) (
  HM.bind (α := Unit) (HM.callN Tryz.prog [] 68 #[.pointer p0, .int .i64 p1, .int .u8 x14.2.1]) fun x15 =>
  HM.pure ()) (
  HM.bind (α := Unit) (HM.callN Tryz.prog [] 72 #[.pointer p0, .int .i64 x6.1.1, .slice x14.1.a x14.1.len x14.1.cap]) fun x16 =>
  HM.pure ())
theorem q_g9 (p0 : Option Addr) (p1 : Int) (p2 : yS2) : denFn Tryz.prog [56, 108, 68, 72] 43 [0, 1, 2, 5, 6, 7, 8, 34] [0, 1, 2, 5, 6, 7, 8, 34] Tryz.f64.results.toList [] (bodyOf Tryz.f64) [Kind.val (.one .ptr) p0, Kind.val (.one (.int .i64)) p1, Kind.val (.agg tS3) p2] = q_cf p0 p1 p2 := by kernel_rfl
theorem q_fk (p0 : Option Addr) (p1 : Int) (p2 : yS2) (h : Heap) (Q : Value → Heap → Prop) (hh : q_cf p0 p1 p2 h fun x h' => Q (.tuple #[]) h') :
    HCalls Tryz.prog 64 #[.pointer p0, .int .i64 p1, .agg (aS3 p2)] h Q :=
  q_a Tryz.func64 (by kernel_rfl) Tryz.ntmps64 (by kernel_rfl) (CC Tryz.call56 (CC Tryz.call108 (CC Tryz.call68 (CC Tryz.call72 CN)))) orders (q_g9 p0 p1 p2) hh
def q_bj (p0 : Option Addr) (p1 : Int) (p2 : yS2) : HM (Unit) :=
  HM.bind (α := Nat) (HM.new (.cells (aS3 p2) 45)) fun x1 =>
  HM.bind (α := Addr) (HM.nonnil p0) fun x2 =>
  HM.bind (α := Option Addr) (HM.load1 .ptr (Addr.add x2 0)) fun x3 =>
  HM.bind (α := Addr) (HM.nonnil x3) fun x4 =>
  HM.bind (α := Option Nat) (HM.load1 .map (Addr.add x4 3)) fun x5 =>
  HM.bind (α := (yS4) × Bool) (HM.lookup (Instr.sameNow (.int .i64)) (.agg zS4) (.agg tS4) x5 (.int .i64 p1)) fun x6 =>
  HM.bind (α := Int) (HM.load1 (.int .i64) (Addr.add ⟨x1, 0, none⟩ 4)) fun x7 =>
  HM.bind (α := Nat) (HM.new (.cells zS3 45)) fun x8 =>
  HM.bind (α := Unit) (HM.storeN ⟨x8, 0, none⟩ [.int .i64 9, .bool false, .bool false, .int .i64 0, .int .i64 x7, .string (ByteArray.mk #[]), .string (ByteArray.mk #[]), .int .u8 0, .slice none 0 0, .slice none 0 0, .string (ByteArray.mk #[]), .bool false, .int .i64 0, .bool false, .string (ByteArray.mk #[]), .string (ByteArray.mk #[]), .int .i64 0, .bool false, .slice none 0 0, .bool false, .bool false, .string (ByteArray.mk #[]), .string (ByteArray.mk #[]), .bool false, .slice none 0 0, .slice none 0 0]) fun _ =>
  HM.bind (α := Slc) (HM.load1 .slc (Addr.add ⟨x1, 0, none⟩ 24)) fun x9 =>
  HM.bind (α := Slc × Int × Unit) (HM.loop (σ := Slc × Int × Unit) (τ := Slc × Int × Unit) (fun x11 =>
  HM.ite (decide (x11.2.1 < (((x9.len : Nat) : Int) : Int))) (
  HM.bind (α := Addr) (HM.idx x9.a x9.len x11.2.1 5) fun x12 =>
  HM.bind (α := yS6) (HM.loadN tS6 x12) fun x13 =>
  HM.bind (α := Nat) (HM.new (.cells zS6 47)) fun x14 =>
  HM.bind (α := Unit) (HM.storeN ⟨x14, 0, none⟩ (lS6 x13)) fun _ =>
  HM.bind (α := Addr) (HM.nonnil p0) fun x15 =>
  HM.bind (α := Option Addr) (HM.load1 .ptr (Addr.add x15 0)) fun x16 =>
  HM.bind (α := Addr) (HM.nonnil x16) fun x17 =>
  HM.bind (α := Option Addr) (HM.load1 .ptr (Addr.add x17 1)) fun x18 =>
  HM.bind (α := ByteArray) (HM.load1 .str (Addr.add ⟨x14, 0, none⟩ 0)) fun x19 =>
  HM.bind (α := Int) (HM.load1 (.int .i64) (Addr.add ⟨x14, 0, none⟩ 1)) fun x20 =>
  HM.bind (α := Int) (HM.call1 Tryz.prog (.one (.int .u8)) 109 #[.pointer x18, .agg #[.int .i64 x6.1.1, .string x19, .int .i64 x20]]) fun x21 =>
  HM.bind (α := Slc × Int × Unit) (HM.ite (x21 == 0) (
  HM.bind (α := yS6) (HM.loadN tS6 ⟨x14, 0, none⟩) fun x23 =>
  HM.bind (α := Nat) (HM.new (.cells (aS6 x23) 47)) fun x24 =>
  HM.bind (α := Slc) (HM.append 47 5 40 zS6 x11.1 1 (srcSlc 5 (⟨some ⟨x24, 0, none⟩, 1, 1⟩))) fun x25 =>
  HM.bind (α := Int) (HM.load1 (.int .i64) (Addr.add ⟨x14, 0, none⟩ 1)) fun x26 =>
  HM.pure (x25, IntKind.wrap .u8 x26, ())) (
  HM.pure (x11.1, x21, ()))) fun x22 =>
  HM.bind (α := Slc) (HM.load1 .slc (Addr.add ⟨x8, 0, none⟩ 8)) fun x27 =>
  HM.bind (α := Nat) (HM.new (.cells #[.int .u8 x22.2.1] 30)) fun x28 =>
  HM.bind (α := Slc) (HM.append 30 1 1 #[.int .u8 0] x27 1 (srcSlc 1 (⟨some ⟨x28, 0, none⟩, 1, 1⟩))) fun x29 =>
  HM.bind (α := Unit) (HM.store1 (Addr.add ⟨x8, 0, none⟩ 8) (.slice x29.a x29.len x29.cap)) fun _ =>
  HM.pure (.inl (x22.1, IntKind.wrap .i64 (x11.2.1 + 1), ()))) (
  HM.pure (.inr (x11.1, x11.2.1, ())))) (⟨none, 0, 0⟩, 0, ())) fun x10 =>
  HM.bind (α := yS2) (HM.loadN tS3 ⟨x8, 0, none⟩) fun x30 =>
  HM.bind (α := Unit) (HM.callN Tryz.prog [] 67 #[.pointer p0, .int .i64 p1, .agg (aS3 x30)]) fun x31 =>
  HM.bind (α := Int × Unit) (HM.loop (σ := Int × Unit) (τ := Int × Unit) (fun x33 =>
  HM.ite (decide (x33.1 < (((x10.1.len : Nat) : Int) : Int))) (
  HM.bind (α := Unit) (HM.bind (α := Addr) (HM.idx x10.1.a x10.1.len x33.1 5) fun x35 =>
  HM.bind (α := yS6) (HM.loadN tS6 x35) fun x36 =>
  HM.bind (α := Nat) (HM.new (.cells zS6 47)) fun x37 =>
  HM.bind (α := Unit) (HM.storeN ⟨x37, 0, none⟩ (lS6 x36)) fun _ =>
  HM.bind (α := Int) (HM.load1 (.int .i64) (Addr.add ⟨x37, 0, none⟩ 4)) fun x38 =>
  HM.ite (x38 == 2) (
  HM.pure ()) (
  HM.bind (α := Addr) (HM.nonnil p0) fun x39 =>
  HM.bind (α := Option Addr) (HM.load1 .ptr (Addr.add x39 0)) fun x40 =>
  HM.bind (α := Addr) (HM.nonnil x40) fun x41 =>
  HM.bind (α := Option Addr) (HM.load1 .ptr (Addr.add x41 2)) fun x42 =>
  HM.bind (α := ByteArray) (HM.load1 .str (Addr.add ⟨x37, 0, none⟩ 0)) fun x43 =>
  HM.bind (α := Slc) (HM.call1 Tryz.prog (.one .slc) 110 #[.pointer x42, .string x43]) fun x44 =>
  HM.bind (α := Int × Unit) (HM.loop (σ := Int × Unit) (τ := Int × Unit) (fun x46 =>
  HM.ite (decide (x46.1 < (((x44.len : Nat) : Int) : Int))) (
  HM.bind (α := Addr) (HM.idx x44.a x44.len x46.1 3) fun x47 =>
  HM.bind (α := ByteArray × ByteArray × Int × Unit) (HM.loadN [.str, .str, .int .i64] x47) fun x48 =>
  HM.bind (α := Nat) (HM.new (.cells #[.string (ByteArray.mk #[]), .string (ByteArray.mk #[]), .int .i64 0] 204)) fun x49 =>
  HM.bind (α := Unit) (HM.storeN ⟨x49, 0, none⟩ [.string x48.1, .string x48.2.1, .int .i64 x48.2.2.1]) fun _ =>
  HM.bind (α := Addr) (HM.nonnil p0) fun x50 =>
  HM.bind (α := Option Addr) (HM.load1 .ptr (Addr.add x50 0)) fun x51 =>
  HM.bind (α := Addr) (HM.nonnil x51) fun x52 =>
  HM.bind (α := Option Addr) (HM.load1 .ptr (Addr.add x52 0)) fun x53 =>
  HM.bind (α := ByteArray) (HM.load1 .str (Addr.add ⟨x49, 0, none⟩ 0)) fun x54 =>
  HM.bind (α := ByteArray) (HM.load1 .str (Addr.add ⟨x49, 0, none⟩ 1)) fun x55 =>
  HM.bind (α := Int) (HM.load1 (.int .i64) (Addr.add ⟨x49, 0, none⟩ 2)) fun x56 =>
  HM.bind (α := Int) (HM.load1 (.int .i64) (Addr.add ⟨x37, 0, none⟩ 1)) fun x57 =>
  HM.both (
  HM.bind (α := Option Addr) (HM.call1 Tryz.prog (.one .ptr) 56 #[.pointer x53, .int .i64 x6.1.1]) fun x58 =>
  HM.bind (α := Int) (HM.load1 (.int .i64) (Addr.add ⟨x37, 0, none⟩ 1)) fun x59 =>
  HM.req ((.int .i64 x59 : Value) = .int .i64 x57) <|
  HM.bind (α := Int) (HM.load1 (.int .i64) (Addr.add ⟨x49, 0, none⟩ 2)) fun x60 =>
  HM.req ((.int .i64 x60 : Value) = .int .i64 x56) <|
  HM.bind (α := ByteArray) (HM.load1 .str (Addr.add ⟨x49, 0, none⟩ 1)) fun x61 =>
  HM.req ((.string x61 : Value) = .string x55) <|
  HM.bind (α := ByteArray) (HM.load1 .str (Addr.add ⟨x49, 0, none⟩ 0)) fun x62 =>
  HM.req ((.string x62 : Value) = .string x54) <|
  HM.bind (α := ByteArray) (HM.load1 .str (Addr.add ⟨x49, 0, none⟩ 1)) fun x63 =>
  HM.req ((.string x63 : Value) = .string x55) <|
  HM.bind (α := ByteArray) (HM.load1 .str (Addr.add ⟨x49, 0, none⟩ 0)) fun x64 =>
  HM.req ((.string x64 : Value) = .string x54) <|
  HM.bind (α := Option Addr) (HM.load1 .ptr (Addr.add x52 0)) fun x65 =>
  HM.req ((.pointer x65 : Value) = .pointer x53) <|
  HM.bind (α := Option Addr) (HM.load1 .ptr (Addr.add x50 0)) fun x66 =>
  HM.req ((.pointer x66 : Value) = .pointer x51) <|
  HM.bind (α := Slc × Int × Unit) (HM.callN Tryz.prog [.one .slc, .one (.int .u8)] 81 #[.pointer x58, .agg #[.string x54, .string x55, .int .i64 (if x57 < (x56 : Int) then x57 else x56), .bool true, .string (ByteArray.mk #[])]]) fun x67 =>
  HM.bind (α := Unit) (HM.callN Tryz.prog [] 72 #[.pointer p0, .int .i64 x6.1.1, .slice x67.1.a x67.1.len x67.1.cap]) fun x68 =>
  HM.pure (.inl (IntKind.wrap .i64 (x46.1 + 1), ()))) (
  HM.bind (α := ByteArray) (HM.load1 .str (Addr.add ⟨x49, 0, none⟩ 1)) fun x69 =>
  HM.req ((.string x69 : Value) = .string x55) <|
  HM.bind (α := ByteArray) (HM.load1 .str (Addr.add ⟨x49, 0, none⟩ 0)) fun x70 =>
  HM.req ((.string x70 : Value) = .string x54) <|
  HM.bind (α := Option Addr) (HM.load1 .ptr (Addr.add x52 0)) fun x71 =>
  HM.req ((.pointer x71 : Value) = .pointer x53) <|
  HM.bind (α := Option Addr) (HM.load1 .ptr (Addr.add x50 0)) fun x72 =>
  HM.req ((.pointer x72 : Value) = .pointer x51) <|
  HM.bind (α := Option Addr) (HM.call1 Tryz.prog (.one .ptr) 56 #[.pointer x53, .int .i64 x6.1.1]) fun x73 =>
  HM.bind (α := Int) (HM.load1 (.int .i64) (Addr.add ⟨x37, 0, none⟩ 1)) fun x74 =>
  HM.req ((.int .i64 x74 : Value) = .int .i64 x57) <|
  HM.bind (α := Int) (HM.load1 (.int .i64) (Addr.add ⟨x49, 0, none⟩ 2)) fun x75 =>
  HM.req ((.int .i64 x75 : Value) = .int .i64 x56) <|
  HM.bind (α := ByteArray) (HM.load1 .str (Addr.add ⟨x49, 0, none⟩ 1)) fun x76 =>
  HM.req ((.string x76 : Value) = .string x55) <|
  HM.bind (α := ByteArray) (HM.load1 .str (Addr.add ⟨x49, 0, none⟩ 0)) fun x77 =>
  HM.req ((.string x77 : Value) = .string x54) <|
  HM.bind (α := Slc × Int × Unit) (HM.callN Tryz.prog [.one .slc, .one (.int .u8)] 81 #[.pointer x73, .agg #[.string x54, .string x55, .int .i64 (if x57 < (x56 : Int) then x57 else x56), .bool true, .string (ByteArray.mk #[])]]) fun x78 =>
  HM.bind (α := Unit) (HM.callN Tryz.prog [] 72 #[.pointer p0, .int .i64 x6.1.1, .slice x78.1.a x78.1.len x78.1.cap]) fun x79 =>
  HM.pure (.inl (IntKind.wrap .i64 (x46.1 + 1), ())))) (
  HM.pure (.inr (x46.1, ())))) (0, ())) fun x45 =>
  HM.pure ())) fun x34 =>
  HM.pure (.inl (IntKind.wrap .i64 (x33.1 + 1), ()))) (
  HM.pure (.inr (x33.1, ())))) (0, ())) fun x32 =>
  HM.pure ()
theorem q_e4 (p0 : Option Addr) (p1 : Int) (p2 : yS2) : denFn Tryz.prog [109, 67, 110, 56, 81, 72] 125 [0, 1, 2, 5, 6, 7, 8, 10, 11, 13, 15, 16, 32, 33, 34, 35, 53, 72, 73, 74, 75, 80, 90, 91, 92, 93] [0, 1, 2, 5, 6, 7, 8, 10, 11, 13, 15, 16, 32, 33, 34, 35, 53, 72, 73, 74, 75, 80, 90, 91, 92, 93] Tryz.f65.results.toList [] (bodyOf Tryz.f65) [Kind.val (.one .ptr) p0, Kind.val (.one (.int .i64)) p1, Kind.val (.agg tS3) p2] = q_bj p0 p1 p2 := by kernel_rfl
theorem q_eb (p0 : Option Addr) (p1 : Int) (p2 : yS2) (h : Heap) (Q : Value → Heap → Prop) (hh : q_bj p0 p1 p2 h fun x h' => Q (.tuple #[]) h') :
    HCalls Tryz.prog 65 #[.pointer p0, .int .i64 p1, .agg (aS3 p2)] h Q :=
  q_a Tryz.func65 (by kernel_rfl) Tryz.ntmps65 (by kernel_rfl) (CC Tryz.call109 (CC Tryz.call67 (CC Tryz.call110 (CC Tryz.call56 (CC Tryz.call81 (CC Tryz.call72 CN)))))) orders (q_e4 p0 p1 p2) hh
def q_a8 (p0 : Option Addr) (p1 : Int) (p2 : yS2) : HM (Unit) :=
  HM.bind (α := Nat) (HM.new (.cells (aS3 p2) 45)) fun x1 =>
  HM.bind (α := Int) (HM.load1 (.int .i64) (Addr.add ⟨x1, 0, none⟩ 4)) fun x2 =>
  HM.bind (α := Nat) (HM.new (.cells zS3 45)) fun x3 =>
  HM.bind (α := Unit) (HM.storeN ⟨x3, 0, none⟩ [.int .i64 11, .bool false, .bool false, .int .i64 0, .int .i64 x2, .string (ByteArray.mk #[]), .string (ByteArray.mk #[]), .int .u8 0, .slice none 0 0, .slice none 0 0, .string (ByteArray.mk #[]), .bool false, .int .i64 0, .bool false, .string (ByteArray.mk #[]), .string (ByteArray.mk #[]), .int .i64 0, .bool false, .slice none 0 0, .bool false, .bool false, .string (ByteArray.mk #[]), .string (ByteArray.mk #[]), .bool false, .slice none 0 0, .slice none 0 0]) fun _ =>
  HM.bind (α := Slc) (HM.load1 .slc (Addr.add ⟨x1, 0, none⟩ 25)) fun x4 =>
  HM.bind (α := Int × Unit) (HM.loop (σ := Int × Unit) (τ := Int × Unit) (fun x6 =>
  HM.ite (decide (x6.1 < (((x4.len : Nat) : Int) : Int))) (
  HM.bind (α := Addr) (HM.idx x4.a x4.len x6.1 1) fun x7 =>
  HM.bind (α := ByteArray) (HM.load1 .str x7) fun x8 =>
  HM.bind (α := Addr) (HM.nonnil p0) fun x9 =>
  HM.bind (α := Option Addr) (HM.load1 .ptr (Addr.add x9 0)) fun x10 =>
  HM.bind (α := Addr) (HM.nonnil x10) fun x11 =>
  HM.bind (α := Option Addr) (HM.load1 .ptr (Addr.add x11 1)) fun x12 =>
  HM.bind (α := Addr) (HM.nonnil p0) fun x13 =>
  HM.bind (α := Option Addr) (HM.load1 .ptr (Addr.add x13 0)) fun x14 =>
  HM.bind (α := Addr) (HM.nonnil x14) fun x15 =>
  HM.bind (α := Option Nat) (HM.load1 .map (Addr.add x15 3)) fun x16 =>
  HM.bind (α := (yS4) × Bool) (HM.lookup (Instr.sameNow (.int .i64)) (.agg zS4) (.agg tS4) x16 (.int .i64 p1)) fun x17 =>
  HM.bind (α := Bool) (HM.call1 Tryz.prog (.one .bool) 111 #[.pointer x12, .int .i64 x17.1.1, .string x8]) fun x18 =>
  HM.bind (α := Int × Unit) (HM.ite x18 (
  HM.pure (0, ())) (
  HM.pure (17, ()))) fun x19 =>
  HM.bind (α := Slc) (HM.load1 .slc (Addr.add ⟨x3, 0, none⟩ 8)) fun x20 =>
  HM.bind (α := Nat) (HM.new (.cells #[.int .u8 x19.1] 30)) fun x21 =>
  HM.bind (α := Slc) (HM.append 30 1 1 #[.int .u8 0] x20 1 (srcSlc 1 (⟨some ⟨x21, 0, none⟩, 1, 1⟩))) fun x22 =>
  HM.bind (α := Unit) (HM.store1 (Addr.add ⟨x3, 0, none⟩ 8) (.slice x22.a x22.len x22.cap)) fun _ =>
  HM.pure (.inl (IntKind.wrap .i64 (x6.1 + 1), ()))) (
  HM.pure (.inr (x6.1, ())))) (0, ())) fun x5 =>
  HM.bind (α := yS2) (HM.loadN tS3 ⟨x3, 0, none⟩) fun x23 =>
  HM.bind (α := Unit) (HM.callN Tryz.prog [] 67 #[.pointer p0, .int .i64 p1, .agg (aS3 x23)]) fun x24 =>
  HM.pure ()
theorem q_ea (p0 : Option Addr) (p1 : Int) (p2 : yS2) : denFn Tryz.prog [111, 67] 50 [0, 1, 2, 5, 6, 8, 9, 14, 15, 16, 17, 38] [0, 1, 2, 5, 6, 8, 9, 14, 15, 16, 17, 38] Tryz.f66.results.toList [] (bodyOf Tryz.f66) [Kind.val (.one .ptr) p0, Kind.val (.one (.int .i64)) p1, Kind.val (.agg tS3) p2] = q_a8 p0 p1 p2 := by kernel_rfl
theorem q_dh (p0 : Option Addr) (p1 : Int) (p2 : yS2) (h : Heap) (Q : Value → Heap → Prop) (hh : q_a8 p0 p1 p2 h fun x h' => Q (.tuple #[]) h') :
    HCalls Tryz.prog 66 #[.pointer p0, .int .i64 p1, .agg (aS3 p2)] h Q :=
  q_a Tryz.func66 (by kernel_rfl) Tryz.ntmps66 (by kernel_rfl) (CC Tryz.call111 (CC Tryz.call67 CN)) orders (q_ea p0 p1 p2) hh
def q_dj (p0 : Option Addr) (p1 : Int) (p2 : yS2) : HM (Unit) :=
  HM.bind (α := Nat) (HM.new (.cells (aS3 p2) 45)) fun x1 =>
  HM.bind (α := Addr) (HM.nonnil p0) fun x2 =>
  HM.bind (α := Slc) (HM.load1 .slc (Addr.add (Addr.add x2 2) 0)) fun x3 =>
  HM.bind (α := yS2) (HM.loadN tS3 ⟨x1, 0, none⟩) fun x4 =>
  HM.bind (α := Nat) (HM.new (.cells #[.int .i64 p1, .int .i64 x4.1, .bool x4.2.1, .bool x4.2.2.1, .int .i64 x4.2.2.2.1, .int .i64 x4.2.2.2.2.1, .string x4.2.2.2.2.2.1, .string x4.2.2.2.2.2.2.1, .int .u8 x4.2.2.2.2.2.2.2.1, .slice x4.2.2.2.2.2.2.2.2.1.a x4.2.2.2.2.2.2.2.2.1.len x4.2.2.2.2.2.2.2.2.1.cap, .slice x4.2.2.2.2.2.2.2.2.2.1.a x4.2.2.2.2.2.2.2.2.2.1.len x4.2.2.2.2.2.2.2.2.2.1.cap, .string x4.2.2.2.2.2.2.2.2.2.2.1, .bool x4.2.2.2.2.2.2.2.2.2.2.2.1, .int .i64 x4.2.2.2.2.2.2.2.2.2.2.2.2.1, .bool x4.2.2.2.2.2.2.2.2.2.2.2.2.2.1, .string x4.2.2.2.2.2.2.2.2.2.2.2.2.2.2.1, .string x4.2.2.2.2.2.2.2.2.2.2.2.2.2.2.2.1, .int .i64 x4.2.2.2.2.2.2.2.2.2.2.2.2.2.2.2.2.1, .bool x4.2.2.2.2.2.2.2.2.2.2.2.2.2.2.2.2.2.1, .slice x4.2.2.2.2.2.2.2.2.2.2.2.2.2.2.2.2.2.2.1.a x4.2.2.2.2.2.2.2.2.2.2.2.2.2.2.2.2.2.2.1.len x4.2.2.2.2.2.2.2.2.2.2.2.2.2.2.2.2.2.2.1.cap, .bool x4.2.2.2.2.2.2.2.2.2.2.2.2.2.2.2.2.2.2.2.1, .bool x4.2.2.2.2.2.2.2.2.2.2.2.2.2.2.2.2.2.2.2.2.1, .string x4.2.2.2.2.2.2.2.2.2.2.2.2.2.2.2.2.2.2.2.2.2.1, .string x4.2.2.2.2.2.2.2.2.2.2.2.2.2.2.2.2.2.2.2.2.2.2.1, .bool x4.2.2.2.2.2.2.2.2.2.2.2.2.2.2.2.2.2.2.2.2.2.2.2.1, .slice x4.2.2.2.2.2.2.2.2.2.2.2.2.2.2.2.2.2.2.2.2.2.2.2.2.1.a x4.2.2.2.2.2.2.2.2.2.2.2.2.2.2.2.2.2.2.2.2.2.2.2.2.1.len x4.2.2.2.2.2.2.2.2.2.2.2.2.2.2.2.2.2.2.2.2.2.2.2.2.1.cap, .slice x4.2.2.2.2.2.2.2.2.2.2.2.2.2.2.2.2.2.2.2.2.2.2.2.2.2.1.a x4.2.2.2.2.2.2.2.2.2.2.2.2.2.2.2.2.2.2.2.2.2.2.2.2.2.1.len x4.2.2.2.2.2.2.2.2.2.2.2.2.2.2.2.2.2.2.2.2.2.2.2.2.2.1.cap, .bool false] 50)) fun x5 =>
  HM.bind (α := Slc) (HM.load1 .slc (Addr.add (Addr.add x2 2) 0)) fun x6 =>
  HM.req ((.slice x6.a x6.len x6.cap : Value) = .slice x3.a x3.len x3.cap) <|
  HM.bind (α := Slc) (HM.append 50 28 344 zS1 x3 1 (srcSlc 28 (⟨some ⟨x5, 0, none⟩, 1, 1⟩))) fun x7 =>
  HM.bind (α := Addr) (HM.nonnil p0) fun x8 =>
  HM.bind (α := Unit) (HM.store1 (Addr.add (Addr.add x8 2) 0) (.slice x7.a x7.len x7.cap)) fun _ =>
  HM.pure ()
theorem broker_turn_send_den (p0 : Option Addr) (p1 : Int) (p2 : yS2) : denFn Tryz.prog [] 20 [0, 1, 2, 5] [0, 1, 2, 5] Tryz.f67.results.toList [] (bodyOf Tryz.f67) [Kind.val (.one .ptr) p0, Kind.val (.one (.int .i64)) p1, Kind.val (.agg tS3) p2] = q_dj p0 p1 p2 := by kernel_rfl
theorem q_g5 (p0 : Option Addr) (p1 : Int) (p2 : yS2) (h : Heap) (Q : Value → Heap → Prop) (hh : q_dj p0 p1 p2 h fun x h' => Q (.tuple #[]) h') :
    HCalls Tryz.prog 67 #[.pointer p0, .int .i64 p1, .agg (aS3 p2)] h Q :=
  q_a Tryz.func67 (by kernel_rfl) Tryz.ntmps67 (by kernel_rfl) CN orders (broker_turn_send_den p0 p1 p2) hh
def q_cd (p0 : Option Addr) (p1 : Int) (p2 : Int) : HM (Unit) :=
  HM.bind (α := Unit) (HM.callN Tryz.prog [] 34 #[.pointer p0, .int .i64 p1, .agg #[.int .i64 14, .bool false, .bool false, .int .i64 0, .int .i64 0, .string (ByteArray.mk #[]), .string (ByteArray.mk #[]), .int .u8 p2, .slice none 0 0, .slice none 0 0, .string (ByteArray.mk #[]), .bool false, .int .i64 0, .bool false, .string (ByteArray.mk #[]), .string (ByteArray.mk #[]), .int .i64 0, .bool false, .slice none 0 0, .bool false, .bool false, .string (ByteArray.mk #[]), .string (ByteArray.mk #[]), .bool false, .slice none 0 0, .slice none 0 0]]) fun x1 =>
  HM.bind (α := Unit) (HM.callN Tryz.prog [] 54 #[.pointer p0, .int .i64 p1, .bool true]) fun x2 =>
  HM.pure ()
theorem q_g6 (p0 : Option Addr) (p1 : Int) (p2 : Int) : denFn Tryz.prog [34, 54] 14 [0, 1, 2] [0, 1, 2] Tryz.f68.results.toList [] (bodyOf Tryz.f68) [Kind.val (.one .ptr) p0, Kind.val (.one (.int .i64)) p1, Kind.val (.one (.int .u8)) p2] = q_cd p0 p1 p2 := by kernel_rfl
theorem q_fi (p0 : Option Addr) (p1 : Int) (p2 : Int) (h : Heap) (Q : Value → Heap → Prop) (hh : q_cd p0 p1 p2 h fun x h' => Q (.tuple #[]) h') :
    HCalls Tryz.prog 68 #[.pointer p0, .int .i64 p1, .int .u8 p2] h Q :=
  q_a Tryz.func68 (by kernel_rfl) Tryz.ntmps68 (by kernel_rfl) (CC Tryz.call34 (CC Tryz.call54 CN)) orders (q_g6 p0 p1 p2) hh
def q_bu (p0 : Option Addr) (p1 : ByteArray) (p2 : Bool) (p3 : Bool) : HM (Int × Bool × Int × Unit) :=
  HM.bind (α := Int × Bool × Unit) (HM.callN Tryz.prog [.one (.int .i64), .one .bool] 60 #[.string p1]) fun x1 =>
  HM.ite (Option.isNone p0) (
  HM.pure (0, false, 128, ())) (
  HM.bind (α := Bool × Unit) (HM.ite x1.2.1 (
  HM.pure (true, ())) (
  HM.ite (decide (p1 = (ByteArray.mk #[]))) (
  HM.pure (true, ())) (
  HM.pure (decide (64 < (((ByteArray.size p1 : Nat) : Int) : Int)), ())))) fun x2 =>
  HM.ite x2.1 (
  HM.pure (0, false, 133, ())) (
  HM.bind (α := Option Addr) (HM.call1 Tryz.prog (.one .ptr) 98 #[.pointer p0, .string p1]) fun x3 =>
  HM.bind (α := Bool × Unit) (HM.ite (!(Option.isNone x3)) (
  HM.pure (!p2, ())) (
  HM.pure (false, ()))) fun x4 =>
  HM.ite x4.1 (
  HM.bind (α := Addr) (HM.nonnil x3) fun x5 =>
  HM.bind (α := Unit) (HM.store1 (Addr.add (Addr.add x5 0) 3) (.bool true)) fun _ =>
  HM.bind (α := Addr) (HM.nonnil x3) fun x6 =>
  HM.bind (α := Unit) (HM.store1 (Addr.add (Addr.add x6 0) 2) (.bool p3)) fun _ =>
  HM.bind (α := Addr) (HM.nonnil x3) fun x7 =>
  HM.bind (α := Int) (HM.load1 (.int .i64) (Addr.add (Addr.add x7 0) 0)) fun x8 =>
  HM.pure (x8, true, 0, ())) (
  HM.bind (α := (Unit) ⊕ (Int × Bool × Int × Unit)) (HM.ite (!(Option.isNone x3)) (
  HM.bind (α := Addr) (HM.nonnil p0) fun x10 =>
  HM.bind (α := Option Nat) (HM.load1 .map (Addr.add x10 1)) fun x11 =>
  HM.bind (α := Addr) (HM.nonnil x3) fun x12 =>
  HM.bind (α := Int) (HM.load1 (.int .i64) (Addr.add (Addr.add x12 0) 0)) fun x13 =>
  HM.bind (α := Unit) (HM.mapDel (Instr.sameNow (.int .i64)) x11 (.int .i64 x13)) fun _ =>
  HM.pure (.inl ())) (
  HM.bind (α := Addr) (HM.nonnil p0) fun x14 =>
  HM.bind (α := Option Nat) (HM.load1 .map (Addr.add x14 1)) fun x15 =>
  HM.bind (α := Int) (HM.mapLen x15) fun x16 =>
  HM.ite (decide (32 ≤ (x16 : Int))) (
  HM.pure (.inr (0, false, 151, ()))) (
  HM.pure (.inl ())))) (Sum.elim (fun x9 =>
  HM.bind (α := Addr) (HM.nonnil p0) fun x17 =>
  HM.bind (α := Int) (HM.load1 (.int .i64) (Addr.add x17 0)) fun x18 =>
  HM.bind (α := Addr) (HM.nonnil p0) fun x19 =>
  HM.bind (α := Unit) (HM.store1 (Addr.add x19 0) (.int .i64 (IntKind.wrap .i64 (x18 + 1)))) fun _ =>
  HM.bind (α := Addr) (HM.nonnil p0) fun x20 =>
  HM.bind (α := Option Nat) (HM.load1 .map (Addr.add x20 1)) fun x21 =>
  HM.bind (α := Addr) (HM.nonnil p0) fun x22 =>
  HM.bind (α := Int) (HM.load1 (.int .i64) (Addr.add x22 0)) fun x23 =>
  HM.bind (α := Addr) (HM.nonnil p0) fun x24 =>
  HM.bind (α := Int) (HM.load1 (.int .i64) (Addr.add x24 0)) fun x25 =>
  HM.bind (α := Option Addr) (HM.call1 Tryz.prog (.one .ptr) 112 #[.int .i64 64]) fun x26 =>
  HM.bind (α := Int) (HM.load1 (.int .i64) (Addr.add x24 0)) fun x27 =>
  HM.req ((.int .i64 x27 : Value) = .int .i64 x25) <|
  HM.bind (α := Int) (HM.load1 (.int .i64) (Addr.add x22 0)) fun x28 =>
  HM.req ((.int .i64 x28 : Value) = .int .i64 x23) <|
  HM.bind (α := Option Nat) (HM.load1 .map (Addr.add x20 1)) fun x29 =>
  HM.req ((.map x29 : Value) = .map x21) <|
  HM.bind (α := Option Addr) (HM.call1 Tryz.prog (.one .ptr) 113 #[.int .i64 64]) fun x30 =>
  HM.bind (α := Int) (HM.load1 (.int .i64) (Addr.add x24 0)) fun x31 =>
  HM.req ((.int .i64 x31 : Value) = .int .i64 x25) <|
  HM.bind (α := Int) (HM.load1 (.int .i64) (Addr.add x22 0)) fun x32 =>
  HM.req ((.int .i64 x32 : Value) = .int .i64 x23) <|
  HM.bind (α := Option Nat) (HM.load1 .map (Addr.add x20 1)) fun x33 =>
  HM.req ((.map x33 : Value) = .map x21) <|
  HM.bind (α := Nat) (HM.new (.cells #[.int .i64 x25, .string p1, .bool p3, .bool true, .pointer x26, .pointer x30] 201)) fun x34 =>
  HM.bind (α := Int) (HM.load1 (.int .i64) (Addr.add x22 0)) fun x35 =>
  HM.req ((.int .i64 x35 : Value) = .int .i64 x23) <|
  HM.bind (α := Option Nat) (HM.load1 .map (Addr.add x20 1)) fun x36 =>
  HM.req ((.map x36 : Value) = .map x21) <|
  HM.bind (α := Unit) (HM.mapSet (Instr.sameNow (.int .i64)) x21 (.int .i64 x23) (.pointer (some ⟨x34, 0, none⟩))) fun _ =>
  HM.bind (α := Addr) (HM.nonnil p0) fun x37 =>
  HM.bind (α := Int) (HM.load1 (.int .i64) (Addr.add x37 0)) fun x38 =>
  HM.pure (x38, false, 0, ())) HM.pure))))
theorem q_fx (p0 : Option Addr) (p1 : ByteArray) (p2 : Bool) (p3 : Bool) : denFn Tryz.prog [60, 98, 112, 113] 106 [0, 1, 2, 3, 8, 9, 10, 12, 13, 19, 22, 36, 57, 69] [0, 1, 2, 3, 12, 13, 19, 22, 36, 57, 69] Tryz.f69.results.toList [.one (.int .i64), .one .bool, .one (.int .u8)] (bodyOf Tryz.f69) [Kind.val (.one .ptr) p0, Kind.val (.one .str) p1, Kind.val (.one .bool) p2, Kind.val (.one .bool) p3] = q_bu p0 p1 p2 p3 := by kernel_rfl
theorem q_e0 (p0 : Option Addr) (p1 : ByteArray) (p2 : Bool) (p3 : Bool) (h : Heap) (Q : Value → Heap → Prop) (hh : q_bu p0 p1 p2 p3 h fun x h' => Q (.tuple #[.int .i64 x.1, .bool x.2.1, .int .u8 x.2.2.1]) h') :
    HCalls Tryz.prog 69 #[.pointer p0, .string p1, .bool p2, .bool p3] h Q :=
  q_a Tryz.func69 (by kernel_rfl) Tryz.ntmps69 (by kernel_rfl) (CC Tryz.call60 (CC Tryz.call98 (CC Tryz.call112 (CC Tryz.call113 CN)))) orders (q_fx p0 p1 p2 p3) hh
def prop_Find (p0 : Slc) (p1 : Int) : HM ((yS8) × Bool × Unit) :=
  HM.bind (α := Nat) (HM.new (.cells #[.int .i64 p1] 3)) fun x1 =>
  HM.bind (α := Nat) (HM.new (.cells zS8 106)) fun x2 =>
  HM.bind (α := Int) (HM.call1 Tryz.prog (.one (.int .i64)) 114 #[.slice p0.a p0.len p0.cap, .func (.func 115) #[] #[.pointer (some ⟨x1, 0, none⟩)]]) fun x3 =>
  HM.ite (decide (x3 < (0 : Int))) (
  HM.bind (α := Unit) (HM.storeN ⟨x2, 0, none⟩ [.int .i64 0, .int .i64 0, .string (ByteArray.mk #[]), .string (ByteArray.mk #[])]) fun _ =>
  HM.bind (α := yS8) (HM.loadN tS8 ⟨x2, 0, none⟩) fun x4 =>
  HM.pure ((x4.1, x4.2.1, x4.2.2.1, x4.2.2.2.1, ()), false, ())) (
  HM.bind (α := Addr) (HM.idx p0.a p0.len x3 4) fun x5 =>
  HM.bind (α := yS8) (HM.loadN tS8 x5) fun x6 =>
  HM.bind (α := Unit) (HM.storeN ⟨x2, 0, none⟩ (lS8 x6)) fun _ =>
  HM.bind (α := yS8) (HM.loadN tS8 ⟨x2, 0, none⟩) fun x7 =>
  HM.pure ((x7.1, x7.2.1, x7.2.2.1, x7.2.2.2.1, ()), true, ()))
theorem prop_Find_den (p0 : Slc) (p1 : Int) : denFn Tryz.prog [114] 17 [0, 1, 3, 4, 5, 6, 11] [0, 1, 3, 4, 6, 11] Tryz.f70.results.toList [.agg tS8, .one .bool] (bodyOf Tryz.f70) [Kind.val (.one .slc) p0, Kind.val (.one (.int .i64)) p1] = prop_Find p0 p1 := by kernel_rfl
theorem prop_Find_calls (p0 : Slc) (p1 : Int) (h : Heap) (Q : Value → Heap → Prop) (hh : prop_Find p0 p1 h fun x h' => Q (.tuple #[.agg (aS8 x.1), .bool x.2.1]) h') :
    HCalls Tryz.prog 70 #[.slice p0.a p0.len p0.cap, .int .i64 p1] h Q :=
  q_a Tryz.func70 (by kernel_rfl) Tryz.ntmps70 (by kernel_rfl) (CC Tryz.call114 CN) orders (prop_Find_den p0 p1) hh
def q_ex (p0 : Option Addr) (p1 : Int) : HM (Int × Unit) :=
  HM.bind (α := Slc) (HM.call1 Tryz.prog (.one .slc) 116 #[.pointer p0, .int .i64 p1]) fun x1 =>
  HM.bind (α := Int × Unit) (HM.loop (σ := Int × Unit) (τ := Int × Unit) (fun x3 =>
  HM.ite (decide (x3.1 < (((x1.len : Nat) : Int) : Int))) (
  HM.bind (α := Addr) (HM.idx x1.a x1.len x3.1 3) fun x4 =>
  HM.bind (α := Int × ByteArray × Int × Unit) (HM.loadN [.int .i64, .str, .int .i64] x4) fun x5 =>
  HM.bind (α := Nat) (HM.new (.cells #[.int .i64 0, .string (ByteArray.mk #[]), .int .i64 0] 208)) fun x6 =>
  HM.bind (α := Unit) (HM.storeN ⟨x6, 0, none⟩ [.int .i64 x5.1, .string x5.2.1, .int .i64 x5.2.2.1]) fun _ =>
  HM.bind (α := ByteArray) (HM.load1 .str (Addr.add ⟨x6, 0, none⟩ 1)) fun x7 =>
  HM.bind (α := Bool) (HM.call1 Tryz.prog (.one .bool) 111 #[.pointer p0, .int .i64 p1, .string x7]) fun x8 =>
  HM.pure (.inl (IntKind.wrap .i64 (x3.1 + 1), ()))) (
  HM.pure (.inr (x3.1, ())))) (0, ())) fun x2 =>
  HM.pure (((x1.len : Nat) : Int), ())
theorem trie_Trie_Drop_den (p0 : Option Addr) (p1 : Int) : denFn Tryz.prog [116, 111] 25 [0, 1, 4, 5, 7, 11, 12, 13, 14] [0, 1, 5, 7, 11, 12, 13, 14] Tryz.f71.results.toList [.one (.int .i64)] (bodyOf Tryz.f71) [Kind.val (.one .ptr) p0, Kind.val (.one (.int .i64)) p1] = q_ex p0 p1 := by kernel_rfl
theorem q_ir (p0 : Option Addr) (p1 : Int) (h : Heap) (Q : Value → Heap → Prop) (hh : q_ex p0 p1 h fun x h' => Q (.int .i64 x.1) h') :
    HCalls Tryz.prog 71 #[.pointer p0, .int .i64 p1] h Q :=
  q_a Tryz.func71 (by kernel_rfl) Tryz.ntmps71 (by kernel_rfl) (CC Tryz.call116 (CC Tryz.call111 CN)) orders (trie_Trie_Drop_den p0 p1) hh
def q_bx (p0 : Option Addr) (p1 : Int) (p2 : Slc) : HM (Unit) :=
  HM.bind (α := Addr) (HM.nonnil p0) fun x1 =>
  HM.bind (α := Option Addr) (HM.load1 .ptr (Addr.add x1 0)) fun x2 =>
  HM.bind (α := Addr) (HM.nonnil x2) fun x3 =>
  HM.bind (α := Option Nat) (HM.load1 .map (Addr.add x3 3)) fun x4 =>
  HM.bind (α := Nat) (HM.rangeM x4) fun x5 =>
  HM.bind (α := Unit) (HM.loop (σ := Unit) (τ := Unit) (fun x7 =>
  HM.bind (α := Option (Value × Value)) (HM.nextM x5) fun x8 =>
  HM.opt x8 (
  HM.ite false (
  HM.bind (α := Int × (yS4)) (HM.entryM (.one (.int .i64)) (.agg tS4) x5) fun x10 =>
  HM.bind (α := Nat) (HM.new (.cells zS4 112)) fun x11 =>
  HM.bind (α := Unit) (HM.storeN ⟨x11, 0, none⟩ (lS4 x10.2)) fun _ =>
  HM.bind (α := Int) (HM.load1 (.int .i64) (Addr.add ⟨x11, 0, none⟩ 0)) fun x12 =>
  HM.bind (α := Unit) (HM.ite (x12 == p1) (
  HM.bind (α := Int × Unit) (HM.loop (σ := Int × Unit) (τ := Int × Unit) (fun x15 =>
  HM.ite (decide (x15.1 < (((p2.len : Nat) : Int) : Int))) (
  HM.bind (α := Addr) (HM.idx p2.a p2.len x15.1 26) fun x16 =>
  HM.bind (α := yS2) (HM.loadN tS3 x16) fun x17 =>
  HM.bind (α := Nat) (HM.new (.cells zS3 45)) fun x18 =>
  HM.bind (α := Unit) (HM.storeN ⟨x18, 0, none⟩ (lS3 x17)) fun _ =>
  HM.bind (α := yS2) (HM.loadN tS3 ⟨x18, 0, none⟩) fun x19 =>
  HM.bind (α := Unit) (HM.callN Tryz.prog [] 67 #[.pointer p0, .int .i64 x10.1, .agg (aS3 x19)]) fun x20 =>
  HM.pure (.inl (IntKind.wrap .i64 (x15.1 + 1), ()))) (
  HM.pure (.inr (x15.1, ())))) (0, ())) fun x14 =>
  HM.pure ()) (
  HM.pure ())) fun x13 =>
  HM.pure (.inl ())) (
  HM.pure (.inr ()))) fun (x9 : Value × Value) =>
  HM.ite true (
  HM.bind (α := Int × (yS4)) (HM.entryM (.one (.int .i64)) (.agg tS4) x5) fun x21 =>
  HM.bind (α := Nat) (HM.new (.cells zS4 112)) fun x22 =>
  HM.bind (α := Unit) (HM.storeN ⟨x22, 0, none⟩ (lS4 x21.2)) fun _ =>
  HM.bind (α := Int) (HM.load1 (.int .i64) (Addr.add ⟨x22, 0, none⟩ 0)) fun x23 =>
  HM.bind (α := Unit) (HM.ite (x23 == p1) (
  HM.bind (α := Int × Unit) (HM.loop (σ := Int × Unit) (τ := Int × Unit) (fun x26 =>
  HM.ite (decide (x26.1 < (((p2.len : Nat) : Int) : Int))) (
  HM.bind (α := Addr) (HM.idx p2.a p2.len x26.1 26) fun x27 =>
  HM.bind (α := yS2) (HM.loadN tS3 x27) fun x28 =>
  HM.bind (α := Nat) (HM.new (.cells zS3 45)) fun x29 =>
  HM.bind (α := Unit) (HM.storeN ⟨x29, 0, none⟩ (lS3 x28)) fun _ =>
  HM.bind (α := yS2) (HM.loadN tS3 ⟨x29, 0, none⟩) fun x30 =>
  HM.bind (α := Unit) (HM.callN Tryz.prog [] 67 #[.pointer p0, .int .i64 x21.1, .agg (aS3 x30)]) fun x31 =>
  HM.pure (.inl (IntKind.wrap .i64 (x26.1 + 1), ()))) (
  HM.pure (.inr (x26.1, ())))) (0, ())) fun x25 =>
  HM.pure ()) (
  HM.pure ())) fun x24 =>
  HM.pure (.inl ())) (
  HM.pure (.inr ()))) ()) fun x6 =>
  HM.pure ()
theorem q_gh (p0 : Option Addr) (p1 : Int) (p2 : Slc) : denFn Tryz.prog [67] 38 [0, 1, 2, 6, 7, 9, 17, 19, 26, 27, 28, 29, 30] [0, 1, 2, 6, 7, 9, 17, 19, 26, 27, 28, 29, 30] Tryz.f72.results.toList [] (bodyOf Tryz.f72) [Kind.val (.one .ptr) p0, Kind.val (.one (.int .i64)) p1, Kind.val (.one .slc) p2] = q_bx p0 p1 p2 := by kernel_rfl
theorem q_e5 (p0 : Option Addr) (p1 : Int) (p2 : Slc) (h : Heap) (Q : Value → Heap → Prop) (hh : q_bx p0 p1 p2 h fun x h' => Q (.tuple #[]) h') :
    HCalls Tryz.prog 72 #[.pointer p0, .int .i64 p1, .slice p2.a p2.len p2.cap] h Q :=
  q_a Tryz.func72 (by kernel_rfl) Tryz.ntmps72 (by kernel_rfl) (CC Tryz.call67 CN) orders (q_gh p0 p1 p2) hh
def q_c (p0 : Option Addr) (p1 : Int) : HM (Slc × Unit) :=
  HM.ite (Option.isNone p0) (
  HM.pure (⟨none, 0, 0⟩, ())) (
  HM.bind (α := Int) (HM.call1 Tryz.prog (.one (.int .i64)) 117 #[.int .i64 p1]) fun x1 =>
  HM.bind (α := Addr) (HM.nonnil p0) fun x2 =>
  HM.bind (α := Unit) (HM.store1 (Addr.add x2 2) (.bool true)) fun _ =>
  HM.bind (α := Addr) (HM.nonnil p0) fun x3 =>
  HM.bind (α := Unit) (HM.store1 (Addr.add x3 1) (.int .i64 x1)) fun _ =>
  HM.bind (α := Addr) (HM.nonnil p0) fun x4 =>
  HM.bind (α := Slc) (HM.load1 .slc (Addr.add x4 3)) fun x5 =>
  HM.bind (α := Slc × Int × Unit) (HM.loop (σ := Slc × Int × Unit) (τ := Slc × Int × Unit) (fun x7 =>
  HM.ite (decide (x7.2.1 < (((x5.len : Nat) : Int) : Int))) (
  HM.bind (α := Addr) (HM.idx x5.a x5.len x7.2.1 7) fun x8 =>
  HM.bind (α := yS5) (HM.loadN tS5 x8) fun x9 =>
  HM.bind (α := Nat) (HM.new (.cells zS5 162)) fun x10 =>
  HM.bind (α := Unit) (HM.storeN ⟨x10, 0, none⟩ (lS5 x9)) fun _ =>
  HM.bind (α := Bool) (HM.load1 .bool (Addr.add ⟨x10, 0, none⟩ 6)) fun x11 =>
  HM.bind (α := Slc × Unit) (HM.ite x11 (
  HM.bind (α := Int) (HM.load1 (.int .i64) (Addr.add ⟨x10, 0, none⟩ 0)) fun x13 =>
  HM.bind (α := Nat) (HM.new (.cells #[.int .i64 6, .bool false, .bool false, .int .i64 0, .int .i64 x13, .string (ByteArray.mk #[]), .string (ByteArray.mk #[]), .int .u8 0, .slice none 0 0, .slice none 0 0, .string (ByteArray.mk #[]), .bool false, .int .i64 0, .bool false, .string (ByteArray.mk #[]), .string (ByteArray.mk #[]), .int .i64 0, .bool false, .slice none 0 0, .bool false, .bool false, .string (ByteArray.mk #[]), .string (ByteArray.mk #[]), .bool false, .slice none 0 0, .slice none 0 0] 45)) fun x14 =>
  HM.bind (α := Slc) (HM.append 45 26 328 zS3 x7.1 1 (srcSlc 26 (⟨some ⟨x14, 0, none⟩, 1, 1⟩))) fun x15 =>
  HM.pure (x15, ())) (
  HM.bind (α := yS7) (HM.loadN tS7 (Addr.add ⟨x10, 0, none⟩ 1)) fun x16 =>
  HM.bind (α := Int) (HM.load1 (.int .i64) (Addr.add ⟨x10, 0, none⟩ 0)) fun x17 =>
  HM.bind (α := yS2) (HM.call1 Tryz.prog (.agg tS3) 118 #[.agg (aS7 x16), .int .i64 x17, .bool true]) fun x18 =>
  HM.bind (α := Nat) (HM.new (.cells (aS3 x18) 45)) fun x19 =>
  HM.bind (α := Slc) (HM.append 45 26 328 zS3 x7.1 1 (srcSlc 26 (⟨some ⟨x19, 0, none⟩, 1, 1⟩))) fun x20 =>
  HM.pure (x20, ()))) fun x12 =>
  HM.pure (.inl (x12.1, IntKind.wrap .i64 (x7.2.1 + 1), ()))) (
  HM.pure (.inr (x7.1, x7.2.1, ())))) (⟨none, 0, 0⟩, 0, ())) fun x6 =>
  HM.bind (α := Slc) (HM.call1 Tryz.prog (.one .slc) 119 #[.pointer p0, .slice x6.1.a x6.1.len x6.1.cap]) fun x21 =>
  HM.pure (x21, ()))
theorem q_g2 (p0 : Option Addr) (p1 : Int) : denFn Tryz.prog [117, 118, 119] 47 [0, 1, 4, 5, 7, 9, 21, 22, 23, 24, 28] [0, 1, 5, 7, 9, 21, 22, 23, 24, 28] Tryz.f73.results.toList [.one .slc] (bodyOf Tryz.f73) [Kind.val (.one .ptr) p0, Kind.val (.one (.int .i64)) p1] = q_c p0 p1 := by kernel_rfl
theorem q_ff (p0 : Option Addr) (p1 : Int) (h : Heap) (Q : Value → Heap → Prop) (hh : q_c p0 p1 h fun x h' => Q (.slice x.1.a x.1.len x.1.cap) h') :
    HCalls Tryz.prog 73 #[.pointer p0, .int .i64 p1] h Q :=
  q_a Tryz.func73 (by kernel_rfl) Tryz.ntmps73 (by kernel_rfl) (CC Tryz.call117 (CC Tryz.call118 (CC Tryz.call119 CN))) orders (q_g2 p0 p1) hh
def q_de (p0 : Option Addr) (p1 : ByteArray × ByteArray × Int × Unit) : HM (Int × Unit) :=
  HM.bind (α := Nat) (HM.new (.cells #[.string p1.1, .string p1.2.1, .int .i64 p1.2.2.1] 204)) fun x1 =>
  HM.ite (Option.isNone p0) (
  HM.pure (128, ())) (
  HM.bind (α := ByteArray) (HM.load1 .str (Addr.add ⟨x1, 0, none⟩ 0)) fun x2 =>
  HM.bind (α := Int) (HM.call1 Tryz.prog (.one (.int .u8)) 12 #[.string x2]) fun x3 =>
  HM.ite (!(x3 == 0)) (
  HM.pure (144, ())) (
  HM.bind (α := Bool × Unit) (HM.bind (α := Int) (HM.load1 (.int .i64) (Addr.add ⟨x1, 0, none⟩ 2)) fun x4 =>
  HM.ite (decide (x4 < (0 : Int))) (
  HM.pure (true, ())) (
  HM.bind (α := Int) (HM.load1 (.int .i64) (Addr.add ⟨x1, 0, none⟩ 2)) fun x5 =>
  HM.pure (decide (2 < (x5 : Int)), ()))) fun x6 =>
  HM.ite x6.1 (
  HM.pure (155, ())) (
  HM.bind (α := ByteArray) (HM.load1 .str (Addr.add ⟨x1, 0, none⟩ 1)) fun x7 =>
  HM.ite (decide (x7 = (ByteArray.mk #[]))) (
  HM.bind (α := Addr) (HM.nonnil p0) fun x8 =>
  HM.bind (α := Option Nat) (HM.load1 .map (Addr.add x8 1)) fun x9 =>
  HM.bind (α := ByteArray) (HM.load1 .str (Addr.add ⟨x1, 0, none⟩ 0)) fun x10 =>
  HM.bind (α := Unit) (HM.mapDel (Instr.sameNow .string) x9 (.string x10)) fun _ =>
  HM.pure (0, ())) (
  HM.bind (α := Addr) (HM.nonnil p0) fun x11 =>
  HM.bind (α := Option Nat) (HM.load1 .map (Addr.add x11 1)) fun x12 =>
  HM.bind (α := ByteArray) (HM.load1 .str (Addr.add ⟨x1, 0, none⟩ 0)) fun x13 =>
  HM.bind (α := (ByteArray × ByteArray × Int × Unit) × Bool) (HM.lookup (Instr.sameNow .string) (.agg #[.string (ByteArray.mk #[]), .string (ByteArray.mk #[]), .int .i64 0]) (.agg [.str, .str, .int .i64]) x12 (.string x13)) fun x14 =>
  HM.bind (α := Nat) (HM.new (.cells #[.string (ByteArray.mk #[]), .string (ByteArray.mk #[]), .int .i64 0] 204)) fun x15 =>
  HM.bind (α := (ByteArray × ByteArray × Int × Unit) × Bool) (HM.lookup (Instr.sameNow .string) (.agg #[.string (ByteArray.mk #[]), .string (ByteArray.mk #[]), .int .i64 0]) (.agg [.str, .str, .int .i64]) x12 (.string x13)) fun x16 =>
  HM.req ((.tuple #[.agg #[.string x16.1.1, .string x16.1.2.1, .int .i64 x16.1.2.2.1], .bool x16.2] : Value) = .tuple #[.agg #[.string x14.1.1, .string x14.1.2.1, .int .i64 x14.1.2.2.1], .bool x14.2]) <|
  HM.bind (α := ByteArray) (HM.load1 .str (Addr.add ⟨x1, 0, none⟩ 0)) fun x17 =>
  HM.req ((.string x17 : Value) = .string x13) <|
  HM.bind (α := Option Nat) (HM.load1 .map (Addr.add x11 1)) fun x18 =>
  HM.req ((.map x18 : Value) = .map x12) <|
  HM.bind (α := Unit) (HM.storeN ⟨x15, 0, none⟩ [.string x14.1.1, .string x14.1.2.1, .int .i64 x14.1.2.2.1]) fun _ =>
  HM.bind (α := Bool × Unit) (HM.ite (!x14.2) (
  HM.bind (α := Addr) (HM.nonnil p0) fun x19 =>
  HM.bind (α := Option Nat) (HM.load1 .map (Addr.add x19 1)) fun x20 =>
  HM.bind (α := Int) (HM.mapLen x20) fun x21 =>
  HM.bind (α := Addr) (HM.nonnil p0) fun x22 =>
  HM.bind (α := Int) (HM.load1 (.int .i64) (Addr.add x22 0)) fun x23 =>
  HM.pure (decide (x23 ≤ (x21 : Int)), ())) (
  HM.pure (false, ()))) fun x24 =>
  HM.ite x24.1 (
  HM.pure (151, ())) (
  HM.bind (α := Addr) (HM.nonnil p0) fun x25 =>
  HM.bind (α := Option Nat) (HM.load1 .map (Addr.add x25 1)) fun x26 =>
  HM.bind (α := ByteArray) (HM.load1 .str (Addr.add ⟨x1, 0, none⟩ 0)) fun x27 =>
  HM.bind (α := ByteArray × ByteArray × Int × Unit) (HM.loadN [.str, .str, .int .i64] ⟨x1, 0, none⟩) fun x28 =>
  HM.bind (α := Unit) (HM.mapSet (Instr.sameNow .string) x26 (.string x27) (.agg #[.string x28.1, .string x28.2.1, .int .i64 x28.2.2.1])) fun _ =>
  HM.pure (0, ()))))))
theorem q_ix (p0 : Option Addr) (p1 : ByteArray × ByteArray × Int × Unit) : denFn Tryz.prog [12] 65 [0, 1, 3, 4, 6, 7, 10, 15, 24, 57] [0, 1, 3, 6, 7, 10, 15, 24, 57] Tryz.f79.results.toList [.one (.int .u8)] (bodyOf Tryz.f79) [Kind.val (.one .ptr) p0, Kind.val (.agg [.str, .str, .int .i64]) p1] = q_de p0 p1 := by kernel_rfl
theorem q_gz (p0 : Option Addr) (p1 : ByteArray × ByteArray × Int × Unit) (h : Heap) (Q : Value → Heap → Prop) (hh : q_de p0 p1 h fun x h' => Q (.int .u8 x.1) h') :
    HCalls Tryz.prog 79 #[.pointer p0, .agg #[.string p1.1, .string p1.2.1, .int .i64 p1.2.2.1]] h Q :=
  q_a Tryz.func79 (by kernel_rfl) Tryz.ntmps79 (by kernel_rfl) (CC Tryz.call12 CN) orders (q_ix p0 p1) hh
def q_du (p0 : Option Addr) (p1 : ByteArray) : HM (Slc × Unit) :=
  HM.bind (α := Bool × Unit) (HM.ite (Option.isNone p0) (
  HM.pure (true, ())) (
  HM.bind (α := Int) (HM.call1 Tryz.prog (.one (.int .u8)) 12 #[.string p1]) fun x1 =>
  HM.pure (!(x1 == 0), ()))) fun x2 =>
  HM.ite x2.1 (
  HM.pure (⟨none, 0, 0⟩, ())) (
  HM.bind (α := Addr) (HM.nonnil p0) fun x3 =>
  HM.bind (α := Option Addr) (HM.load1 .ptr (Addr.add x3 0)) fun x4 =>
  HM.bind (α := Int) (HM.strIdx p1 0) fun x5 =>
  HM.bind (α := Slc) (HM.call1 Tryz.prog (.one .slc) 36 #[.string p1]) fun x6 =>
  HM.bind (α := Option Addr) (HM.load1 .ptr (Addr.add x3 0)) fun x7 =>
  HM.req ((.pointer x7 : Value) = .pointer x4) <|
  HM.bind (α := Slc) (HM.call1 Tryz.prog (.one .slc) 125 #[.pointer x4, .slice none 0 0, .slice x6.a x6.len x6.cap, .bool (x5 == 36), .slice none 0 0]) fun x8 =>
  HM.bind (α := Unit) (HM.callN Tryz.prog [] 126 #[.slice x8.a x8.len x8.cap, .func (.func 127) #[] #[]]) fun x9 =>
  HM.pure (x8, ()))
theorem trie_Trie_Match_den (p0 : Option Addr) (p1 : ByteArray) : denFn Tryz.prog [12, 36, 125, 126] 26 [0, 1, 4, 5, 12] [0, 1, 5, 12] Tryz.f80.results.toList [.one .slc] (bodyOf Tryz.f80) [Kind.val (.one .ptr) p0, Kind.val (.one .str) p1] = q_du p0 p1 := by kernel_rfl
theorem q_he (p0 : Option Addr) (p1 : ByteArray) (h : Heap) (Q : Value → Heap → Prop) (hh : q_du p0 p1 h fun x h' => Q (.slice x.1.a x.1.len x.1.cap) h') :
    HCalls Tryz.prog 80 #[.pointer p0, .string p1] h Q :=
  q_a Tryz.func80 (by kernel_rfl) Tryz.ntmps80 (by kernel_rfl) (CC Tryz.call12 (CC Tryz.call36 (CC Tryz.call125 (CC Tryz.call126 CN)))) orders (trie_Trie_Match_den p0 p1) hh
def q_ct (p0 : Option Addr) (p1 : yS7) : HM (Slc × Int × Unit) :=
  HM.bind (α := Nat) (HM.new (.cells (aS7 p1) 83)) fun x1 =>
  HM.ite (Option.isNone p0) (
  HM.pure (⟨none, 0, 0⟩, 128, ())) (
  HM.bind (α := Bool × Unit) (HM.bind (α := Int) (HM.load1 (.int .i64) (Addr.add ⟨x1, 0, none⟩ 2)) fun x2 =>
  HM.ite (decide (x2 < (0 : Int))) (
  HM.pure (true, ())) (
  HM.bind (α := Int) (HM.load1 (.int .i64) (Addr.add ⟨x1, 0, none⟩ 2)) fun x3 =>
  HM.pure (decide (2 < (x3 : Int)), ()))) fun x4 =>
  HM.ite x4.1 (
  HM.pure (⟨none, 0, 0⟩, 155, ())) (
  HM.bind (α := Bool × Unit) (HM.bind (α := Int) (HM.load1 (.int .i64) (Addr.add ⟨x1, 0, none⟩ 2)) fun x5 =>
  HM.ite (x5 == 0) (
  HM.bind (α := Addr) (HM.nonnil p0) fun x6 =>
  HM.bind (α := Bool) (HM.load1 .bool (Addr.add x6 2)) fun x7 =>
  HM.pure (!x7, ())) (
  HM.pure (false, ()))) fun x8 =>
  HM.ite x8.1 (
  HM.pure (⟨none, 0, 0⟩, 0, ())) (
  HM.bind (α := Addr) (HM.nonnil p0) fun x9 =>
  HM.bind (α := Slc) (HM.load1 .slc (Addr.add x9 4)) fun x10 =>
  HM.ite (decide (256 ≤ (((x10.len : Nat) : Int) : Int))) (
  HM.pure (⟨none, 0, 0⟩, 151, ())) (
  HM.bind (α := Addr) (HM.nonnil p0) fun x11 =>
  HM.bind (α := Slc) (HM.load1 .slc (Addr.add x11 4)) fun x12 =>
  HM.bind (α := yS7) (HM.loadN tS7 ⟨x1, 0, none⟩) fun x13 =>
  HM.bind (α := Nat) (HM.new (.cells (aS7 x13) 83)) fun x14 =>
  HM.bind (α := Slc) (HM.load1 .slc (Addr.add x11 4)) fun x15 =>
  HM.req ((.slice x15.a x15.len x15.cap : Value) = .slice x12.a x12.len x12.cap) <|
  HM.bind (α := Slc) (HM.append 83 5 64 zS7 x12 1 (srcSlc 5 (⟨some ⟨x14, 0, none⟩, 1, 1⟩))) fun x16 =>
  HM.bind (α := Addr) (HM.nonnil p0) fun x17 =>
  HM.bind (α := Unit) (HM.store1 (Addr.add x17 4) (.slice x16.a x16.len x16.cap)) fun _ =>
  HM.bind (α := Slc) (HM.call1 Tryz.prog (.one .slc) 119 #[.pointer p0, .slice none 0 0]) fun x18 =>
  HM.pure (x18, 0, ())))))
theorem q_hu (p0 : Option Addr) (p1 : yS7) : denFn Tryz.prog [119] 48 [0, 1, 3, 4, 5, 6, 9, 18, 29] [0, 1, 3, 6, 9, 18, 29] Tryz.f81.results.toList [.one .slc, .one (.int .u8)] (bodyOf Tryz.f81) [Kind.val (.one .ptr) p0, Kind.val (.agg tS7) p1] = q_ct p0 p1 := by kernel_rfl
theorem q_f2 (p0 : Option Addr) (p1 : yS7) (h : Heap) (Q : Value → Heap → Prop) (hh : q_ct p0 p1 h fun x h' => Q (.tuple #[.slice x.1.a x.1.len x.1.cap, .int .u8 x.2.1]) h') :
    HCalls Tryz.prog 81 #[.pointer p0, .agg (aS7 p1)] h Q :=
  q_a Tryz.func81 (by kernel_rfl) Tryz.ntmps81 (by kernel_rfl) (CC Tryz.call119 CN) orders (q_hu p0 p1) hh
def q_dt (p0 : Option Addr) (p1 : Slc) (p2 : Value) : HM (Unit) :=
  HM.bind (α := Slc) (HM.call1 Tryz.prog (.one .slc) 128 #[.slice p1.a p1.len p1.cap]) fun x1 =>
  HM.bind (α := Slc) (HM.call1 Tryz.prog (.one .slc) 129 #[.pointer p0, .slice x1.a x1.len x1.cap, .slice none 0 0]) fun x2 =>
  HM.bind (α := Int × Unit) (HM.loop (σ := Int × Unit) (τ := Int × Unit) (fun x4 =>
  HM.ite (decide (x4.1 < (((x2.len : Nat) : Int) : Int))) (
  HM.bind (α := Addr) (HM.idx x2.a x2.len x4.1 3) fun x5 =>
  HM.bind (α := Int × ByteArray × Int × Unit) (HM.loadN [.int .i64, .str, .int .i64] x5) fun x6 =>
  HM.bind (α := Nat) (HM.new (.cells #[.int .i64 0, .string (ByteArray.mk #[]), .int .i64 0] 208)) fun x7 =>
  HM.bind (α := Unit) (HM.storeN ⟨x7, 0, none⟩ [.int .i64 x6.1, .string x6.2.1, .int .i64 x6.2.2.1]) fun _ =>
  HM.bind (α := Int × ByteArray × Int × Unit) (HM.loadN [.int .i64, .str, .int .i64] ⟨x7, 0, none⟩) fun x8 =>
  HM.bind (α := Unit) (HM.callVN Tryz.prog [] p2 #[.agg #[.int .i64 x8.1, .string x8.2.1, .int .i64 x8.2.2.1]]) fun x9 =>
  HM.pure (.inl (IntKind.wrap .i64 (x4.1 + 1), ()))) (
  HM.pure (.inr (x4.1, ())))) (0, ())) fun x3 =>
  HM.bind (α := Addr) (HM.nonnil p0) fun x10 =>
  HM.bind (α := Option Nat) (HM.load1 .map (Addr.add x10 1)) fun x11 =>
  HM.bind (α := Nat) (HM.rangeM x11) fun x12 =>
  HM.bind (α := Unit) (HM.loop (σ := Unit) (τ := Unit) (fun x14 =>
  HM.bind (α := Option (Value × Value)) (HM.nextM x12) fun x15 =>
  HM.opt x15 (
  HM.ite false (
  HM.bind (α := ByteArray × Option Addr) (HM.entryM (.one .str) (.one .ptr) x12) fun x17 =>
  HM.bind (α := Nat) (HM.new (.cells #[.string x17.1] 9)) fun x18 =>
  HM.bind (α := Slc) (HM.append 9 1 16 #[.string (ByteArray.mk #[])] x1 1 (srcSlc 1 (⟨some ⟨x18, 0, none⟩, 1, 1⟩))) fun x19 =>
  HM.bind (α := Unit) (HM.callN Tryz.prog [] 82 #[.pointer x17.2, .slice x19.a x19.len x19.cap, p2]) fun x20 =>
  HM.pure (.inl ())) (
  HM.pure (.inr ()))) fun (x16 : Value × Value) =>
  HM.ite true (
  HM.bind (α := ByteArray × Option Addr) (HM.entryM (.one .str) (.one .ptr) x12) fun x21 =>
  HM.bind (α := Nat) (HM.new (.cells #[.string x21.1] 9)) fun x22 =>
  HM.bind (α := Slc) (HM.append 9 1 16 #[.string (ByteArray.mk #[])] x1 1 (srcSlc 1 (⟨some ⟨x22, 0, none⟩, 1, 1⟩))) fun x23 =>
  HM.bind (α := Unit) (HM.callN Tryz.prog [] 82 #[.pointer x21.2, .slice x23.a x23.len x23.cap, p2]) fun x24 =>
  HM.pure (.inl ())) (
  HM.pure (.inr ()))) ()) fun x13 =>
  HM.pure ()
theorem trie_branch_all_den (p0 : Option Addr) (p1 : Slc) (p2 : Value) : denFn Tryz.prog [128, 129, 82] 41 [0, 1, 2, 7, 8, 9, 14, 15, 16, 17, 28, 30] [0, 1, 2, 7, 8, 9, 14, 15, 16, 17, 28, 30] Tryz.f82.results.toList [] (bodyOf Tryz.f82) [Kind.val (.one .ptr) p0, Kind.val (.one .slc) p1, Kind.val (.one .any) p2] = q_dt p0 p1 p2 := by kernel_rfl
theorem q_hd (p0 : Option Addr) (p1 : Slc) (p2 : Value) (h : Heap) (Q : Value → Heap → Prop) (hh : q_dt p0 p1 p2 h fun x h' => Q (.tuple #[]) h') :
    HCalls Tryz.prog 82 #[.pointer p0, .slice p1.a p1.len p1.cap, p2] h Q :=
  q_a Tryz.func82 (by kernel_rfl) Tryz.ntmps82 (by kernel_rfl) (CC Tryz.call128 (CC Tryz.call129 (CC Tryz.call82 CN))) orders (trie_branch_all_den p0 p1 p2) hh
def q_cn (p0 : Option Addr) (p1 : Int) : HM (Bool × Unit) :=
  HM.bind (α := Option Addr) (HM.call1 Tryz.prog (.one .ptr) 99 #[.pointer p0, .int .i64 p1]) fun x1 =>
  HM.bind (α := Bool × Unit) (HM.ite (Option.isNone x1) (
  HM.pure (true, ())) (
  HM.bind (α := Addr) (HM.nonnil x1) fun x2 =>
  HM.bind (α := Bool) (HM.load1 .bool (Addr.add (Addr.add x2 0) 3)) fun x3 =>
  HM.pure (!x3, ()))) fun x4 =>
  HM.ite x4.1 (
  HM.pure (false, ())) (
  HM.bind (α := Addr) (HM.nonnil x1) fun x5 =>
  HM.bind (α := Unit) (HM.store1 (Addr.add (Addr.add x5 0) 3) (.bool false)) fun _ =>
  HM.bind (α := Addr) (HM.nonnil x1) fun x6 =>
  HM.bind (α := Option Addr) (HM.load1 .ptr (Addr.add x6 4)) fun x7 =>
  HM.bind (α := Unit) (HM.callN Tryz.prog [] 152 #[.pointer x7]) fun x8 =>
  HM.bind (α := Addr) (HM.nonnil x1) fun x9 =>
  HM.bind (α := Bool) (HM.load1 .bool (Addr.add (Addr.add x9 0) 2)) fun x10 =>
  HM.bind (α := Unit) (HM.ite (!x10) (
  HM.bind (α := Addr) (HM.nonnil p0) fun x12 =>
  HM.bind (α := Option Nat) (HM.load1 .map (Addr.add x12 1)) fun x13 =>
  HM.bind (α := Unit) (HM.mapDel (Instr.sameNow (.int .i64)) x13 (.int .i64 p1)) fun _ =>
  HM.pure ()) (
  HM.pure ())) fun x11 =>
  HM.bind (α := Addr) (HM.nonnil x1) fun x14 =>
  HM.bind (α := Bool) (HM.load1 .bool (Addr.add (Addr.add x14 0) 2)) fun x15 =>
  HM.pure (!x15, ()))
theorem q_ho (p0 : Option Addr) (p1 : Int) : denFn Tryz.prog [99, 152] 45 [0, 1, 4, 5, 18, 33] [0, 1, 5, 18, 33] Tryz.f95.results.toList [.one .bool] (bodyOf Tryz.f95) [Kind.val (.one .ptr) p0, Kind.val (.one (.int .i64)) p1] = q_cn p0 p1 := by kernel_rfl
theorem q_fw (p0 : Option Addr) (p1 : Int) (h : Heap) (Q : Value → Heap → Prop) (hh : q_cn p0 p1 h fun x h' => Q (.bool x.1) h') :
    HCalls Tryz.prog 95 #[.pointer p0, .int .i64 p1] h Q :=
  q_a Tryz.func95 (by kernel_rfl) Tryz.ntmps95 (by kernel_rfl) (CC Tryz.call99 (CC Tryz.call152 CN)) orders (q_ho p0 p1) hh
def q_by (p0 : Option Addr) (p1 : yS7) : HM (Unit) :=
  HM.bind (α := Nat) (HM.new (.cells (aS7 p1) 83)) fun x1 =>
  HM.bind (α := yS7) (HM.loadN tS7 ⟨x1, 0, none⟩) fun x2 =>
  HM.bind (α := Unit) (HM.callN Tryz.prog [] 43 #[.pointer p0, .agg (aS7 x2)]) fun x3 =>
  HM.bind (α := Addr) (HM.nonnil p0) fun x4 =>
  HM.bind (α := Slc) (HM.load1 .slc (Addr.add (Addr.add x4 2) 1)) fun x5 =>
  HM.bind (α := yS7) (HM.loadN tS7 ⟨x1, 0, none⟩) fun x6 =>
  HM.bind (α := Nat) (HM.new (.cells (aS7 x6) 83)) fun x7 =>
  HM.bind (α := Slc) (HM.load1 .slc (Addr.add (Addr.add x4 2) 1)) fun x8 =>
  HM.req ((.slice x8.a x8.len x8.cap : Value) = .slice x5.a x5.len x5.cap) <|
  HM.bind (α := Slc) (HM.append 83 5 64 zS7 x5 1 (srcSlc 5 (⟨some ⟨x7, 0, none⟩, 1, 1⟩))) fun x9 =>
  HM.bind (α := Addr) (HM.nonnil p0) fun x10 =>
  HM.bind (α := Unit) (HM.store1 (Addr.add (Addr.add x10 2) 1) (.slice x9.a x9.len x9.cap)) fun _ =>
  HM.pure ()
theorem q_gi (p0 : Option Addr) (p1 : yS7) : denFn Tryz.prog [43] 19 [0, 1, 3] [0, 1, 3] Tryz.f96.results.toList [] (bodyOf Tryz.f96) [Kind.val (.one .ptr) p0, Kind.val (.agg tS7) p1] = q_by p0 p1 := by kernel_rfl
theorem q_e6 (p0 : Option Addr) (p1 : yS7) (h : Heap) (Q : Value → Heap → Prop) (hh : q_by p0 p1 h fun x h' => Q (.tuple #[]) h') :
    HCalls Tryz.prog 96 #[.pointer p0, .agg (aS7 p1)] h Q :=
  q_a Tryz.func96 (by kernel_rfl) Tryz.ntmps96 (by kernel_rfl) (CC Tryz.call43 CN) orders (q_gi p0 p1) hh
def q_eo (p0 : Option Addr) : HM ((yS9) × Bool × Unit) :=
  HM.bind (α := Nat) (HM.new (.cells zS9 79)) fun x1 =>
  HM.ite (Option.isNone p0) (
  HM.bind (α := Unit) (HM.storeN ⟨x1, 0, none⟩ [.int .i64 0, .string (ByteArray.mk #[]), .bool false, .bool false]) fun _ =>
  HM.bind (α := yS9) (HM.loadN tS9 ⟨x1, 0, none⟩) fun x2 =>
  HM.pure ((x2.1, x2.2.1, x2.2.2.1, x2.2.2.2.1, ()), false, ())) (
  HM.bind (α := Addr) (HM.nonnil p0) fun x3 =>
  HM.bind (α := yS9) (HM.loadN tS9 (Addr.add x3 0)) fun x4 =>
  HM.bind (α := Unit) (HM.storeN ⟨x1, 0, none⟩ (lS9 x4)) fun _ =>
  HM.bind (α := yS9) (HM.loadN tS9 ⟨x1, 0, none⟩) fun x5 =>
  HM.pure ((x5.1, x5.2.1, x5.2.2.1, x5.2.2.2.1, ()), true, ()))
theorem session_info_den (p0 : Option Addr) : denFn Tryz.prog [] 11 [0, 2, 3, 5] [0, 2, 5] Tryz.f97.results.toList [.agg tS9, .one .bool] (bodyOf Tryz.f97) [Kind.val (.one .ptr) p0] = q_eo p0 := by kernel_rfl
theorem q_en (p0 : Option Addr) (h : Heap) (Q : Value → Heap → Prop) (hh : q_eo p0 h fun x h' => Q (.tuple #[.agg (aS9 x.1), .bool x.2.1]) h') :
    HCalls Tryz.prog 97 #[.pointer p0] h Q :=
  q_a Tryz.func97 (by kernel_rfl) Tryz.ntmps97 (by kernel_rfl) CN orders (session_info_den p0) hh
def q_db (p0 : Option Addr) (p1 : ByteArray) : HM (Option Addr × Unit) :=
  HM.bind (α := (Unit) ⊕ (Option Addr × Unit)) (HM.ite (!(Option.isNone p0)) (
  HM.bind (α := Addr) (HM.nonnil p0) fun x2 =>
  HM.bind (α := Option Nat) (HM.load1 .map (Addr.add x2 1)) fun x3 =>
  HM.bind (α := Nat) (HM.rangeM x3) fun x4 =>
  HM.bind (α := (Unit) ⊕ ((Unit) ⊕ (Option Addr × Unit))) (HM.loop (σ := Unit) (τ := (Unit) ⊕ ((Unit) ⊕ (Option Addr × Unit))) (fun x6 =>
  HM.bind (α := Option (Value × Value)) (HM.nextM x4) fun x7 =>
  HM.opt x7 (
  HM.ite false (
  HM.bind (α := Value × Option Addr) (HM.entryM (.one .any) (.one .ptr) x4) fun x9 =>
  HM.bind (α := Addr) (HM.nonnil x9.2) fun x10 =>
  HM.bind (α := ByteArray) (HM.load1 .str (Addr.add (Addr.add x10 0) 1)) fun x11 =>
  HM.ite (decide (x11 = p1)) (
  HM.pure (.inr (.inr (.inr (x9.2, ()))))) (
  HM.pure (.inl ()))) (
  HM.pure (.inr (.inl ())))) fun (x8 : Value × Value) =>
  HM.ite true (
  HM.bind (α := Value × Option Addr) (HM.entryM (.one .any) (.one .ptr) x4) fun x12 =>
  HM.bind (α := Addr) (HM.nonnil x12.2) fun x13 =>
  HM.bind (α := ByteArray) (HM.load1 .str (Addr.add (Addr.add x13 0) 1)) fun x14 =>
  HM.ite (decide (x14 = p1)) (
  HM.pure (.inr (.inr (.inr (x12.2, ()))))) (
  HM.pure (.inl ()))) (
  HM.pure (.inr (.inl ())))) ()) (Sum.elim (fun x5 =>
  HM.pure (.inl ())) HM.pure)) (
  HM.pure (.inl ()))) (Sum.elim (fun x1 =>
  HM.pure (none, ())) HM.pure)
theorem q_iu (p0 : Option Addr) (p1 : ByteArray) : denFn Tryz.prog [] 26 [0, 1, 4, 6, 8, 13, 15, 24] [0, 1, 6, 8, 13, 15, 24] Tryz.f98.results.toList [.one .ptr] (bodyOf Tryz.f98) [Kind.val (.one .ptr) p0, Kind.val (.one .str) p1] = q_db p0 p1 := by kernel_rfl
theorem q_gu (p0 : Option Addr) (p1 : ByteArray) (h : Heap) (Q : Value → Heap → Prop) (hh : q_db p0 p1 h fun x h' => Q (.pointer x.1) h') :
    HCalls Tryz.prog 98 #[.pointer p0, .string p1] h Q :=
  q_a Tryz.func98 (by kernel_rfl) Tryz.ntmps98 (by kernel_rfl) CN orders (q_iu p0 p1) hh
def q_dc (p0 : Option Addr) (p1 : Int) : HM (Option Addr × Unit) :=
  HM.ite (Option.isNone p0) (
  HM.pure (none, ())) (
  HM.bind (α := Addr) (HM.nonnil p0) fun x1 =>
  HM.bind (α := Option Nat) (HM.load1 .map (Addr.add x1 1)) fun x2 =>
  HM.bind (α := Option Addr × Bool) (HM.lookup (Instr.sameNow (.int .i64)) (.pointer none) (.one .ptr) x2 (.int .i64 p1)) fun x3 =>
  HM.pure (x3.1, ()))
theorem q_iv (p0 : Option Addr) (p1 : Int) : denFn Tryz.prog [] 13 [0, 1, 4, 6] [0, 1, 6] Tryz.f99.results.toList [.one .ptr] (bodyOf Tryz.f99) [Kind.val (.one .ptr) p0, Kind.val (.one (.int .i64)) p1] = q_dc p0 p1 := by kernel_rfl
theorem q_gv (p0 : Option Addr) (p1 : Int) (h : Heap) (Q : Value → Heap → Prop) (hh : q_dc p0 p1 h fun x h' => Q (.pointer x.1) h') :
    HCalls Tryz.prog 99 #[.pointer p0, .int .i64 p1] h Q :=
  q_a Tryz.func99 (by kernel_rfl) Tryz.ntmps99 (by kernel_rfl) CN orders (q_iv p0 p1) hh
def text_next (p0 : ByteArray) : HM (Int × Unit) :=
  HM.bind (α := Int × Int × Unit) (HM.callN Tryz.prog [.one (.int .i32), .one (.int .i64)] 153 #[.string p0]) fun x1 =>
  HM.bind (α := Bool × Unit) (HM.ite (x1.1 == 0) (
  HM.pure (true, ())) (
  HM.ite (x1.1 == 65533) (
  HM.pure (decide (x1.2.1 < (2 : Int)), ())) (
  HM.pure (false, ())))) fun x2 =>
  HM.ite x2.1 (
  HM.pure (0, ())) (
  HM.pure (x1.2.1, ()))
theorem text_next_den (p0 : ByteArray) : denFn Tryz.prog [153] 21 [0, 2, 3, 4, 19] [0, 3, 4, 19] Tryz.f102.results.toList [.one (.int .i64)] (bodyOf Tryz.f102) [Kind.val (.one .str) p0] = text_next p0 := by kernel_rfl
theorem text_next_calls (p0 : ByteArray) (h : Heap) (Q : Value → Heap → Prop) (hh : text_next p0 h fun x h' => Q (.int .i64 x.1) h') :
    HCalls Tryz.prog 102 #[.string p0] h Q :=
  q_a Tryz.func102 (by kernel_rfl) Tryz.ntmps102 (by kernel_rfl) (CC Tryz.call153 CN) orders (text_next_den p0) hh
def q_dd (p0 : Option Addr) (p1 : Int) : HM (Option Addr × Unit) :=
  HM.bind (α := Option Addr) (HM.call1 Tryz.prog (.one .ptr) 99 #[.pointer p0, .int .i64 p1]) fun x1 =>
  HM.ite (!(Option.isNone x1)) (
  HM.bind (α := Addr) (HM.nonnil x1) fun x2 =>
  HM.bind (α := Option Addr) (HM.load1 .ptr (Addr.add x2 5)) fun x3 =>
  HM.pure (x3, ())) (
  HM.pure (none, ()))
theorem q_iw (p0 : Option Addr) (p1 : Int) : denFn Tryz.prog [99] 15 [0, 1, 4, 5, 10] [0, 1, 5, 10] Tryz.f106.results.toList [.one .ptr] (bodyOf Tryz.f106) [Kind.val (.one .ptr) p0, Kind.val (.one (.int .i64)) p1] = q_dd p0 p1 := by kernel_rfl
theorem q_gx (p0 : Option Addr) (p1 : Int) (h : Heap) (Q : Value → Heap → Prop) (hh : q_dd p0 p1 h fun x h' => Q (.pointer x.1) h') :
    HCalls Tryz.prog 106 #[.pointer p0, .int .i64 p1] h Q :=
  q_a Tryz.func106 (by kernel_rfl) Tryz.ntmps106 (by kernel_rfl) (CC Tryz.call99 CN) orders (q_iw p0 p1) hh
def q_dg (p0 : Option Addr) (p1 : yS2) (p2 : Int) : HM (Bool × Slc × Int × Unit) :=
  HM.bind (α := Nat) (HM.new (.cells (aS3 p1) 45)) fun x1 =>
  HM.ite (Option.isNone p0) (
  HM.pure (false, ⟨none, 0, 0⟩, 128, ())) (
  HM.bind (α := Bool × Unit) (HM.bind (α := Int) (HM.load1 (.int .i64) (Addr.add ⟨x1, 0, none⟩ 0)) fun x2 =>
  HM.ite (x2 == 3) (
  HM.bind (α := Int) (HM.load1 (.int .i64) (Addr.add ⟨x1, 0, none⟩ 3)) fun x3 =>
  HM.pure (x3 == 0, ())) (
  HM.pure (false, ()))) fun x4 =>
  HM.bind (α := Bool × Unit) (HM.bind (α := Int) (HM.load1 (.int .i64) (Addr.add ⟨x1, 0, none⟩ 0)) fun x5 =>
  HM.ite (!(x5 == 3)) (
  HM.bind (α := Int) (HM.load1 (.int .i64) (Addr.add ⟨x1, 0, none⟩ 0)) fun x6 =>
  HM.ite (!(x6 == 6)) (
  HM.pure (true, ())) (
  HM.bind (α := Int) (HM.load1 (.int .i64) (Addr.add ⟨x1, 0, none⟩ 0)) fun x7 =>
  HM.ite (x7 == 3) (
  HM.bind (α := Int) (HM.load1 (.int .i64) (Addr.add ⟨x1, 0, none⟩ 3)) fun x8 =>
  HM.ite (decide (x8 < (0 : Int))) (
  HM.pure (true, ())) (
  HM.bind (α := Int) (HM.load1 (.int .i64) (Addr.add ⟨x1, 0, none⟩ 3)) fun x9 =>
  HM.ite (decide (2 < (x9 : Int))) (
  HM.pure (true, ())) (
  HM.ite (!x4.1) (
  HM.bind (α := Int) (HM.load1 (.int .i64) (Addr.add ⟨x1, 0, none⟩ 4)) fun x10 =>
  HM.ite (decide (x10 < (1 : Int))) (
  HM.pure (true, ())) (
  HM.bind (α := Int) (HM.load1 (.int .i64) (Addr.add ⟨x1, 0, none⟩ 4)) fun x11 =>
  HM.pure (decide (65535 < (x11 : Int)), ()))) (
  HM.pure (false, ()))))) (
  HM.ite (!x4.1) (
  HM.bind (α := Int) (HM.load1 (.int .i64) (Addr.add ⟨x1, 0, none⟩ 4)) fun x12 =>
  HM.ite (decide (x12 < (1 : Int))) (
  HM.pure (true, ())) (
  HM.bind (α := Int) (HM.load1 (.int .i64) (Addr.add ⟨x1, 0, none⟩ 4)) fun x13 =>
  HM.pure (decide (65535 < (x13 : Int)), ()))) (
  HM.pure (false, ()))))) (
  HM.bind (α := Int) (HM.load1 (.int .i64) (Addr.add ⟨x1, 0, none⟩ 0)) fun x14 =>
  HM.ite (x14 == 3) (
  HM.bind (α := Int) (HM.load1 (.int .i64) (Addr.add ⟨x1, 0, none⟩ 3)) fun x15 =>
  HM.ite (decide (x15 < (0 : Int))) (
  HM.pure (true, ())) (
  HM.bind (α := Int) (HM.load1 (.int .i64) (Addr.add ⟨x1, 0, none⟩ 3)) fun x16 =>
  HM.ite (decide (2 < (x16 : Int))) (
  HM.pure (true, ())) (
  HM.ite (!x4.1) (
  HM.bind (α := Int) (HM.load1 (.int .i64) (Addr.add ⟨x1, 0, none⟩ 4)) fun x17 =>
  HM.ite (decide (x17 < (1 : Int))) (
  HM.pure (true, ())) (
  HM.bind (α := Int) (HM.load1 (.int .i64) (Addr.add ⟨x1, 0, none⟩ 4)) fun x18 =>
  HM.pure (decide (65535 < (x18 : Int)), ()))) (
  HM.pure (false, ()))))) (
  HM.ite (!x4.1) (
  HM.bind (α := Int) (HM.load1 (.int .i64) (Addr.add ⟨x1, 0, none⟩ 4)) fun x19 =>
  HM.ite (decide (x19 < (1 : Int))) (
  HM.pure (true, ())) (
  HM.bind (α := Int) (HM.load1 (.int .i64) (Addr.add ⟨x1, 0, none⟩ 4)) fun x20 =>
  HM.pure (decide (65535 < (x20 : Int)), ()))) (
  HM.pure (false, ()))))) fun x21 =>
  HM.ite x21.1 (
  HM.pure (false, ⟨none, 0, 0⟩, 130, ())) (
  HM.ite x4.1 (
  HM.pure (true, ⟨none, 0, 0⟩, 0, ())) (
  HM.bind (α := Bool × Unit) (HM.bind (α := Int) (HM.load1 (.int .i64) (Addr.add ⟨x1, 0, none⟩ 0)) fun x22 =>
  HM.ite (x22 == 6) (
  HM.bind (α := Addr) (HM.nonnil p0) fun x23 =>
  HM.bind (α := Option Addr) (HM.load1 .ptr (Addr.add x23 0)) fun x24 =>
  HM.bind (α := Int) (HM.load1 (.int .i64) (Addr.add ⟨x1, 0, none⟩ 4)) fun x25 =>
  HM.bind (α := Bool) (HM.call1 Tryz.prog (.one .bool) 158 #[.pointer x24, .int .i64 x25]) fun x26 =>
  HM.pure (x26, ())) (
  HM.pure (false, ()))) fun x27 =>
  HM.ite x27.1 (
  HM.bind (α := Int) (HM.load1 (.int .i64) (Addr.add ⟨x1, 0, none⟩ 4)) fun x28 =>
  HM.bind (α := Slc) (HM.call1 Tryz.prog (.one .slc) 159 #[.int .i64 7, .int .i64 x28, .int .u8 0]) fun x29 =>
  HM.pure (false, x29, 0, ())) (
  HM.bind (α := Int) (HM.load1 (.int .i64) (Addr.add ⟨x1, 0, none⟩ 0)) fun x30 =>
  HM.ite (x30 == 6) (
  HM.bind (α := Int) (HM.load1 (.int .i64) (Addr.add ⟨x1, 0, none⟩ 4)) fun x31 =>
  HM.bind (α := Slc) (HM.call1 Tryz.prog (.one .slc) 159 #[.int .i64 7, .int .i64 x31, .int .u8 146]) fun x32 =>
  HM.pure (false, x32, 0, ())) (
  HM.bind (α := Int) (HM.load1 (.int .i64) (Addr.add ⟨x1, 0, none⟩ 3)) fun x33 =>
  HM.ite (x33 == 1) (
  HM.bind (α := Int) (HM.load1 (.int .i64) (Addr.add ⟨x1, 0, none⟩ 4)) fun x34 =>
  HM.bind (α := Slc) (HM.call1 Tryz.prog (.one .slc) 159 #[.int .i64 4, .int .i64 x34, .int .u8 p2]) fun x35 =>
  HM.pure (true, x35, 0, ())) (
  HM.bind (α := Int) (HM.load1 (.int .i64) (Addr.add ⟨x1, 0, none⟩ 4)) fun x36 =>
  HM.bind (α := Bool × Slc × Int × Unit) (HM.callN Tryz.prog [.one .bool, .one .slc, .one (.int .u8)] 160 #[.pointer p0, .int .i64 x36, .int .u8 p2]) fun x37 =>
  HM.pure (x37.1, x37.2.1, x37.2.2.1, ())))))))
theorem q_iz (p0 : Option Addr) (p1 : yS2) (p2 : Int) : denFn Tryz.prog [158, 159, 160] 98 [0, 1, 2, 4, 6, 7, 8, 9, 11, 56, 57, 59, 75, 82] [0, 1, 2, 4, 9, 11, 56, 57, 59, 75, 82] Tryz.f107.results.toList [.one .bool, .one .slc, .one (.int .u8)] (bodyOf Tryz.f107) [Kind.val (.one .ptr) p0, Kind.val (.agg tS3) p1, Kind.val (.one (.int .u8)) p2] = q_dg p0 p1 p2 := by kernel_rfl
theorem q_g3 (p0 : Option Addr) (p1 : yS2) (p2 : Int) (h : Heap) (Q : Value → Heap → Prop) (hh : q_dg p0 p1 p2 h fun x h' => Q (.tuple #[.bool x.1, .slice x.2.1.a x.2.1.len x.2.1.cap, .int .u8 x.2.2.1]) h') :
    HCalls Tryz.prog 107 #[.pointer p0, .agg (aS3 p1), .int .u8 p2] h Q :=
  q_a Tryz.func107 (by kernel_rfl) Tryz.ntmps107 (by kernel_rfl) (CC Tryz.call158 (CC Tryz.call159 (CC Tryz.call160 CN))) orders (q_iz p0 p1 p2) hh
def q_bv (p0 : Option Addr) (p1 : yS2) : HM (Slc × Int × Unit) :=
  HM.bind (α := Nat) (HM.new (.cells (aS3 p1) 45)) fun x1 =>
  HM.ite (Option.isNone p0) (
  HM.pure (⟨none, 0, 0⟩, 128, ())) (
  HM.bind (α := Bool × Unit) (HM.bind (α := Addr) (HM.nonnil p0) fun x2 =>
  HM.bind (α := Bool) (HM.load1 .bool (Addr.add x2 2)) fun x3 =>
  HM.ite (!x3) (
  HM.pure (true, ())) (
  HM.bind (α := Int) (HM.load1 (.int .i64) (Addr.add ⟨x1, 0, none⟩ 0)) fun x4 =>
  HM.ite (!(x4 == 4)) (
  HM.bind (α := Int) (HM.load1 (.int .i64) (Addr.add ⟨x1, 0, none⟩ 0)) fun x5 =>
  HM.ite (!(x5 == 5)) (
  HM.bind (α := Int) (HM.load1 (.int .i64) (Addr.add ⟨x1, 0, none⟩ 0)) fun x6 =>
  HM.pure (!(x6 == 7), ())) (
  HM.pure (false, ()))) (
  HM.pure (false, ())))) fun x7 =>
  HM.ite x7.1 (
  HM.pure (⟨none, 0, 0⟩, 130, ())) (
  HM.bind (α := Addr) (HM.nonnil p0) fun x8 =>
  HM.bind (α := Slc) (HM.load1 .slc (Addr.add x8 3)) fun x9 =>
  HM.bind (α := Int) (HM.call1 Tryz.prog (.one (.int .i64)) 161 #[.slice x9.a x9.len x9.cap, .func (.func 162) #[] #[.pointer (some ⟨x1, 0, none⟩)]]) fun x10 =>
  HM.ite (decide (x10 < (0 : Int))) (
  HM.pure (⟨none, 0, 0⟩, 146, ())) (
  HM.bind (α := Addr) (HM.nonnil p0) fun x11 =>
  HM.bind (α := Slc) (HM.load1 .slc (Addr.add x11 3)) fun x12 =>
  HM.bind (α := Addr) (HM.idx x12.a x12.len x10 7) fun x13 =>
  HM.bind (α := Int) (HM.load1 (.int .i64) (Addr.add ⟨x1, 0, none⟩ 0)) fun x14 =>
  HM.bind (α := (Slc × Unit) ⊕ (Slc × Int × Unit)) (HM.ite (x14 == 4) (
  HM.bind (α := Addr) (HM.nonnil (some x13)) fun x16 =>
  HM.bind (α := Int) (HM.load1 (.int .i64) (Addr.add (Addr.add x16 1) 2)) fun x17 =>
  HM.ite (!(x17 == 1)) (
  HM.pure (.inr (⟨none, 0, 0⟩, 130, ()))) (
  HM.bind (α := Unit) (HM.callN Tryz.prog [] 163 #[.pointer p0, .int .i64 x10]) fun x18 =>
  HM.pure (.inl (⟨none, 0, 0⟩, ())))) (
  HM.bind (α := (Slc × Unit) ⊕ ((Slc × Unit) ⊕ (Slc × Int × Unit))) (HM.ite (x14 == 5) (
  HM.bind (α := Addr) (HM.nonnil (some x13)) fun x20 =>
  HM.bind (α := Int) (HM.load1 (.int .i64) (Addr.add (Addr.add x20 1) 2)) fun x21 =>
  HM.bind (α := Bool × Unit) (HM.ite (!(x21 == 2)) (
  HM.pure (!(x21 == 2), ())) (
  HM.bind (α := Bool × Unit) (HM.bind (α := Int) (HM.load1 (.int .u8) (Addr.add ⟨x1, 0, none⟩ 7)) fun x23 =>
  HM.ite (decide (128 ≤ (x23 : Int))) (
  HM.bind (α := Addr) (HM.nonnil (some x13)) fun x24 =>
  HM.bind (α := Bool) (HM.load1 .bool (Addr.add x24 6)) fun x25 =>
  HM.pure (x25, ())) (
  HM.pure (false, ()))) fun x26 =>
  HM.pure (x26.1, ()))) fun x22 =>
  HM.ite x22.1 (
  HM.pure (.inr (.inr (⟨none, 0, 0⟩, 130, ())))) (
  HM.bind (α := Int) (HM.load1 (.int .u8) (Addr.add ⟨x1, 0, none⟩ 7)) fun x27 =>
  HM.bind (α := Slc × Unit) (HM.ite (decide (128 ≤ (x27 : Int))) (
  HM.bind (α := Unit) (HM.callN Tryz.prog [] 163 #[.pointer p0, .int .i64 x10]) fun x29 =>
  HM.pure (⟨none, 0, 0⟩, ())) (
  HM.bind (α := Addr) (HM.nonnil (some x13)) fun x30 =>
  HM.bind (α := Unit) (HM.store1 (Addr.add x30 6) (.bool true)) fun _ =>
  HM.bind (α := Int) (HM.load1 (.int .i64) (Addr.add ⟨x1, 0, none⟩ 4)) fun x31 =>
  HM.bind (α := Nat) (HM.new (.cells #[.int .i64 6, .bool false, .bool false, .int .i64 0, .int .i64 x31, .string (ByteArray.mk #[]), .string (ByteArray.mk #[]), .int .u8 0, .slice none 0 0, .slice none 0 0, .string (ByteArray.mk #[]), .bool false, .int .i64 0, .bool false, .string (ByteArray.mk #[]), .string (ByteArray.mk #[]), .int .i64 0, .bool false, .slice none 0 0, .bool false, .bool false, .string (ByteArray.mk #[]), .string (ByteArray.mk #[]), .bool false, .slice none 0 0, .slice none 0 0] 45)) fun x32 =>
  HM.bind (α := Slc) (HM.append 45 26 328 zS3 ⟨none, 0, 0⟩ 1 (srcSlc 26 (⟨some ⟨x32, 0, none⟩, 1, 1⟩))) fun x33 =>
  HM.pure (x33, ()))) fun x28 =>
  HM.pure (.inl (x28.1, ())))) (
  HM.bind (α := Addr) (HM.nonnil (some x13)) fun x34 =>
  HM.bind (α := Bool) (HM.load1 .bool (Addr.add x34 6)) fun x35 =>
  HM.ite (!x35) (
  HM.pure (.inr (.inr (⟨none, 0, 0⟩, 130, ())))) (
  HM.bind (α := Unit) (HM.callN Tryz.prog [] 163 #[.pointer p0, .int .i64 x10]) fun x36 =>
  HM.pure (.inl (⟨none, 0, 0⟩, ()))))) (Sum.elim (fun x19 =>
  HM.pure (.inl (x19.1, ()))) HM.pure))) (Sum.elim (fun x15 =>
  HM.bind (α := Slc) (HM.call1 Tryz.prog (.one .slc) 119 #[.pointer p0, .slice x15.1.a x15.1.len x15.1.cap]) fun x37 =>
  HM.pure (x37, 0, ())) HM.pure))))
theorem q_f3 (p0 : Option Addr) (p1 : yS2) : denFn Tryz.prog [161, 163, 119] 103 [0, 1, 3, 4, 5, 6, 7, 8, 10, 30, 38, 46, 51, 55, 62, 66, 77, 93] [0, 1, 3, 6, 7, 8, 10, 30, 38, 46, 51, 55, 62, 66, 77, 93] Tryz.f108.results.toList [.one .slc, .one (.int .u8)] (bodyOf Tryz.f108) [Kind.val (.one .ptr) p0, Kind.val (.agg tS3) p1] = q_bv p0 p1 := by kernel_rfl
theorem q_e1 (p0 : Option Addr) (p1 : yS2) (h : Heap) (Q : Value → Heap → Prop) (hh : q_bv p0 p1 h fun x h' => Q (.tuple #[.slice x.1.a x.1.len x.1.cap, .int .u8 x.2.1]) h') :
    HCalls Tryz.prog 108 #[.pointer p0, .agg (aS3 p1)] h Q :=
  q_a Tryz.func108 (by kernel_rfl) Tryz.ntmps108 (by kernel_rfl) (CC Tryz.call161 (CC Tryz.call163 (CC Tryz.call119 CN))) orders (q_f3 p0 p1) hh
def q_fq (p0 : Option Addr) (p1 : Int × ByteArray × Int × Unit) : HM (Int × Unit) :=
  HM.bind (α := Nat) (HM.new (.cells #[.int .i64 p1.1, .string p1.2.1, .int .i64 p1.2.2.1] 208)) fun x1 =>
  HM.ite (Option.isNone p0) (
  HM.pure (128, ())) (
  HM.bind (α := ByteArray) (HM.load1 .str (Addr.add ⟨x1, 0, none⟩ 1)) fun x2 =>
  HM.bind (α := Int) (HM.call1 Tryz.prog (.one (.int .u8)) 35 #[.string x2]) fun x3 =>
  HM.ite (!(x3 == 0)) (
  HM.pure (143, ())) (
  HM.bind (α := Bool × Unit) (HM.bind (α := Int) (HM.load1 (.int .i64) (Addr.add ⟨x1, 0, none⟩ 2)) fun x4 =>
  HM.ite (decide (x4 < (0 : Int))) (
  HM.pure (true, ())) (
  HM.bind (α := Int) (HM.load1 (.int .i64) (Addr.add ⟨x1, 0, none⟩ 2)) fun x5 =>
  HM.pure (decide (2 < (x5 : Int)), ()))) fun x6 =>
  HM.ite x6.1 (
  HM.pure (155, ())) (
  HM.bind (α := ByteArray) (HM.load1 .str (Addr.add ⟨x1, 0, none⟩ 1)) fun x7 =>
  HM.bind (α := Option Addr) (HM.call1 Tryz.prog (.one .ptr) 164 #[.pointer p0, .string x7]) fun x8 =>
  HM.bind (α := (Unit) ⊕ (Int × Unit)) (HM.ite (!(Option.isNone x8)) (
  HM.bind (α := Addr) (HM.nonnil x8) fun x10 =>
  HM.bind (α := Option Nat) (HM.load1 .map (Addr.add x10 0)) fun x11 =>
  HM.bind (α := Int) (HM.load1 (.int .i64) (Addr.add ⟨x1, 0, none⟩ 0)) fun x12 =>
  HM.bind (α := Int × Bool) (HM.lookup (Instr.sameNow (.int .i64)) (.int .i64 0) (.one (.int .i64)) x11 (.int .i64 x12)) fun x13 =>
  HM.ite x13.2 (
  HM.bind (α := Addr) (HM.nonnil x8) fun x14 =>
  HM.bind (α := Option Nat) (HM.load1 .map (Addr.add x14 0)) fun x15 =>
  HM.bind (α := Int) (HM.load1 (.int .i64) (Addr.add ⟨x1, 0, none⟩ 0)) fun x16 =>
  HM.bind (α := Int) (HM.load1 (.int .i64) (Addr.add ⟨x1, 0, none⟩ 2)) fun x17 =>
  HM.bind (α := Unit) (HM.mapSet (Instr.sameNow (.int .i64)) x15 (.int .i64 x16) (.int .i64 x17)) fun _ =>
  HM.pure (.inr (0, ()))) (
  HM.pure (.inl ()))) (
  HM.pure (.inl ()))) (Sum.elim (fun x9 =>
  HM.bind (α := Addr) (HM.nonnil p0) fun x18 =>
  HM.bind (α := Option Nat) (HM.load1 .map (Addr.add x18 1)) fun x19 =>
  HM.bind (α := Int) (HM.load1 (.int .i64) (Addr.add ⟨x1, 0, none⟩ 0)) fun x20 =>
  HM.bind (α := Int × Bool) (HM.lookup (Instr.sameNow (.int .i64)) (.int .i64 0) (.one (.int .i64)) x19 (.int .i64 x20)) fun x21 =>
  HM.ite (decide (64 ≤ (x21.1 : Int))) (
  HM.pure (151, ())) (
  HM.bind (α := Addr) (HM.nonnil p0) fun x22 =>
  HM.bind (α := Option Addr) (HM.load1 .ptr (Addr.add x22 0)) fun x23 =>
  HM.bind (α := ByteArray) (HM.load1 .str (Addr.add ⟨x1, 0, none⟩ 1)) fun x24 =>
  HM.bind (α := Slc) (HM.call1 Tryz.prog (.one .slc) 36 #[.string x24]) fun x25 =>
  HM.bind (α := Option Addr × Int × Unit) (HM.loop (σ := Option Addr × Int × Unit) (τ := Option Addr × Int × Unit) (fun x27 =>
  HM.ite (decide (x27.2.1 < (((x25.len : Nat) : Int) : Int))) (
  HM.bind (α := Addr) (HM.idx x25.a x25.len x27.2.1 1) fun x28 =>
  HM.bind (α := ByteArray) (HM.load1 .str x28) fun x29 =>
  HM.bind (α := Addr) (HM.nonnil x27.1) fun x30 =>
  HM.bind (α := Option Nat) (HM.load1 .map (Addr.add x30 1)) fun x31 =>
  HM.bind (α := Option Addr × Bool) (HM.lookup (Instr.sameNow .string) (.pointer none) (.one .ptr) x31 (.string x29)) fun x32 =>
  HM.bind (α := Unit) (HM.ite (Option.isNone x32.1) (
  HM.bind (α := Addr) (HM.nonnil x27.1) fun x34 =>
  HM.bind (α := Option Nat) (HM.load1 .map (Addr.add x34 1)) fun x35 =>
  HM.bind (α := Option Addr) (HM.call1 Tryz.prog (.one .ptr) 59 #[]) fun x36 =>
  HM.bind (α := Option Nat) (HM.load1 .map (Addr.add x34 1)) fun x37 =>
  HM.req ((.map x37 : Value) = .map x35) <|
  HM.bind (α := Unit) (HM.mapSet (Instr.sameNow .string) x35 (.string x29) (.pointer x36)) fun _ =>
  HM.pure ()) (
  HM.pure ())) fun x33 =>
  HM.bind (α := Addr) (HM.nonnil x27.1) fun x38 =>
  HM.bind (α := Option Nat) (HM.load1 .map (Addr.add x38 1)) fun x39 =>
  HM.bind (α := Option Addr × Bool) (HM.lookup (Instr.sameNow .string) (.pointer none) (.one .ptr) x39 (.string x29)) fun x40 =>
  HM.pure (.inl (x40.1, IntKind.wrap .i64 (x27.2.1 + 1), ()))) (
  HM.pure (.inr (x27.1, x27.2.1, ())))) (x23, 0, ())) fun x26 =>
  HM.bind (α := Addr) (HM.nonnil x26.1) fun x41 =>
  HM.bind (α := Option Nat) (HM.load1 .map (Addr.add x41 0)) fun x42 =>
  HM.bind (α := Int) (HM.load1 (.int .i64) (Addr.add ⟨x1, 0, none⟩ 0)) fun x43 =>
  HM.bind (α := Int) (HM.load1 (.int .i64) (Addr.add ⟨x1, 0, none⟩ 2)) fun x44 =>
  HM.bind (α := Unit) (HM.mapSet (Instr.sameNow (.int .i64)) x42 (.int .i64 x43) (.int .i64 x44)) fun _ =>
  HM.bind (α := Addr) (HM.nonnil p0) fun x45 =>
  HM.bind (α := Option Nat) (HM.load1 .map (Addr.add x45 1)) fun x46 =>
  HM.bind (α := Int) (HM.load1 (.int .i64) (Addr.add ⟨x1, 0, none⟩ 0)) fun x47 =>
  HM.bind (α := Int × Bool) (HM.lookup (Instr.sameNow (.int .i64)) (.int .i64 0) (.one (.int .i64)) x46 (.int .i64 x47)) fun x48 =>
  HM.bind (α := Unit) (HM.mapSet (Instr.sameNow (.int .i64)) x46 (.int .i64 x47) (.int .i64 (IntKind.wrap .i64 (x48.1 + 1)))) fun _ =>
  HM.pure (0, ()))) HM.pure))))
theorem trie_Trie_Add_den (p0 : Option Addr) (p1 : Int × ByteArray × Int × Unit) : denFn Tryz.prog [35, 164, 36, 59] 109 [0, 1, 3, 4, 5, 7, 8, 10, 11, 14, 19, 33, 44, 60, 67, 68, 69, 70, 79] [0, 1, 3, 5, 7, 8, 10, 11, 14, 19, 33, 44, 60, 67, 68, 69, 70, 79] Tryz.f109.results.toList [.one (.int .u8)] (bodyOf Tryz.f109) [Kind.val (.one .ptr) p0, Kind.val (.agg [.int .i64, .str, .int .i64]) p1] = q_fq p0 p1 := by kernel_rfl
theorem trie_Trie_Add_calls (p0 : Option Addr) (p1 : Int × ByteArray × Int × Unit) (h : Heap) (Q : Value → Heap → Prop) (hh : q_fq p0 p1 h fun x h' => Q (.int .u8 x.1) h') :
    HCalls Tryz.prog 109 #[.pointer p0, .agg #[.int .i64 p1.1, .string p1.2.1, .int .i64 p1.2.2.1]] h Q :=
  q_a Tryz.func109 (by kernel_rfl) Tryz.ntmps109 (by kernel_rfl) (CC Tryz.call35 (CC Tryz.call164 (CC Tryz.call36 (CC Tryz.call59 CN)))) orders (trie_Trie_Add_den p0 p1) hh
def q_b9 (p0 : Option Addr) (p1 : ByteArray) : HM (Slc × Unit) :=
  HM.ite (Option.isNone p0) (
  HM.pure (⟨none, 0, 0⟩, ())) (
  HM.bind (α := Addr) (HM.nonnil p0) fun x1 =>
  HM.bind (α := Option Nat) (HM.load1 .map (Addr.add x1 1)) fun x2 =>
  HM.bind (α := Value) (HM.call1 Tryz.prog (.one .any) 165 #[.map x2]) fun x3 =>
  HM.bind (α := Slc) (HM.call1 Tryz.prog (.one .slc) 84 #[x3]) fun x4 =>
  HM.bind (α := Slc × Int × Unit) (HM.loop (σ := Slc × Int × Unit) (τ := Slc × Int × Unit) (fun x6 =>
  HM.ite (decide (x6.2.1 < (((x4.len : Nat) : Int) : Int))) (
  HM.bind (α := Addr) (HM.idx x4.a x4.len x6.2.1 1) fun x7 =>
  HM.bind (α := ByteArray) (HM.load1 .str x7) fun x8 =>
  HM.bind (α := Bool) (HM.call1 Tryz.prog (.one .bool) 14 #[.string p1, .string x8]) fun x9 =>
  HM.bind (α := Slc × Unit) (HM.ite x9 (
  HM.bind (α := Addr) (HM.nonnil p0) fun x11 =>
  HM.bind (α := Option Nat) (HM.load1 .map (Addr.add x11 1)) fun x12 =>
  HM.bind (α := (ByteArray × ByteArray × Int × Unit) × Bool) (HM.lookup (Instr.sameNow .string) (.agg #[.string (ByteArray.mk #[]), .string (ByteArray.mk #[]), .int .i64 0]) (.agg [.str, .str, .int .i64]) x12 (.string x8)) fun x13 =>
  HM.bind (α := Nat) (HM.new (.cells #[.string x13.1.1, .string x13.1.2.1, .int .i64 x13.1.2.2.1] 204)) fun x14 =>
  HM.bind (α := Slc) (HM.append 204 3 40 #[.string (ByteArray.mk #[]), .string (ByteArray.mk #[]), .int .i64 0] x6.1 1 (srcSlc 3 (⟨some ⟨x14, 0, none⟩, 1, 1⟩))) fun x15 =>
  HM.pure (x15, ())) (
  HM.pure (x6.1, ()))) fun x10 =>
  HM.pure (.inl (x10.1, IntKind.wrap .i64 (x6.2.1 + 1), ()))) (
  HM.pure (.inr (x6.1, x6.2.1, ())))) (⟨none, 0, 0⟩, 0, ())) fun x5 =>
  HM.pure (x5.1, ()))
theorem q_g0 (p0 : Option Addr) (p1 : ByteArray) : denFn Tryz.prog [165, 84, 14] 35 [0, 1, 4, 5, 7, 9, 15, 16, 17, 18, 23] [0, 1, 5, 7, 9, 15, 16, 17, 18, 23] Tryz.f110.results.toList [.one .slc] (bodyOf Tryz.f110) [Kind.val (.one .ptr) p0, Kind.val (.one .str) p1] = q_b9 p0 p1 := by kernel_rfl
theorem q_fe (p0 : Option Addr) (p1 : ByteArray) (h : Heap) (Q : Value → Heap → Prop) (hh : q_b9 p0 p1 h fun x h' => Q (.slice x.1.a x.1.len x.1.cap) h') :
    HCalls Tryz.prog 110 #[.pointer p0, .string p1] h Q :=
  q_a Tryz.func110 (by kernel_rfl) Tryz.ntmps110 (by kernel_rfl) (CC Tryz.call165 (CC Tryz.call84 (CC Tryz.call14 CN))) orders (q_g0 p0 p1) hh
def q_c7 (p0 : Option Addr) (p1 : Int) (p2 : ByteArray) : HM (Bool × Unit) :=
  HM.ite (Option.isNone p0) (
  HM.pure (false, ())) (
  HM.bind (α := Option Addr) (HM.call1 Tryz.prog (.one .ptr) 164 #[.pointer p0, .string p2]) fun x1 =>
  HM.ite (Option.isNone x1) (
  HM.pure (false, ())) (
  HM.bind (α := Addr) (HM.nonnil x1) fun x2 =>
  HM.bind (α := Option Nat) (HM.load1 .map (Addr.add x2 0)) fun x3 =>
  HM.bind (α := Int × Bool) (HM.lookup (Instr.sameNow (.int .i64)) (.int .i64 0) (.one (.int .i64)) x3 (.int .i64 p1)) fun x4 =>
  HM.ite (!x4.2) (
  HM.pure (false, ())) (
  HM.bind (α := Addr) (HM.nonnil p0) fun x5 =>
  HM.bind (α := Option Addr) (HM.load1 .ptr (Addr.add x5 0)) fun x6 =>
  HM.bind (α := Slc) (HM.call1 Tryz.prog (.one .slc) 36 #[.string p2]) fun x7 =>
  HM.bind (α := Option Addr) (HM.load1 .ptr (Addr.add x5 0)) fun x8 =>
  HM.req ((.pointer x8 : Value) = .pointer x6) <|
  HM.bind (α := Bool) (HM.call1 Tryz.prog (.one .bool) 166 #[.pointer x6, .int .i64 p1, .slice x7.a x7.len x7.cap]) fun x9 =>
  HM.bind (α := Addr) (HM.nonnil p0) fun x10 =>
  HM.bind (α := Option Nat) (HM.load1 .map (Addr.add x10 1)) fun x11 =>
  HM.bind (α := Int × Bool) (HM.lookup (Instr.sameNow (.int .i64)) (.int .i64 0) (.one (.int .i64)) x11 (.int .i64 p1)) fun x12 =>
  HM.bind (α := Unit) (HM.mapSet (Instr.sameNow (.int .i64)) x11 (.int .i64 p1) (.int .i64 (IntKind.wrap .i64 (x12.1 - 1)))) fun _ =>
  HM.bind (α := Addr) (HM.nonnil p0) fun x13 =>
  HM.bind (α := Option Nat) (HM.load1 .map (Addr.add x13 1)) fun x14 =>
  HM.bind (α := Int × Bool) (HM.lookup (Instr.sameNow (.int .i64)) (.int .i64 0) (.one (.int .i64)) x14 (.int .i64 p1)) fun x15 =>
  HM.bind (α := Unit) (HM.ite (x15.1 == 0) (
  HM.bind (α := Addr) (HM.nonnil p0) fun x17 =>
  HM.bind (α := Option Nat) (HM.load1 .map (Addr.add x17 1)) fun x18 =>
  HM.bind (α := Unit) (HM.mapDel (Instr.sameNow (.int .i64)) x18 (.int .i64 p1)) fun _ =>
  HM.pure ()) (
  HM.pure ())) fun x16 =>
  HM.pure (true, ()))))
theorem q_ip (p0 : Option Addr) (p1 : Int) (p2 : ByteArray) : denFn Tryz.prog [164, 36, 166] 55 [0, 1, 2, 6, 7, 9, 11, 16, 27, 49] [0, 1, 2, 7, 9, 11, 16, 27, 49] Tryz.f111.results.toList [.one .bool] (bodyOf Tryz.f111) [Kind.val (.one .ptr) p0, Kind.val (.one (.int .i64)) p1, Kind.val (.one .str) p2] = q_c7 p0 p1 p2 := by kernel_rfl
theorem q_gr (p0 : Option Addr) (p1 : Int) (p2 : ByteArray) (h : Heap) (Q : Value → Heap → Prop) (hh : q_c7 p0 p1 p2 h fun x h' => Q (.bool x.1) h') :
    HCalls Tryz.prog 111 #[.pointer p0, .int .i64 p1, .string p2] h Q :=
  q_a Tryz.func111 (by kernel_rfl) Tryz.ntmps111 (by kernel_rfl) (CC Tryz.call164 (CC Tryz.call36 (CC Tryz.call166 CN))) orders (q_ip p0 p1 p2) hh
def outflow_New (p0 : Int) : HM (Option Addr × Unit) :=
  HM.bind (α := Option Addr) (HM.call1 Tryz.prog (.one .ptr) 167 #[.int .i64 64]) fun x1 =>
  HM.bind (α := Int) (HM.call1 Tryz.prog (.one (.int .i64)) 117 #[.int .i64 p0]) fun x2 =>
  HM.bind (α := Nat) (HM.new (.cells #[.pointer x1, .int .i64 x2, .bool false, .slice none 0 0, .slice none 0 0] 239)) fun x3 =>
  HM.pure (some ⟨x3, 0, none⟩, ())
theorem outflow_New_den (p0 : Int) : denFn Tryz.prog [167, 117] 8 [0, 2] [0] Tryz.f112.results.toList [.one .ptr] (bodyOf Tryz.f112) [Kind.val (.one (.int .i64)) p0] = outflow_New p0 := by kernel_rfl
theorem outflow_New_calls (p0 : Int) (h : Heap) (Q : Value → Heap → Prop) (hh : outflow_New p0 h fun x h' => Q (.pointer x.1) h') :
    HCalls Tryz.prog 112 #[.int .i64 p0] h Q :=
  q_a Tryz.func112 (by kernel_rfl) Tryz.ntmps112 (by kernel_rfl) (CC Tryz.call167 (CC Tryz.call117 CN)) orders (outflow_New_den p0) hh
def inflow_New (p0 : Int) : HM (Option Addr × Unit) :=
  HM.bind (α := Option Addr) (HM.call1 Tryz.prog (.one .ptr) 167 #[.int .i64 p0]) fun x1 =>
  HM.bind (α := Nat) (HM.new (.cells #[.pointer x1] 292)) fun x2 =>
  HM.pure (some ⟨x2, 0, none⟩, ())
theorem inflow_New_den (p0 : Int) : denFn Tryz.prog [167] 7 [0, 2] [0] Tryz.f113.results.toList [.one .ptr] (bodyOf Tryz.f113) [Kind.val (.one (.int .i64)) p0] = inflow_New p0 := by kernel_rfl
theorem inflow_New_calls (p0 : Int) (h : Heap) (Q : Value → Heap → Prop) (hh : inflow_New p0 h fun x h' => Q (.pointer x.1) h') :
    HCalls Tryz.prog 113 #[.int .i64 p0] h Q :=
  q_a Tryz.func113 (by kernel_rfl) Tryz.ntmps113 (by kernel_rfl) (CC Tryz.call167 CN) orders (inflow_New_den p0) hh
def q_a1 (p0 : Slc) (p1 : Value) : HM (Int × Unit) :=
  HM.bind (α := (Int × Unit) ⊕ (Int × Unit)) (HM.loop (σ := Int × Unit) (τ := (Int × Unit) ⊕ (Int × Unit)) (fun x2 =>
  HM.ite (decide (x2.1 < (((p0.len : Nat) : Int) : Int))) (
  HM.bind (α := Addr) (HM.idx p0.a p0.len x2.1 4) fun x3 =>
  HM.bind (α := yS8) (HM.loadN tS8 x3) fun x4 =>
  HM.bind (α := Bool) (HM.callV1 Tryz.prog (.one .bool) p1 #[.agg (aS8 x4)]) fun x5 =>
  HM.ite x5 (
  HM.pure (.inr (.inr (x2.1, ())))) (
  HM.pure (.inl (IntKind.wrap .i64 (x2.1 + 1), ())))) (
  HM.pure (.inr (.inl (x2.1, ()))))) (0, ())) (Sum.elim (fun x1 =>
  HM.pure ((-1), ())) HM.pure)
theorem q_c9 (p0 : Slc) (p1 : Value) : denFn Tryz.prog [] 19 [0, 1, 4, 5, 7, 8, 9, 16] [0, 1, 5, 7, 8, 9, 16] Tryz.f114.results.toList [.one (.int .i64)] (bodyOf Tryz.f114) [Kind.val (.one .slc) p0, Kind.val (.one .any) p1] = q_a1 p0 p1 := by kernel_rfl
theorem q_cl (p0 : Slc) (p1 : Value) (h : Heap) (Q : Value → Heap → Prop) (hh : q_a1 p0 p1 h fun x h' => Q (.int .i64 x.1) h') :
    HCalls Tryz.prog 114 #[.slice p0.a p0.len p0.cap, p1] h Q :=
  q_a Tryz.func114 (by kernel_rfl) Tryz.ntmps114 (by kernel_rfl) CN orders (q_c9 p0 p1) hh
def q_hq (p0 : yS8) (p1 : Addr) : HM (Bool × Unit) :=
  HM.bind (α := Nat) (HM.new (.cells (aS8 p0) 106)) fun x1 =>
  HM.bind (α := Int) (HM.load1 (.int .i64) (Addr.add ⟨x1, 0, none⟩ 0)) fun x2 =>
  HM.bind (α := Int) (HM.load1 (.int .i64) p1) fun x3 =>
  HM.pure (x2 == x3, ())
theorem prop_Find_f1_den (p0 : yS8) (p1 : Addr) : denFn Tryz.prog [] 8 [0, 1, 2, 3] [0, 1, 2] Tryz.f115.results.toList [.one .bool] (bodyOf Tryz.f115) [Kind.val (.agg tS8) p0, Value.pointer (some p1)] = q_hq p0 p1 := by kernel_rfl
theorem prop_Find_f1_calls (p0 : yS8) (p1 : Addr) (h : Heap) (Q : Value → Heap → Prop) (hh : q_hq p0 p1 h fun x h' => Q (.bool x.1) h') :
    HCalls Tryz.prog 115 #[.agg (aS8 p0), .pointer (some p1)] h Q :=
  q_a Tryz.func115 (by kernel_rfl) Tryz.ntmps115 (by kernel_rfl) CN orders (prop_Find_f1_den p0 p1) hh
def q_fp (p0 : Option Addr) (p1 : Int) : HM (Slc × Unit) :=
  HM.bind (α := Nat) (HM.new (.cells #[.int .i64 p1] 3)) fun x1 =>
  HM.ite (Option.isNone p0) (
  HM.pure (⟨none, 0, 0⟩, ())) (
  HM.bind (α := Nat) (HM.new (.cells #[.slice none 0 0] 205)) fun x2 =>
  HM.bind (α := Addr) (HM.nonnil p0) fun x3 =>
  HM.bind (α := Option Addr) (HM.load1 .ptr (Addr.add x3 0)) fun x4 =>
  HM.bind (α := Unit) (HM.callN Tryz.prog [] 82 #[.pointer x4, .slice none 0 0, .func (.func 168) #[] #[.pointer (some ⟨x1, 0, none⟩), .pointer (some ⟨x2, 0, none⟩)]]) fun x5 =>
  HM.bind (α := Slc) (HM.load1 .slc ⟨x2, 0, none⟩) fun x6 =>
  HM.bind (α := Unit) (HM.callN Tryz.prog [] 126 #[.slice x6.a x6.len x6.cap, .func (.func 127) #[] #[]]) fun x7 =>
  HM.bind (α := Slc) (HM.load1 .slc ⟨x2, 0, none⟩) fun x8 =>
  HM.pure (x8, ()))
theorem trie_Trie_For_den (p0 : Option Addr) (p1 : Int) : denFn Tryz.prog [82, 126] 17 [0, 1, 3, 4, 5, 7] [0, 1, 3, 5, 7] Tryz.f116.results.toList [.one .slc] (bodyOf Tryz.f116) [Kind.val (.one .ptr) p0, Kind.val (.one (.int .i64)) p1] = q_fp p0 p1 := by kernel_rfl
theorem trie_Trie_For_calls (p0 : Option Addr) (p1 : Int) (h : Heap) (Q : Value → Heap → Prop) (hh : q_fp p0 p1 h fun x h' => Q (.slice x.1.a x.1.len x.1.cap) h') :
    HCalls Tryz.prog 116 #[.pointer p0, .int .i64 p1] h Q :=
  q_a Tryz.func116 (by kernel_rfl) Tryz.ntmps116 (by kernel_rfl) (CC Tryz.call82 (CC Tryz.call126 CN)) orders (trie_Trie_For_den p0 p1) hh
def q_dz (p0 : Int) : HM (Int × Unit) :=
  HM.pure (if 1 < ((if 64 < (p0 : Int) then 64 else p0) : Int) then (if 64 < (p0 : Int) then 64 else p0) else 1, ())
theorem outflow_bounded_den (p0 : Int) : denFn Tryz.prog [] 6 [0, 2] [0] Tryz.f117.results.toList [.one (.int .i64)] (bodyOf Tryz.f117) [Kind.val (.one (.int .i64)) p0] = q_dz p0 := by kernel_rfl
theorem q_c2 (p0 : Int) (h : Heap) (Q : Value → Heap → Prop) (hh : q_dz p0 h fun x h' => Q (.int .i64 x.1) h') :
    HCalls Tryz.prog 117 #[.int .i64 p0] h Q :=
  q_a Tryz.func117 (by kernel_rfl) Tryz.ntmps117 (by kernel_rfl) CN orders (outflow_bounded_den p0) hh
def q_bd (p0 : yS7) (p1 : Int) (p2 : Bool) : HM ((yS2) × Unit) :=
  HM.bind (α := Nat) (HM.new (.cells (aS7 p0) 83)) fun x1 =>
  HM.bind (α := Nat) (HM.new (.cells zS3 45)) fun x2 =>
  HM.bind (α := Int) (HM.load1 (.int .i64) (Addr.add ⟨x1, 0, none⟩ 2)) fun x3 =>
  HM.bind (α := Bool) (HM.load1 .bool (Addr.add ⟨x1, 0, none⟩ 3)) fun x4 =>
  HM.bind (α := ByteArray) (HM.load1 .str (Addr.add ⟨x1, 0, none⟩ 0)) fun x5 =>
  HM.bind (α := ByteArray) (HM.load1 .str (Addr.add ⟨x1, 0, none⟩ 1)) fun x6 =>
  HM.bind (α := Nat) (HM.new (.cells zS3 45)) fun x7 =>
  HM.bind (α := Unit) (HM.storeN ⟨x7, 0, none⟩ [.int .i64 3, .bool p2, .bool x4, .int .i64 x3, .int .i64 p1, .string x5, .string x6, .int .u8 0, .slice none 0 0, .slice none 0 0, .string (ByteArray.mk #[]), .bool false, .int .i64 0, .bool false, .string (ByteArray.mk #[]), .string (ByteArray.mk #[]), .int .i64 0, .bool false, .slice none 0 0, .bool false, .bool false, .string (ByteArray.mk #[]), .string (ByteArray.mk #[]), .bool false, .slice none 0 0, .slice none 0 0]) fun _ =>
  HM.bind (α := ByteArray) (HM.load1 .str (Addr.add ⟨x1, 0, none⟩ 4)) fun x8 =>
  HM.bind (α := Unit) (HM.ite (!(decide (x8 = (ByteArray.mk #[])))) (
  HM.bind (α := ByteArray) (HM.load1 .str (Addr.add ⟨x1, 0, none⟩ 4)) fun x10 =>
  HM.bind (α := Nat) (HM.new (.cells #[.int .i64 38, .int .i64 0, .string (ByteArray.mk #[116, 97, 103]), .string x10] 106)) fun x11 =>
  HM.bind (α := Unit) (HM.store1 (Addr.add ⟨x7, 0, none⟩ 9) (.slice (some ⟨x11, 0, none⟩) 1 1)) fun _ =>
  HM.pure ()) (
  HM.pure ())) fun x9 =>
  HM.bind (α := yS2) (HM.loadN tS3 ⟨x7, 0, none⟩) fun x12 =>
  HM.bind (α := Unit) (HM.storeN ⟨x2, 0, none⟩ (lS3 x12)) fun _ =>
  HM.bind (α := yS2) (HM.loadN tS3 ⟨x2, 0, none⟩) fun x13 =>
  HM.pure ((x13.1, x13.2.1, x13.2.2.1, x13.2.2.2.1, x13.2.2.2.2.1, x13.2.2.2.2.2.1, x13.2.2.2.2.2.2.1, x13.2.2.2.2.2.2.2.1, x13.2.2.2.2.2.2.2.2.1, x13.2.2.2.2.2.2.2.2.2.1, x13.2.2.2.2.2.2.2.2.2.2.1, x13.2.2.2.2.2.2.2.2.2.2.2.1, x13.2.2.2.2.2.2.2.2.2.2.2.2.1, x13.2.2.2.2.2.2.2.2.2.2.2.2.2.1, x13.2.2.2.2.2.2.2.2.2.2.2.2.2.2.1, x13.2.2.2.2.2.2.2.2.2.2.2.2.2.2.2.1, x13.2.2.2.2.2.2.2.2.2.2.2.2.2.2.2.2.1, x13.2.2.2.2.2.2.2.2.2.2.2.2.2.2.2.2.2.1, x13.2.2.2.2.2.2.2.2.2.2.2.2.2.2.2.2.2.2.1, x13.2.2.2.2.2.2.2.2.2.2.2.2.2.2.2.2.2.2.2.1, x13.2.2.2.2.2.2.2.2.2.2.2.2.2.2.2.2.2.2.2.2.1, x13.2.2.2.2.2.2.2.2.2.2.2.2.2.2.2.2.2.2.2.2.2.1, x13.2.2.2.2.2.2.2.2.2.2.2.2.2.2.2.2.2.2.2.2.2.2.1, x13.2.2.2.2.2.2.2.2.2.2.2.2.2.2.2.2.2.2.2.2.2.2.2.1, x13.2.2.2.2.2.2.2.2.2.2.2.2.2.2.2.2.2.2.2.2.2.2.2.2.1, x13.2.2.2.2.2.2.2.2.2.2.2.2.2.2.2.2.2.2.2.2.2.2.2.2.2.1, ()), ())
theorem q_eh (p0 : yS7) (p1 : Int) (p2 : Bool) : denFn Tryz.prog [] 28 [0, 1, 2, 3, 6, 7, 21] [0, 1, 2, 3, 6, 7, 21] Tryz.f118.results.toList [.agg tS3] (bodyOf Tryz.f118) [Kind.val (.agg tS7) p0, Kind.val (.one (.int .i64)) p1, Kind.val (.one .bool) p2] = q_bd p0 p1 p2 := by kernel_rfl
theorem q_dm (p0 : yS7) (p1 : Int) (p2 : Bool) (h : Heap) (Q : Value → Heap → Prop) (hh : q_bd p0 p1 p2 h fun x h' => Q (.agg (aS3 x.1)) h') :
    HCalls Tryz.prog 118 #[.agg (aS7 p0), .int .i64 p1, .bool p2] h Q :=
  q_a Tryz.func118 (by kernel_rfl) Tryz.ntmps118 (by kernel_rfl) CN orders (q_eh p0 p1 p2) hh
def q_cs (p0 : Option Addr) (p1 : Slc) : HM (Slc × Unit) :=
  HM.bind (α := Slc × Unit) (HM.loop (σ := Slc × Unit) (τ := Slc × Unit) (fun x2 =>
  HM.bind (α := Bool × Unit) (HM.bind (α := Addr) (HM.nonnil p0) fun x3 =>
  HM.bind (α := Bool) (HM.load1 .bool (Addr.add x3 2)) fun x4 =>
  HM.ite x4 (
  HM.bind (α := Addr) (HM.nonnil p0) fun x5 =>
  HM.bind (α := Slc) (HM.load1 .slc (Addr.add x5 4)) fun x6 =>
  HM.pure (decide (0 < (((x6.len : Nat) : Int) : Int)), ())) (
  HM.pure (false, ()))) fun x7 =>
  HM.ite x7.1 (
  HM.bind (α := Addr) (HM.nonnil p0) fun x8 =>
  HM.bind (α := Slc) (HM.load1 .slc (Addr.add x8 4)) fun x9 =>
  HM.bind (α := Addr) (HM.idx x9.a x9.len 0 5) fun x10 =>
  HM.bind (α := yS7) (HM.loadN tS7 x10) fun x11 =>
  HM.bind (α := Nat) (HM.new (.cells zS7 83)) fun x12 =>
  HM.bind (α := Unit) (HM.storeN ⟨x12, 0, none⟩ (lS7 x11)) fun _ =>
  HM.bind (α := Bool × Unit) (HM.bind (α := Int) (HM.load1 (.int .i64) (Addr.add ⟨x12, 0, none⟩ 2)) fun x13 =>
  HM.ite (decide (0 < (x13 : Int))) (
  HM.bind (α := Addr) (HM.nonnil p0) fun x14 =>
  HM.bind (α := Slc) (HM.load1 .slc (Addr.add x14 3)) fun x15 =>
  HM.bind (α := Addr) (HM.nonnil p0) fun x16 =>
  HM.bind (α := Int) (HM.load1 (.int .i64) (Addr.add x16 1)) fun x17 =>
  HM.pure (decide (x17 ≤ (((x15.len : Nat) : Int) : Int)), ())) (
  HM.pure (false, ()))) fun x18 =>
  HM.ite x18.1 (
  HM.pure (.inr (x2.1, ()))) (
  HM.bind (α := Addr) (HM.nonnil p0) fun x19 =>
  HM.bind (α := Slc) (HM.load1 .slc (Addr.add x19 4)) fun x20 =>
  HM.bind (α := Slc) (HM.slice x20 (some 1) none none 5) fun x21 =>
  HM.bind (α := Addr) (HM.nonnil p0) fun x22 =>
  HM.bind (α := Unit) (HM.store1 (Addr.add x22 4) (.slice x21.a x21.len x21.cap)) fun _ =>
  HM.bind (α := Int) (HM.load1 (.int .i64) (Addr.add ⟨x12, 0, none⟩ 2)) fun x23 =>
  HM.bind (α := Int × Unit) (HM.ite (decide (0 < (x23 : Int))) (
  HM.bind (α := Addr) (HM.nonnil p0) fun x25 =>
  HM.bind (α := Option Addr) (HM.load1 .ptr (Addr.add x25 0)) fun x26 =>
  HM.bind (α := Int × Int × Unit) (HM.callN Tryz.prog [.one (.int .i64), .one (.int .u8)] 169 #[.pointer x26]) fun x27 =>
  HM.bind (α := Addr) (HM.nonnil p0) fun x28 =>
  HM.bind (α := Slc) (HM.load1 .slc (Addr.add x28 3)) fun x29 =>
  HM.bind (α := yS7) (HM.loadN tS7 ⟨x12, 0, none⟩) fun x30 =>
  HM.bind (α := Nat) (HM.new (.cells #[.int .i64 x27.1, .string x30.1, .string x30.2.1, .int .i64 x30.2.2.1, .bool x30.2.2.2.1, .string x30.2.2.2.2.1, .bool false] 162)) fun x31 =>
  HM.bind (α := Slc) (HM.load1 .slc (Addr.add x28 3)) fun x32 =>
  HM.req ((.slice x32.a x32.len x32.cap : Value) = .slice x29.a x29.len x29.cap) <|
  HM.bind (α := Slc) (HM.append 162 7 80 zS5 x29 1 (srcSlc 7 (⟨some ⟨x31, 0, none⟩, 1, 1⟩))) fun x33 =>
  HM.bind (α := Addr) (HM.nonnil p0) fun x34 =>
  HM.bind (α := Unit) (HM.store1 (Addr.add x34 3) (.slice x33.a x33.len x33.cap)) fun _ =>
  HM.pure (x27.1, ())) (
  HM.pure (0, ()))) fun x24 =>
  HM.bind (α := yS7) (HM.loadN tS7 ⟨x12, 0, none⟩) fun x35 =>
  HM.bind (α := yS2) (HM.call1 Tryz.prog (.agg tS3) 118 #[.agg (aS7 x35), .int .i64 x24.1, .bool false]) fun x36 =>
  HM.bind (α := Nat) (HM.new (.cells (aS3 x36) 45)) fun x37 =>
  HM.bind (α := Slc) (HM.append 45 26 328 zS3 x2.1 1 (srcSlc 26 (⟨some ⟨x37, 0, none⟩, 1, 1⟩))) fun x38 =>
  HM.pure (.inl (x38, ())))) (
  HM.pure (.inr (x2.1, ())))) (p1, ())) fun x1 =>
  HM.pure (x1.1, ())
theorem q_ht (p0 : Option Addr) (p1 : Slc) : denFn Tryz.prog [169, 118] 78 [0, 1, 4, 5, 6, 18, 39, 50] [0, 1, 5, 6, 18, 39, 50] Tryz.f119.results.toList [.one .slc] (bodyOf Tryz.f119) [Kind.val (.one .ptr) p0, Kind.val (.one .slc) p1] = q_cs p0 p1 := by kernel_rfl
theorem q_f1 (p0 : Option Addr) (p1 : Slc) (h : Heap) (Q : Value → Heap → Prop) (hh : q_cs p0 p1 h fun x h' => Q (.slice x.1.a x.1.len x.1.cap) h') :
    HCalls Tryz.prog 119 #[.pointer p0, .slice p1.a p1.len p1.cap] h Q :=
  q_a Tryz.func119 (by kernel_rfl) Tryz.ntmps119 (by kernel_rfl) (CC Tryz.call169 (CC Tryz.call118 CN)) orders (q_ht p0 p1) hh
def q_ci (p0 : Option Addr) (p1 : Slc) (p2 : Slc) (p3 : Bool) (p4 : Slc) : HM (Slc × Unit) :=
  HM.ite (Option.isNone p0) (
  HM.pure (p4, ())) (
  HM.bind (α := Slc) (HM.call1 Tryz.prog (.one .slc) 128 #[.slice p1.a p1.len p1.cap]) fun x1 =>
  HM.bind (α := Addr) (HM.nonnil p0) fun x2 =>
  HM.bind (α := Option Nat) (HM.load1 .map (Addr.add x2 1)) fun x3 =>
  HM.bind (α := Option Addr × Bool) (HM.lookup (Instr.sameNow .string) (.pointer none) (.one .ptr) x3 (.string (ByteArray.mk #[35]))) fun x4 =>
  HM.bind (α := Bool × Unit) (HM.ite (!(Option.isNone x4.1)) (
  HM.pure (!p3, ())) (
  HM.pure (false, ()))) fun x5 =>
  HM.bind (α := Slc × Unit) (HM.ite x5.1 (
  HM.bind (α := Nat) (HM.new (.cells #[.string (ByteArray.mk #[35])] 9)) fun x7 =>
  HM.bind (α := Slc) (HM.append 9 1 16 #[.string (ByteArray.mk #[])] x1 1 (srcSlc 1 (⟨some ⟨x7, 0, none⟩, 1, 1⟩))) fun x8 =>
  HM.bind (α := Slc) (HM.call1 Tryz.prog (.one .slc) 129 #[.pointer x4.1, .slice x8.a x8.len x8.cap, .slice p4.a p4.len p4.cap]) fun x9 =>
  HM.pure (x9, ())) (
  HM.pure (p4, ()))) fun x6 =>
  HM.ite (((p2.len : Nat) : Int) == 0) (
  HM.bind (α := Slc) (HM.call1 Tryz.prog (.one .slc) 129 #[.pointer p0, .slice x1.a x1.len x1.cap, .slice x6.1.a x6.1.len x6.1.cap]) fun x10 =>
  HM.pure (x10, ())) (
  HM.bind (α := Slc × Unit) (HM.ite (!p3) (
  HM.bind (α := Addr) (HM.nonnil p0) fun x12 =>
  HM.bind (α := Option Nat) (HM.load1 .map (Addr.add x12 1)) fun x13 =>
  HM.bind (α := Option Addr × Bool) (HM.lookup (Instr.sameNow .string) (.pointer none) (.one .ptr) x13 (.string (ByteArray.mk #[43]))) fun x14 =>
  HM.bind (α := Slc) (HM.slice p2 (some 1) none none 1) fun x15 =>
  HM.bind (α := Nat) (HM.new (.cells #[.string (ByteArray.mk #[43])] 9)) fun x16 =>
  HM.bind (α := Option Addr × Bool) (HM.lookup (Instr.sameNow .string) (.pointer none) (.one .ptr) x13 (.string (ByteArray.mk #[43]))) fun x17 =>
  HM.req ((.pointer x17.1 : Value) = .pointer x14.1) <|
  HM.bind (α := Option Nat) (HM.load1 .map (Addr.add x12 1)) fun x18 =>
  HM.req ((.map x18 : Value) = .map x13) <|
  HM.bind (α := Slc) (HM.append 9 1 16 #[.string (ByteArray.mk #[])] x1 1 (srcSlc 1 (⟨some ⟨x16, 0, none⟩, 1, 1⟩))) fun x19 =>
  HM.bind (α := Option Addr × Bool) (HM.lookup (Instr.sameNow .string) (.pointer none) (.one .ptr) x13 (.string (ByteArray.mk #[43]))) fun x20 =>
  HM.req ((.pointer x20.1 : Value) = .pointer x14.1) <|
  HM.bind (α := Option Nat) (HM.load1 .map (Addr.add x12 1)) fun x21 =>
  HM.req ((.map x21 : Value) = .map x13) <|
  HM.bind (α := Slc) (HM.call1 Tryz.prog (.one .slc) 125 #[.pointer x14.1, .slice x19.a x19.len x19.cap, .slice x15.a x15.len x15.cap, .bool false, .slice x6.1.a x6.1.len x6.1.cap]) fun x22 =>
  HM.pure (x22, ())) (
  HM.pure (x6.1, ()))) fun x11 =>
  HM.bind (α := Addr) (HM.nonnil p0) fun x23 =>
  HM.bind (α := Option Nat) (HM.load1 .map (Addr.add x23 1)) fun x24 =>
  HM.bind (α := Addr) (HM.idx p2.a p2.len 0 1) fun x25 =>
  HM.bind (α := ByteArray) (HM.load1 .str x25) fun x26 =>
  HM.bind (α := Option Addr × Bool) (HM.lookup (Instr.sameNow .string) (.pointer none) (.one .ptr) x24 (.string x26)) fun x27 =>
  HM.bind (α := Addr) (HM.idx p2.a p2.len 0 1) fun x28 =>
  HM.bind (α := ByteArray) (HM.load1 .str x28) fun x29 =>
  HM.bind (α := Slc) (HM.slice p2 (some 1) none none 1) fun x30 =>
  HM.bind (α := Nat) (HM.new (.cells #[.string x29] 9)) fun x31 =>
  HM.bind (α := Option Addr × Bool) (HM.lookup (Instr.sameNow .string) (.pointer none) (.one .ptr) x24 (.string x26)) fun x32 =>
  HM.req ((.pointer x32.1 : Value) = .pointer x27.1) <|
  HM.bind (α := ByteArray) (HM.load1 .str x25) fun x33 =>
  HM.req ((.string x33 : Value) = .string x26) <|
  HM.bind (α := Option Nat) (HM.load1 .map (Addr.add x23 1)) fun x34 =>
  HM.req ((.map x34 : Value) = .map x24) <|
  HM.bind (α := Slc) (HM.append 9 1 16 #[.string (ByteArray.mk #[])] x1 1 (srcSlc 1 (⟨some ⟨x31, 0, none⟩, 1, 1⟩))) fun x35 =>
  HM.bind (α := Option Addr × Bool) (HM.lookup (Instr.sameNow .string) (.pointer none) (.one .ptr) x24 (.string x26)) fun x36 =>
  HM.req ((.pointer x36.1 : Value) = .pointer x27.1) <|
  HM.bind (α := ByteArray) (HM.load1 .str x25) fun x37 =>
  HM.req ((.string x37 : Value) = .string x26) <|
  HM.bind (α := Option Nat) (HM.load1 .map (Addr.add x23 1)) fun x38 =>
  HM.req ((.map x38 : Value) = .map x24) <|
  HM.bind (α := Slc) (HM.call1 Tryz.prog (.one .slc) 125 #[.pointer x27.1, .slice x35.a x35.len x35.cap, .slice x30.a x30.len x30.cap, .bool false, .slice x11.1.a x11.1.len x11.1.cap]) fun x39 =>
  HM.pure (x39, ())))
theorem q_hc (p0 : Option Addr) (p1 : Slc) (p2 : Slc) (p3 : Bool) (p4 : Slc) : denFn Tryz.prog [128, 129, 125] 73 [0, 1, 2, 3, 4, 10, 11, 13, 27, 36, 42] [0, 1, 2, 3, 4, 11, 13, 27, 36, 42] Tryz.f125.results.toList [.one .slc] (bodyOf Tryz.f125) [Kind.val (.one .ptr) p0, Kind.val (.one .slc) p1, Kind.val (.one .slc) p2, Kind.val (.one .bool) p3, Kind.val (.one .slc) p4] = q_ci p0 p1 p2 p3 p4 := by kernel_rfl
theorem q_fo (p0 : Option Addr) (p1 : Slc) (p2 : Slc) (p3 : Bool) (p4 : Slc) (h : Heap) (Q : Value → Heap → Prop) (hh : q_ci p0 p1 p2 p3 p4 h fun x h' => Q (.slice x.1.a x.1.len x.1.cap) h') :
    HCalls Tryz.prog 125 #[.pointer p0, .slice p1.a p1.len p1.cap, .slice p2.a p2.len p2.cap, .bool p3, .slice p4.a p4.len p4.cap] h Q :=
  q_a Tryz.func125 (by kernel_rfl) Tryz.ntmps125 (by kernel_rfl) (CC Tryz.call128 (CC Tryz.call129 (CC Tryz.call125 CN))) orders (q_hc p0 p1 p2 p3 p4) hh
def slices_Clip (p0 : Slc) : HM (Slc × Unit) :=
  HM.bind (α := Slc) (HM.slice p0 none (some ((p0.len : Nat) : Int)) (some ((p0.len : Nat) : Int)) 1) fun x1 =>
  HM.pure (x1, ())
theorem slices_Clip_den (p0 : Slc) : denFn Tryz.prog [] 9 [0, 2] [0] Tryz.f128.results.toList [.one .slc] (bodyOf Tryz.f128) [Kind.val (.one .slc) p0] = slices_Clip p0 := by kernel_rfl
theorem slices_Clip_calls (p0 : Slc) (h : Heap) (Q : Value → Heap → Prop) (hh : slices_Clip p0 h fun x h' => Q (.slice x.1.a x.1.len x.1.cap) h') :
    HCalls Tryz.prog 128 #[.slice p0.a p0.len p0.cap] h Q :=
  q_a Tryz.func128 (by kernel_rfl) Tryz.ntmps128 (by kernel_rfl) CN orders (slices_Clip_den p0) hh
def q_c6 (p0 : Option Addr) (p1 : Slc) (p2 : Slc) : HM (Slc × Unit) :=
  HM.bind (α := Addr) (HM.nonnil p0) fun x1 =>
  HM.bind (α := Option Nat) (HM.load1 .map (Addr.add x1 0)) fun x2 =>
  HM.bind (α := Nat) (HM.rangeM x2) fun x3 =>
  HM.bind (α := Slc × Unit) (HM.loop (σ := Slc × Unit) (τ := Slc × Unit) (fun x5 =>
  HM.bind (α := Option (Value × Value)) (HM.nextM x3) fun x6 =>
  HM.opt x6 (
  HM.ite false (
  HM.bind (α := Int × Int) (HM.entryM (.one (.int .i64)) (.one (.int .i64)) x3) fun x8 =>
  HM.bind (α := ByteArray) (HM.call1 Tryz.prog (.one .str) 186 #[.slice p1.a p1.len p1.cap]) fun x9 =>
  HM.bind (α := Nat) (HM.new (.cells #[.int .i64 x8.1, .string x9, .int .i64 x8.2] 208)) fun x10 =>
  HM.bind (α := Slc) (HM.append 208 3 32 #[.int .i64 0, .string (ByteArray.mk #[]), .int .i64 0] x5.1 1 (srcSlc 3 (⟨some ⟨x10, 0, none⟩, 1, 1⟩))) fun x11 =>
  HM.pure (.inl (x11, ()))) (
  HM.pure (.inr (x5.1, ())))) fun (x7 : Value × Value) =>
  HM.ite true (
  HM.bind (α := Int × Int) (HM.entryM (.one (.int .i64)) (.one (.int .i64)) x3) fun x12 =>
  HM.bind (α := ByteArray) (HM.call1 Tryz.prog (.one .str) 186 #[.slice p1.a p1.len p1.cap]) fun x13 =>
  HM.bind (α := Nat) (HM.new (.cells #[.int .i64 x12.1, .string x13, .int .i64 x12.2] 208)) fun x14 =>
  HM.bind (α := Slc) (HM.append 208 3 32 #[.int .i64 0, .string (ByteArray.mk #[]), .int .i64 0] x5.1 1 (srcSlc 3 (⟨some ⟨x14, 0, none⟩, 1, 1⟩))) fun x15 =>
  HM.pure (.inl (x15, ()))) (
  HM.pure (.inr (x5.1, ())))) (p2, ())) fun x4 =>
  HM.pure (x4.1, ())
theorem q_in (p0 : Option Addr) (p1 : Slc) (p2 : Slc) : denFn Tryz.prog [186] 28 [0, 1, 2, 6, 7, 8, 13, 15] [0, 1, 2, 7, 8, 13, 15] Tryz.f129.results.toList [.one .slc] (bodyOf Tryz.f129) [Kind.val (.one .ptr) p0, Kind.val (.one .slc) p1, Kind.val (.one .slc) p2] = q_c6 p0 p1 p2 := by kernel_rfl
theorem q_gq (p0 : Option Addr) (p1 : Slc) (p2 : Slc) (h : Heap) (Q : Value → Heap → Prop) (hh : q_c6 p0 p1 p2 h fun x h' => Q (.slice x.1.a x.1.len x.1.cap) h') :
    HCalls Tryz.prog 129 #[.pointer p0, .slice p1.a p1.len p1.cap, .slice p2.a p2.len p2.cap] h Q :=
  q_a Tryz.func129 (by kernel_rfl) Tryz.ntmps129 (by kernel_rfl) (CC Tryz.call186 CN) orders (q_in p0 p1 p2) hh
end Go.Proofs.YtidlldnlphdhcaaGreatDoor
namespace Go.Proofs.YtidlldnlphdhcaaGreatDoor
open Go.H Go.Proofs
set_option linter.unusedVariables false
set_option linter.unusedSimpArgs false
set_option maxRecDepth 100000
set_option maxHeartbeats 4000000
def q_df (p0 : Option Addr) : HM (Unit) :=
  HM.bind (α := Unit) (HM.ite (!(Option.isNone p0)) (
  HM.bind (α := Addr) (HM.nonnil p0) fun x2 =>
  HM.bind (α := Unit) (HM.store1 (Addr.add x2 2) (.bool false)) fun _ =>
  HM.pure ()) (
  HM.pure ())) fun x1 =>
  HM.pure ()
theorem q_iy (p0 : Option Addr) : denFn Tryz.prog [] 7 [0, 3] [0, 3] Tryz.f152.results.toList [] (bodyOf Tryz.f152) [Kind.val (.one .ptr) p0] = q_df p0 := by kernel_rfl
theorem q_g1 (p0 : Option Addr) (h : Heap) (Q : Value → Heap → Prop) (hh : q_df p0 h fun x h' => Q (.tuple #[]) h') :
    HCalls Tryz.prog 152 #[.pointer p0] h Q :=
  q_a Tryz.func152 (by kernel_rfl) Tryz.ntmps152 (by kernel_rfl) CN orders (q_iy p0) hh
def q_ge (p0 : Option Addr) (p1 : Int) : HM (Bool × Unit) :=
  HM.bind (α := Bool × Unit) (HM.ite (Option.isNone p0) (
  HM.pure (true, ())) (
  HM.bind (α := Addr) (HM.nonnil p0) fun x1 =>
  HM.bind (α := Option Nat) (HM.load1 .map (Addr.add x1 2)) fun x2 =>
  HM.bind (α := Bool × Bool) (HM.lookup (Instr.sameNow (.int .i64)) (.bool false) (.one .bool) x2 (.int .i64 p1)) fun x3 =>
  HM.pure (!x3.1, ()))) fun x4 =>
  HM.ite x4.1 (
  HM.pure (false, ())) (
  HM.bind (α := Addr) (HM.nonnil p0) fun x5 =>
  HM.bind (α := Option Nat) (HM.load1 .map (Addr.add x5 2)) fun x6 =>
  HM.bind (α := Unit) (HM.mapDel (Instr.sameNow (.int .i64)) x6 (.int .i64 p1)) fun _ =>
  HM.pure (true, ()))
theorem ids_Pool_Free_den (p0 : Option Addr) (p1 : Int) : denFn Tryz.prog [] 21 [0, 1, 4, 15] [0, 1, 15] Tryz.f158.results.toList [.one .bool] (bodyOf Tryz.f158) [Kind.val (.one .ptr) p0, Kind.val (.one (.int .i64)) p1] = q_ge p0 p1 := by kernel_rfl
theorem ids_Pool_Free_calls (p0 : Option Addr) (p1 : Int) (h : Heap) (Q : Value → Heap → Prop) (hh : q_ge p0 p1 h fun x h' => Q (.bool x.1) h') :
    HCalls Tryz.prog 158 #[.pointer p0, .int .i64 p1] h Q :=
  q_a Tryz.func158 (by kernel_rfl) Tryz.ntmps158 (by kernel_rfl) CN orders (ids_Pool_Free_den p0 p1) hh
def q_ga (p0 : Int) (p1 : Int) (p2 : Int) : HM (Slc × Unit) :=
  HM.bind (α := Nat) (HM.new (.cells #[.int .i64 p0, .bool false, .bool false, .int .i64 0, .int .i64 p1, .string (ByteArray.mk #[]), .string (ByteArray.mk #[]), .int .u8 p2, .slice none 0 0, .slice none 0 0, .string (ByteArray.mk #[]), .bool false, .int .i64 0, .bool false, .string (ByteArray.mk #[]), .string (ByteArray.mk #[]), .int .i64 0, .bool false, .slice none 0 0, .bool false, .bool false, .string (ByteArray.mk #[]), .string (ByteArray.mk #[]), .bool false, .slice none 0 0, .slice none 0 0] 45)) fun x1 =>
  HM.bind (α := Slc) (HM.call1 Tryz.prog (.one .slc) 207 #[.slice (some ⟨x1, 0, none⟩) 1 1]) fun x2 =>
  HM.pure (x2, ())
theorem inflow_answer_den (p0 : Int) (p1 : Int) (p2 : Int) : denFn Tryz.prog [207] 13 [0, 1, 2, 6] [0, 1, 2] Tryz.f159.results.toList [.one .slc] (bodyOf Tryz.f159) [Kind.val (.one (.int .i64)) p0, Kind.val (.one (.int .i64)) p1, Kind.val (.one (.int .u8)) p2] = q_ga p0 p1 p2 := by kernel_rfl
theorem inflow_answer_calls (p0 : Int) (p1 : Int) (p2 : Int) (h : Heap) (Q : Value → Heap → Prop) (hh : q_ga p0 p1 p2 h fun x h' => Q (.slice x.1.a x.1.len x.1.cap) h') :
    HCalls Tryz.prog 159 #[.int .i64 p0, .int .i64 p1, .int .u8 p2] h Q :=
  q_a Tryz.func159 (by kernel_rfl) Tryz.ntmps159 (by kernel_rfl) (CC Tryz.call207 CN) orders (inflow_answer_den p0 p1 p2) hh
def q_d6 (p0 : Option Addr) (p1 : Int) (p2 : Int) : HM (Bool × Slc × Int × Unit) :=
  HM.bind (α := Bool) (HM.call1 Tryz.prog (.one .bool) 208 #[.pointer p0, .int .i64 p1]) fun x1 =>
  HM.ite x1 (
  HM.bind (α := Slc) (HM.call1 Tryz.prog (.one .slc) 159 #[.int .i64 5, .int .i64 p1, .int .u8 0]) fun x2 =>
  HM.pure (false, x2, 0, ())) (
  HM.bind (α := Addr) (HM.nonnil p0) fun x3 =>
  HM.bind (α := Option Addr) (HM.load1 .ptr (Addr.add x3 0)) fun x4 =>
  HM.bind (α := Int) (HM.call1 Tryz.prog (.one (.int .i64)) 209 #[.pointer x4]) fun x5 =>
  HM.ite (x5 == 0) (
  HM.pure (false, ⟨none, 0, 0⟩, 147, ())) (
  HM.bind (α := Unit) (HM.ite (decide (p2 < (128 : Int))) (
  HM.bind (α := Addr) (HM.nonnil p0) fun x7 =>
  HM.bind (α := Option Addr) (HM.load1 .ptr (Addr.add x7 0)) fun x8 =>
  HM.bind (α := Int) (HM.call1 Tryz.prog (.one (.int .u8)) 210 #[.pointer x8, .int .i64 p1]) fun x9 =>
  HM.pure ()) (
  HM.pure ())) fun x6 =>
  HM.bind (α := Slc) (HM.call1 Tryz.prog (.one .slc) 159 #[.int .i64 5, .int .i64 p1, .int .u8 p2]) fun x10 =>
  HM.pure (true, x10, 0, ())))
theorem inflow_Flow_two_den (p0 : Option Addr) (p1 : Int) (p2 : Int) : denFn Tryz.prog [208, 159, 209, 210] 33 [0, 1, 2, 6, 7, 8, 9, 15, 23] [0, 1, 2, 9, 15, 23] Tryz.f160.results.toList [.one .bool, .one .slc, .one (.int .u8)] (bodyOf Tryz.f160) [Kind.val (.one .ptr) p0, Kind.val (.one (.int .i64)) p1, Kind.val (.one (.int .u8)) p2] = q_d6 p0 p1 p2 := by kernel_rfl
theorem q_h2 (p0 : Option Addr) (p1 : Int) (p2 : Int) (h : Heap) (Q : Value → Heap → Prop) (hh : q_d6 p0 p1 p2 h fun x h' => Q (.tuple #[.bool x.1, .slice x.2.1.a x.2.1.len x.2.1.cap, .int .u8 x.2.2.1]) h') :
    HCalls Tryz.prog 160 #[.pointer p0, .int .i64 p1, .int .u8 p2] h Q :=
  q_a Tryz.func160 (by kernel_rfl) Tryz.ntmps160 (by kernel_rfl) (CC Tryz.call208 (CC Tryz.call159 (CC Tryz.call209 (CC Tryz.call210 CN)))) orders (inflow_Flow_two_den p0 p1 p2) hh
def q_a5 (p0 : Slc) (p1 : Value) : HM (Int × Unit) :=
  HM.bind (α := (Int × Unit) ⊕ (Int × Unit)) (HM.loop (σ := Int × Unit) (τ := (Int × Unit) ⊕ (Int × Unit)) (fun x2 =>
  HM.ite (decide (x2.1 < (((p0.len : Nat) : Int) : Int))) (
  HM.bind (α := Addr) (HM.idx p0.a p0.len x2.1 7) fun x3 =>
  HM.bind (α := yS5) (HM.loadN tS5 x3) fun x4 =>
  HM.bind (α := Bool) (HM.callV1 Tryz.prog (.one .bool) p1 #[.agg (aS5 x4)]) fun x5 =>
  HM.ite x5 (
  HM.pure (.inr (.inr (x2.1, ())))) (
  HM.pure (.inl (IntKind.wrap .i64 (x2.1 + 1), ())))) (
  HM.pure (.inr (.inl (x2.1, ()))))) (0, ())) (Sum.elim (fun x1 =>
  HM.pure ((-1), ())) HM.pure)
theorem q_dw (p0 : Slc) (p1 : Value) : denFn Tryz.prog [] 19 [0, 1, 4, 5, 7, 8, 9, 16] [0, 1, 5, 7, 8, 9, 16] Tryz.f161.results.toList [.one (.int .i64)] (bodyOf Tryz.f161) [Kind.val (.one .slc) p0, Kind.val (.one .any) p1] = q_a5 p0 p1 := by kernel_rfl
theorem q_d (p0 : Slc) (p1 : Value) (h : Heap) (Q : Value → Heap → Prop) (hh : q_a5 p0 p1 h fun x h' => Q (.int .i64 x.1) h') :
    HCalls Tryz.prog 161 #[.slice p0.a p0.len p0.cap, p1] h Q :=
  q_a Tryz.func161 (by kernel_rfl) Tryz.ntmps161 (by kernel_rfl) CN orders (q_dw p0 p1) hh
def q_be (p0 : yS5) (p1 : Addr) : HM (Bool × Unit) :=
  HM.bind (α := Nat) (HM.new (.cells (aS5 p0) 162)) fun x1 =>
  HM.bind (α := Int) (HM.load1 (.int .i64) (Addr.add ⟨x1, 0, none⟩ 0)) fun x2 =>
  HM.bind (α := Int) (HM.load1 (.int .i64) (Addr.add p1 4)) fun x3 =>
  HM.pure (x2 == x3, ())
theorem q_ei (p0 : yS5) (p1 : Addr) : denFn Tryz.prog [] 9 [0, 1, 2, 3] [0, 1, 2] Tryz.f162.results.toList [.one .bool] (bodyOf Tryz.f162) [Kind.val (.agg tS5) p0, Value.pointer (some p1)] = q_be p0 p1 := by kernel_rfl
theorem q_dn (p0 : yS5) (p1 : Addr) (h : Heap) (Q : Value → Heap → Prop) (hh : q_be p0 p1 h fun x h' => Q (.bool x.1) h') :
    HCalls Tryz.prog 162 #[.agg (aS5 p0), .pointer (some p1)] h Q :=
  q_a Tryz.func162 (by kernel_rfl) Tryz.ntmps162 (by kernel_rfl) CN orders (q_ei p0 p1) hh
def q_cr (p0 : Option Addr) (p1 : Int) : HM (Unit) :=
  HM.bind (α := Addr) (HM.nonnil p0) fun x1 =>
  HM.bind (α := Option Addr) (HM.load1 .ptr (Addr.add x1 0)) fun x2 =>
  HM.bind (α := Addr) (HM.nonnil p0) fun x3 =>
  HM.bind (α := Slc) (HM.load1 .slc (Addr.add x3 3)) fun x4 =>
  HM.bind (α := Addr) (HM.idx x4.a x4.len p1 7) fun x5 =>
  HM.bind (α := Int) (HM.load1 (.int .i64) (Addr.add x5 0)) fun x6 =>
  HM.bind (α := Bool) (HM.call1 Tryz.prog (.one .bool) 158 #[.pointer x2, .int .i64 x6]) fun x7 =>
  HM.bind (α := Addr) (HM.nonnil p0) fun x8 =>
  HM.bind (α := Slc) (HM.load1 .slc (Addr.add x8 3)) fun x9 =>
  HM.bind (α := Slc) (HM.call1 Tryz.prog (.one .slc) 211 #[.slice x9.a x9.len x9.cap, .int .i64 p1, .int .i64 (IntKind.wrap .i64 (p1 + 1))]) fun x10 =>
  HM.bind (α := Addr) (HM.nonnil p0) fun x11 =>
  HM.bind (α := Unit) (HM.store1 (Addr.add x11 3) (.slice x10.a x10.len x10.cap)) fun _ =>
  HM.pure ()
theorem q_hs (p0 : Option Addr) (p1 : Int) : denFn Tryz.prog [158, 211] 28 [0, 1] [0, 1] Tryz.f163.results.toList [] (bodyOf Tryz.f163) [Kind.val (.one .ptr) p0, Kind.val (.one (.int .i64)) p1] = q_cr p0 p1 := by kernel_rfl
theorem q_f0 (p0 : Option Addr) (p1 : Int) (h : Heap) (Q : Value → Heap → Prop) (hh : q_cr p0 p1 h fun x h' => Q (.tuple #[]) h') :
    HCalls Tryz.prog 163 #[.pointer p0, .int .i64 p1] h Q :=
  q_a Tryz.func163 (by kernel_rfl) Tryz.ntmps163 (by kernel_rfl) (CC Tryz.call158 (CC Tryz.call211 CN)) orders (q_hs p0 p1) hh
def q_ew (p0 : Option Addr) (p1 : ByteArray) : HM (Option Addr × Unit) :=
  HM.bind (α := Addr) (HM.nonnil p0) fun x1 =>
  HM.bind (α := Option Addr) (HM.load1 .ptr (Addr.add x1 0)) fun x2 =>
  HM.bind (α := Slc) (HM.call1 Tryz.prog (.one .slc) 36 #[.string p1]) fun x3 =>
  HM.bind (α := (Option Addr × Int × Unit) ⊕ (Option Addr × Unit)) (HM.loop (σ := Option Addr × Int × Unit) (τ := (Option Addr × Int × Unit) ⊕ (Option Addr × Unit)) (fun x5 =>
  HM.ite (decide (x5.2.1 < (((x3.len : Nat) : Int) : Int))) (
  HM.bind (α := Addr) (HM.idx x3.a x3.len x5.2.1 1) fun x6 =>
  HM.bind (α := ByteArray) (HM.load1 .str x6) fun x7 =>
  HM.bind (α := Addr) (HM.nonnil x5.1) fun x8 =>
  HM.bind (α := Option Nat) (HM.load1 .map (Addr.add x8 1)) fun x9 =>
  HM.bind (α := Option Addr × Bool) (HM.lookup (Instr.sameNow .string) (.pointer none) (.one .ptr) x9 (.string x7)) fun x10 =>
  HM.ite (Option.isNone x10.1) (
  HM.pure (.inr (.inr (none, ())))) (
  HM.pure (.inl (x10.1, IntKind.wrap .i64 (x5.2.1 + 1), ())))) (
  HM.pure (.inr (.inl (x5.1, x5.2.1, ()))))) (x2, 0, ())) (Sum.elim (fun x4 =>
  HM.pure (x4.1, ())) HM.pure)
theorem trie_Trie_find_den (p0 : Option Addr) (p1 : ByteArray) : denFn Tryz.prog [36] 29 [0, 1, 4, 5, 7, 13, 14, 15, 16, 26] [0, 1, 5, 7, 13, 14, 15, 16, 26] Tryz.f164.results.toList [.one .ptr] (bodyOf Tryz.f164) [Kind.val (.one .ptr) p0, Kind.val (.one .str) p1] = q_ew p0 p1 := by kernel_rfl
theorem q_io (p0 : Option Addr) (p1 : ByteArray) (h : Heap) (Q : Value → Heap → Prop) (hh : q_ew p0 p1 h fun x h' => Q (.pointer x.1) h') :
    HCalls Tryz.prog 164 #[.pointer p0, .string p1] h Q :=
  q_a Tryz.func164 (by kernel_rfl) Tryz.ntmps164 (by kernel_rfl) (CC Tryz.call36 CN) orders (trie_Trie_find_den p0 p1) hh
def q_bo (p0 : Option Addr) (p1 : Int) (p2 : Slc) : HM (Bool × Unit) :=
  HM.bind (α := Unit) (HM.ite (((p2.len : Nat) : Int) == 0) (
  HM.bind (α := Addr) (HM.nonnil p0) fun x2 =>
  HM.bind (α := Option Nat) (HM.load1 .map (Addr.add x2 0)) fun x3 =>
  HM.bind (α := Unit) (HM.mapDel (Instr.sameNow (.int .i64)) x3 (.int .i64 p1)) fun _ =>
  HM.pure ()) (
  HM.bind (α := Addr) (HM.nonnil p0) fun x4 =>
  HM.bind (α := Option Nat) (HM.load1 .map (Addr.add x4 1)) fun x5 =>
  HM.bind (α := Addr) (HM.idx p2.a p2.len 0 1) fun x6 =>
  HM.bind (α := ByteArray) (HM.load1 .str x6) fun x7 =>
  HM.bind (α := Option Addr × Bool) (HM.lookup (Instr.sameNow .string) (.pointer none) (.one .ptr) x5 (.string x7)) fun x8 =>
  HM.bind (α := Bool × Unit) (HM.ite (!(Option.isNone x8.1)) (
  HM.bind (α := Slc) (HM.slice p2 (some 1) none none 1) fun x9 =>
  HM.bind (α := Bool) (HM.call1 Tryz.prog (.one .bool) 166 #[.pointer x8.1, .int .i64 p1, .slice x9.a x9.len x9.cap]) fun x10 =>
  HM.pure (x10, ())) (
  HM.pure (false, ()))) fun x11 =>
  HM.bind (α := Unit) (HM.ite x11.1 (
  HM.bind (α := Addr) (HM.nonnil p0) fun x13 =>
  HM.bind (α := Option Nat) (HM.load1 .map (Addr.add x13 1)) fun x14 =>
  HM.bind (α := Addr) (HM.idx p2.a p2.len 0 1) fun x15 =>
  HM.bind (α := ByteArray) (HM.load1 .str x15) fun x16 =>
  HM.bind (α := Unit) (HM.mapDel (Instr.sameNow .string) x14 (.string x16)) fun _ =>
  HM.pure ()) (
  HM.pure ())) fun x12 =>
  HM.pure ())) fun x1 =>
  HM.bind (α := Bool × Unit) (HM.bind (α := Addr) (HM.nonnil p0) fun x17 =>
  HM.bind (α := Option Nat) (HM.load1 .map (Addr.add x17 0)) fun x18 =>
  HM.bind (α := Int) (HM.mapLen x18) fun x19 =>
  HM.ite (x19 == 0) (
  HM.bind (α := Addr) (HM.nonnil p0) fun x20 =>
  HM.bind (α := Option Nat) (HM.load1 .map (Addr.add x20 1)) fun x21 =>
  HM.bind (α := Int) (HM.mapLen x21) fun x22 =>
  HM.pure (x22 == 0, ())) (
  HM.pure (false, ()))) fun x23 =>
  HM.pure (x23.1, ())
theorem q_hb (p0 : Option Addr) (p1 : Int) (p2 : Slc) : denFn Tryz.prog [166] 54 [0, 1, 2, 6, 7, 10, 32] [0, 1, 2, 7, 10, 32] Tryz.f166.results.toList [.one .bool] (bodyOf Tryz.f166) [Kind.val (.one .ptr) p0, Kind.val (.one (.int .i64)) p1, Kind.val (.one .slc) p2] = q_bo p0 p1 p2 := by kernel_rfl
theorem q_b5 (p0 : Option Addr) (p1 : Int) (p2 : Slc) (h : Heap) (Q : Value → Heap → Prop) (hh : q_bo p0 p1 p2 h fun x h' => Q (.bool x.1) h') :
    HCalls Tryz.prog 166 #[.pointer p0, .int .i64 p1, .slice p2.a p2.len p2.cap] h Q :=
  q_a Tryz.func166 (by kernel_rfl) Tryz.ntmps166 (by kernel_rfl) (CC Tryz.call166 CN) orders (q_hb p0 p1 p2) hh
def ids_New (p0 : Int) : HM (Option Addr × Unit) :=
  HM.bind (α := Nat) (HM.new (.map #[] 0)) fun x1 =>
  HM.bind (α := Nat) (HM.new (.cells #[.int .i64 (if 1 < ((if 64 < (p0 : Int) then 64 else p0) : Int) then (if 64 < (p0 : Int) then 64 else p0) else 1), .int .i64 0, .map (some x1)] 338)) fun x2 =>
  HM.pure (some ⟨x2, 0, none⟩, ())
theorem ids_New_den (p0 : Int) : denFn Tryz.prog [] 9 [0, 2] [0] Tryz.f167.results.toList [.one .ptr] (bodyOf Tryz.f167) [Kind.val (.one (.int .i64)) p0] = ids_New p0 := by kernel_rfl
theorem ids_New_calls (p0 : Int) (h : Heap) (Q : Value → Heap → Prop) (hh : ids_New p0 h fun x h' => Q (.pointer x.1) h') :
    HCalls Tryz.prog 167 #[.int .i64 p0] h Q :=
  q_a Tryz.func167 (by kernel_rfl) Tryz.ntmps167 (by kernel_rfl) CN orders (ids_New_den p0) hh
def q_c8 (p0 : Int × ByteArray × Int × Unit) (p1 : Addr) (p2 : Addr) : HM (Unit) :=
  HM.bind (α := Nat) (HM.new (.cells #[.int .i64 p0.1, .string p0.2.1, .int .i64 p0.2.2.1] 208)) fun x1 =>
  HM.bind (α := Int) (HM.load1 (.int .i64) (Addr.add ⟨x1, 0, none⟩ 0)) fun x2 =>
  HM.bind (α := Int) (HM.load1 (.int .i64) p1) fun x3 =>
  HM.bind (α := Unit) (HM.ite (x2 == x3) (
  HM.bind (α := Slc) (HM.load1 .slc p2) fun x5 =>
  HM.bind (α := Int × ByteArray × Int × Unit) (HM.loadN [.int .i64, .str, .int .i64] ⟨x1, 0, none⟩) fun x6 =>
  HM.bind (α := Nat) (HM.new (.cells #[.int .i64 x6.1, .string x6.2.1, .int .i64 x6.2.2.1] 208)) fun x7 =>
  HM.bind (α := Slc) (HM.append 208 3 32 #[.int .i64 0, .string (ByteArray.mk #[]), .int .i64 0] x5 1 (srcSlc 3 (⟨some ⟨x7, 0, none⟩, 1, 1⟩))) fun x8 =>
  HM.bind (α := Unit) (HM.store1 p2 (.slice x8.a x8.len x8.cap)) fun _ =>
  HM.pure ()) (
  HM.pure ())) fun x4 =>
  HM.pure ()
theorem q_iq (p0 : Int × ByteArray × Int × Unit) (p1 : Addr) (p2 : Addr) : denFn Tryz.prog [] 12 [0, 1, 2, 3, 7] [0, 1, 2, 3, 7] Tryz.f168.results.toList [] (bodyOf Tryz.f168) [Kind.val (.agg [.int .i64, .str, .int .i64]) p0, Value.pointer (some p1), Value.pointer (some p2)] = q_c8 p0 p1 p2 := by kernel_rfl
theorem q_gs (p0 : Int × ByteArray × Int × Unit) (p1 : Addr) (p2 : Addr) (h : Heap) (Q : Value → Heap → Prop) (hh : q_c8 p0 p1 p2 h fun x h' => Q (.tuple #[]) h') :
    HCalls Tryz.prog 168 #[.agg #[.int .i64 p0.1, .string p0.2.1, .int .i64 p0.2.2.1], .pointer (some p1), .pointer (some p2)] h Q :=
  q_a Tryz.func168 (by kernel_rfl) Tryz.ntmps168 (by kernel_rfl) CN orders (q_iq p0 p1 p2) hh
def q_gc (p0 : Option Addr) : HM (Int × Int × Unit) :=
  HM.ite (Option.isNone p0) (
  HM.pure (0, 128, ())) (
  HM.bind (α := Int) (HM.call1 Tryz.prog (.one (.int .i64)) 209 #[.pointer p0]) fun x1 =>
  HM.ite (x1 == 0) (
  HM.pure (0, 147, ())) (
  HM.bind (α := Unit) (HM.loop (σ := Unit) (τ := Unit) (fun x3 =>
  HM.bind (α := Addr) (HM.nonnil p0) fun x4 =>
  HM.bind (α := Int) (HM.load1 (.int .i64) (Addr.add x4 1)) fun x5 =>
  HM.req (65535 ≠ (0 : Int)) <|
  HM.bind (α := Addr) (HM.nonnil p0) fun x6 =>
  HM.bind (α := Unit) (HM.store1 (Addr.add x6 1) (.int .i64 (IntKind.wrap .i64 ((Int.tmod x5 65535) + 1)))) fun _ =>
  HM.bind (α := Addr) (HM.nonnil p0) fun x7 =>
  HM.bind (α := Option Nat) (HM.load1 .map (Addr.add x7 2)) fun x8 =>
  HM.bind (α := Addr) (HM.nonnil p0) fun x9 =>
  HM.bind (α := Int) (HM.load1 (.int .i64) (Addr.add x9 1)) fun x10 =>
  HM.bind (α := Bool × Bool) (HM.lookup (Instr.sameNow (.int .i64)) (.bool false) (.one .bool) x8 (.int .i64 x10)) fun x11 =>
  HM.ite (!x11.1) (
  HM.pure (.inr ())) (
  HM.pure (.inl ()))) ()) fun x2 =>
  HM.bind (α := Addr) (HM.nonnil p0) fun x12 =>
  HM.bind (α := Option Nat) (HM.load1 .map (Addr.add x12 2)) fun x13 =>
  HM.bind (α := Addr) (HM.nonnil p0) fun x14 =>
  HM.bind (α := Int) (HM.load1 (.int .i64) (Addr.add x14 1)) fun x15 =>
  HM.bind (α := Unit) (HM.mapSet (Instr.sameNow (.int .i64)) x13 (.int .i64 x15) (.bool true)) fun _ =>
  HM.bind (α := Addr) (HM.nonnil p0) fun x16 =>
  HM.bind (α := Int) (HM.load1 (.int .i64) (Addr.add x16 1)) fun x17 =>
  HM.pure (x17, 0, ())))
theorem ids_Pool_Take_den (p0 : Option Addr) : denFn Tryz.prog [209] 42 [0, 2, 3, 4, 7, 29] [0, 4, 7, 29] Tryz.f169.results.toList [.one (.int .i64), .one (.int .u8)] (bodyOf Tryz.f169) [Kind.val (.one .ptr) p0] = q_gc p0 := by kernel_rfl
theorem ids_Pool_Take_calls (p0 : Option Addr) (h : Heap) (Q : Value → Heap → Prop) (hh : q_gc p0 h fun x h' => Q (.tuple #[.int .i64 x.1, .int .u8 x.2.1]) h') :
    HCalls Tryz.prog 169 #[.pointer p0] h Q :=
  q_a Tryz.func169 (by kernel_rfl) Tryz.ntmps169 (by kernel_rfl) (CC Tryz.call209 CN) orders (ids_Pool_Take_den p0) hh
def topic_Join (p0 : Slc) : HM (ByteArray × Unit) :=
  HM.bind (α := ByteArray) (HM.call1 Tryz.prog (.one .str) 228 #[.slice p0.a p0.len p0.cap, .string (ByteArray.mk #[47])]) fun x1 =>
  HM.pure (x1, ())
theorem topic_Join_den (p0 : Slc) : denFn Tryz.prog [228] 5 [0, 2] [0] Tryz.f186.results.toList [.one .str] (bodyOf Tryz.f186) [Kind.val (.one .slc) p0] = topic_Join p0 := by kernel_rfl
theorem topic_Join_calls (p0 : Slc) (h : Heap) (Q : Value → Heap → Prop) (hh : topic_Join p0 h fun x h' => Q (.string x.1) h') :
    HCalls Tryz.prog 186 #[.slice p0.a p0.len p0.cap] h Q :=
  q_a Tryz.func186 (by kernel_rfl) Tryz.ntmps186 (by kernel_rfl) (CC Tryz.call228 CN) orders (topic_Join_den p0) hh
def inflow_all (p0 : Slc) : HM (Slc × Unit) :=
  HM.pure (p0, ())
theorem inflow_all_den (p0 : Slc) : denFn Tryz.prog [] 4 [0, 2] [0] Tryz.f207.results.toList [.one .slc] (bodyOf Tryz.f207) [Kind.val (.one .slc) p0] = inflow_all p0 := by kernel_rfl
theorem inflow_all_calls (p0 : Slc) (h : Heap) (Q : Value → Heap → Prop) (hh : inflow_all p0 h fun x h' => Q (.slice x.1.a x.1.len x.1.cap) h') :
    HCalls Tryz.prog 207 #[.slice p0.a p0.len p0.cap] h Q :=
  q_a Tryz.func207 (by kernel_rfl) Tryz.ntmps207 (by kernel_rfl) CN orders (inflow_all_den p0) hh
def q_d7 (p0 : Option Addr) (p1 : Int) : HM (Bool × Unit) :=
  HM.bind (α := Addr) (HM.nonnil p0) fun x1 =>
  HM.bind (α := Option Addr) (HM.load1 .ptr (Addr.add x1 0)) fun x2 =>
  HM.bind (α := Slc) (HM.call1 Tryz.prog (.one .slc) 251 #[.pointer x2]) fun x3 =>
  HM.bind (α := Bool) (HM.call1 Tryz.prog (.one .bool) 250 #[.slice x3.a x3.len x3.cap, .int .i64 p1]) fun x4 =>
  HM.pure (x4, ())
theorem inflow_Flow_has_den (p0 : Option Addr) (p1 : Int) : denFn Tryz.prog [251, 250] 12 [0, 1, 4] [0, 1] Tryz.f208.results.toList [.one .bool] (bodyOf Tryz.f208) [Kind.val (.one .ptr) p0, Kind.val (.one (.int .i64)) p1] = q_d7 p0 p1 := by kernel_rfl
theorem q_h3 (p0 : Option Addr) (p1 : Int) (h : Heap) (Q : Value → Heap → Prop) (hh : q_d7 p0 p1 h fun x h' => Q (.bool x.1) h') :
    HCalls Tryz.prog 208 #[.pointer p0, .int .i64 p1] h Q :=
  q_a Tryz.func208 (by kernel_rfl) Tryz.ntmps208 (by kernel_rfl) (CC Tryz.call251 (CC Tryz.call250 CN)) orders (inflow_Flow_has_den p0 p1) hh
def q_gd (p0 : Option Addr) : HM (Int × Unit) :=
  HM.ite (Option.isNone p0) (
  HM.pure (0, ())) (
  HM.bind (α := Addr) (HM.nonnil p0) fun x1 =>
  HM.bind (α := Int) (HM.load1 (.int .i64) (Addr.add x1 0)) fun x2 =>
  HM.bind (α := Addr) (HM.nonnil p0) fun x3 =>
  HM.bind (α := Option Nat) (HM.load1 .map (Addr.add x3 2)) fun x4 =>
  HM.bind (α := Int) (HM.mapLen x4) fun x5 =>
  HM.pure (IntKind.wrap .i64 (x2 - x5), ()))
theorem ids_Pool_Left_den (p0 : Option Addr) : denFn Tryz.prog [] 15 [0, 2, 4] [0, 4] Tryz.f209.results.toList [.one (.int .i64)] (bodyOf Tryz.f209) [Kind.val (.one .ptr) p0] = q_gd p0 := by kernel_rfl
theorem ids_Pool_Left_calls (p0 : Option Addr) (h : Heap) (Q : Value → Heap → Prop) (hh : q_gd p0 h fun x h' => Q (.int .i64 x.1) h') :
    HCalls Tryz.prog 209 #[.pointer p0] h Q :=
  q_a Tryz.func209 (by kernel_rfl) Tryz.ntmps209 (by kernel_rfl) CN orders (ids_Pool_Left_den p0) hh
def q_e2 (p0 : Option Addr) (p1 : Int) : HM (Int × Unit) :=
  HM.ite (Option.isNone p0) (
  HM.pure (128, ())) (
  HM.bind (α := Bool × Unit) (HM.ite (decide (p1 < (1 : Int))) (
  HM.pure (true, ())) (
  HM.pure (decide (65535 < (p1 : Int)), ()))) fun x1 =>
  HM.ite x1.1 (
  HM.pure (129, ())) (
  HM.bind (α := Addr) (HM.nonnil p0) fun x2 =>
  HM.bind (α := Option Nat) (HM.load1 .map (Addr.add x2 2)) fun x3 =>
  HM.bind (α := Bool × Bool) (HM.lookup (Instr.sameNow (.int .i64)) (.bool false) (.one .bool) x3 (.int .i64 p1)) fun x4 =>
  HM.ite x4.1 (
  HM.pure (145, ())) (
  HM.bind (α := Int) (HM.call1 Tryz.prog (.one (.int .i64)) 209 #[.pointer p0]) fun x5 =>
  HM.ite (x5 == 0) (
  HM.pure (147, ())) (
  HM.bind (α := Addr) (HM.nonnil p0) fun x6 =>
  HM.bind (α := Option Nat) (HM.load1 .map (Addr.add x6 2)) fun x7 =>
  HM.bind (α := Unit) (HM.mapSet (Instr.sameNow (.int .i64)) x7 (.int .i64 p1) (.bool true)) fun _ =>
  HM.pure (0, ())))))
theorem ids_Pool_Claim_den (p0 : Option Addr) (p1 : Int) : denFn Tryz.prog [209] 31 [0, 1, 4, 5, 8, 15, 22] [0, 1, 5, 8, 15, 22] Tryz.f210.results.toList [.one (.int .u8)] (bodyOf Tryz.f210) [Kind.val (.one .ptr) p0, Kind.val (.one (.int .i64)) p1] = q_e2 p0 p1 := by kernel_rfl
theorem q_i0 (p0 : Option Addr) (p1 : Int) (h : Heap) (Q : Value → Heap → Prop) (hh : q_e2 p0 p1 h fun x h' => Q (.int .u8 x.1) h') :
    HCalls Tryz.prog 210 #[.pointer p0, .int .i64 p1] h Q :=
  q_a Tryz.func210 (by kernel_rfl) Tryz.ntmps210 (by kernel_rfl) (CC Tryz.call209 CN) orders (ids_Pool_Claim_den p0 p1) hh
def slices_Delete (p0 : Slc) (p1 : Int) (p2 : Int) : HM (Slc × Unit) :=
  HM.bind (α := Slc) (HM.slice p0 (some p1) (some p2) (some ((p0.len : Nat) : Int)) 7) fun x1 =>
  HM.ite (p1 == p2) (
  HM.pure (p0, ())) (
  HM.bind (α := Slc) (HM.slice p0 none (some p1) none 7) fun x2 =>
  HM.bind (α := Slc) (HM.slice p0 (some p2) none none 7) fun x3 =>
  HM.bind (α := Slc) (HM.append 162 7 80 zS5 x2 x3.len (srcSlc 7 x3)) fun x4 =>
  HM.bind (α := Slc) (HM.slice x4 (some ((x4.len : Nat) : Int)) (some ((p0.len : Nat) : Int)) none 7) fun x5 =>
  HM.bind (α := Unit) (HM.clearS zS5 x5) fun _ =>
  HM.pure (x4, ()))
theorem slices_Delete_den (p0 : Slc) (p1 : Int) (p2 : Int) : denFn Tryz.prog [] 33 [0, 1, 2, 6, 7, 16] [0, 1, 2, 7, 16] Tryz.f211.results.toList [.one .slc] (bodyOf Tryz.f211) [Kind.val (.one .slc) p0, Kind.val (.one (.int .i64)) p1, Kind.val (.one (.int .i64)) p2] = slices_Delete p0 p1 p2 := by kernel_rfl
theorem slices_Delete_calls (p0 : Slc) (p1 : Int) (p2 : Int) (h : Heap) (Q : Value → Heap → Prop) (hh : slices_Delete p0 p1 p2 h fun x h' => Q (.slice x.1.a x.1.len x.1.cap) h') :
    HCalls Tryz.prog 211 #[.slice p0.a p0.len p0.cap, .int .i64 p1, .int .i64 p2] h Q :=
  q_a Tryz.func211 (by kernel_rfl) Tryz.ntmps211 (by kernel_rfl) CN orders (slices_Delete_den p0 p1 p2) hh
def q_dx (p0 : Slc) (p1 : Int) : HM (Bool × Unit) :=
  HM.bind (α := Int) (HM.call1 Tryz.prog (.one (.int .i64)) 266 #[.slice p0.a p0.len p0.cap, .int .i64 p1]) fun x1 =>
  HM.pure (decide (0 ≤ (x1 : Int)), ())
theorem slices_Contains_den (p0 : Slc) (p1 : Int) : denFn Tryz.prog [266] 9 [0, 1, 4] [0, 1] Tryz.f250.results.toList [.one .bool] (bodyOf Tryz.f250) [Kind.val (.one .slc) p0, Kind.val (.one (.int .i64)) p1] = q_dx p0 p1 := by kernel_rfl
theorem q_hk (p0 : Slc) (p1 : Int) (h : Heap) (Q : Value → Heap → Prop) (hh : q_dx p0 p1 h fun x h' => Q (.bool x.1) h') :
    HCalls Tryz.prog 250 #[.slice p0.a p0.len p0.cap, .int .i64 p1] h Q :=
  q_a Tryz.func250 (by kernel_rfl) Tryz.ntmps250 (by kernel_rfl) (CC Tryz.call266 CN) orders (slices_Contains_den p0 p1) hh
def q_gb (p0 : Option Addr) : HM (Slc × Unit) :=
  HM.ite (Option.isNone p0) (
  HM.pure (⟨none, 0, 0⟩, ())) (
  HM.bind (α := Addr) (HM.nonnil p0) fun x1 =>
  HM.bind (α := Option Nat) (HM.load1 .map (Addr.add x1 2)) fun x2 =>
  HM.bind (α := Value) (HM.call1 Tryz.prog (.one .any) 267 #[.map x2]) fun x3 =>
  HM.bind (α := Slc) (HM.call1 Tryz.prog (.one .slc) 40 #[x3]) fun x4 =>
  HM.pure (x4, ()))
theorem ids_Pool_Used_den (p0 : Option Addr) : denFn Tryz.prog [267, 40] 11 [0, 2, 4] [0, 4] Tryz.f251.results.toList [.one .slc] (bodyOf Tryz.f251) [Kind.val (.one .ptr) p0] = q_gb p0 := by kernel_rfl
theorem ids_Pool_Used_calls (p0 : Option Addr) (h : Heap) (Q : Value → Heap → Prop) (hh : q_gb p0 h fun x h' => Q (.slice x.1.a x.1.len x.1.cap) h') :
    HCalls Tryz.prog 251 #[.pointer p0] h Q :=
  q_a Tryz.func251 (by kernel_rfl) Tryz.ntmps251 (by kernel_rfl) (CC Tryz.call267 (CC Tryz.call40 CN)) orders (ids_Pool_Used_den p0) hh
def q_hj (p0 : Slc) (p1 : Int) : HM (Int × Unit) :=
  HM.bind (α := (Int × Unit) ⊕ (Int × Unit)) (HM.loop (σ := Int × Unit) (τ := (Int × Unit) ⊕ (Int × Unit)) (fun x2 =>
  HM.ite (decide (x2.1 < (((p0.len : Nat) : Int) : Int))) (
  HM.bind (α := Addr) (HM.idx p0.a p0.len x2.1 1) fun x3 =>
  HM.bind (α := Int) (HM.load1 (.int .i64) x3) fun x4 =>
  HM.ite (p1 == x4) (
  HM.pure (.inr (.inr (x2.1, ())))) (
  HM.pure (.inl (IntKind.wrap .i64 (x2.1 + 1), ())))) (
  HM.pure (.inr (.inl (x2.1, ()))))) (0, ())) (Sum.elim (fun x1 =>
  HM.pure ((-1), ())) HM.pure)
theorem slices_Index_den (p0 : Slc) (p1 : Int) : denFn Tryz.prog [] 19 [0, 1, 4, 5, 7, 8, 9, 16] [0, 1, 5, 7, 8, 9, 16] Tryz.f266.results.toList [.one (.int .i64)] (bodyOf Tryz.f266) [Kind.val (.one .slc) p0, Kind.val (.one (.int .i64)) p1] = q_hj p0 p1 := by kernel_rfl
theorem slices_Index_calls (p0 : Slc) (p1 : Int) (h : Heap) (Q : Value → Heap → Prop) (hh : q_hj p0 p1 h fun x h' => Q (.int .i64 x.1) h') :
    HCalls Tryz.prog 266 #[.slice p0.a p0.len p0.cap, .int .i64 p1] h Q :=
  q_a Tryz.func266 (by kernel_rfl) Tryz.ntmps266 (by kernel_rfl) CN orders (slices_Index_den p0 p1) hh
end Go.Proofs.YtidlldnlphdhcaaGreatDoor
namespace Go.Proofs.YtidlldnlphdhcaaGreatDoor
set_option linter.unusedSimpArgs false
set_option linter.unusedVariables false
open Go.Proofs Go.Shelf
def u8_ren : Go.Shelf.Ren := ⟨fun n => match n with | 197 => 153 | 260 => 204 | n => n, fun n => match n with | 9 => 9 | 21 => 21 | 3 => 3 | 4 => 4 | 5 => 5 | 105 => 289 | 119 => 373 | 0 => 0 | 46 => 263 | 139 => 376 | 138 => 375 | n => n, fun n => match n with | 3 => 1 | 4 => 2 | n => n⟩
theorem u8 : Lays.n197 Tryz.prog u8_ren where
  mixed := by kernel_rfl
  f197 := Tryz.func153.trans (congrArg some (by kernel_rfl))
  f260 := Tryz.func204.trans (congrArg some (by kernel_rfl))
  t0 := Tryz.underlying0
  a0 := Tryz.isAgg0
  z0 := Tryz.sizeOf0
  v0 := Tryz.zeroValue0
  t3 := Tryz.underlying3
  a3 := Tryz.isAgg3
  z3 := Tryz.sizeOf3
  v3 := Tryz.zeroValue3
  t4 := Tryz.underlying4
  a4 := Tryz.isAgg4
  z4 := Tryz.sizeOf4
  v4 := Tryz.zeroValue4
  t5 := Tryz.underlying5
  a5 := Tryz.isAgg5
  z5 := Tryz.sizeOf5
  v5 := Tryz.zeroValue5
  t9 := Tryz.underlying9
  a9 := Tryz.isAgg9
  z9 := Tryz.sizeOf9
  v9 := Tryz.zeroValue9
  t21 := Tryz.underlying21
  a21 := Tryz.isAgg21
  z21 := Tryz.sizeOf21
  v21 := Tryz.zeroValue21
  t46 := Tryz.underlying263
  a46 := Tryz.isAgg263
  z46 := Tryz.sizeOf263
  v46 := Tryz.zeroValue263
  t105 := Tryz.underlying289
  a105 := Tryz.isAgg289
  z105 := Tryz.sizeOf289
  v105 := Tryz.zeroValue289
  t119 := Tryz.underlying373
  a119 := Tryz.isAgg373
  z119 := Tryz.sizeOf373
  t138 := Tryz.underlying375
  a138 := Tryz.isAgg375
  z138 := Tryz.sizeOf375
  v138 := Tryz.zeroValue375
  t139 := Tryz.underlying376
  a139 := Tryz.isAgg376
  z139 := Tryz.sizeOf376
  v139 := Tryz.zeroValue376
  g3 := by kernel_rfl
  g4 := by kernel_rfl
end Go.Proofs.YtidlldnlphdhcaaGreatDoor
namespace Go.Proofs.YtidlldnlphdhcaaGreatDoor
open Go.H Go.Proofs
set_option linter.unusedSimpArgs false
set_option linter.unusedVariables false
set_option synthInstance.maxSize 100000
set_option synthInstance.maxHeartbeats 400000
def U8 (h0 : Heap) : Prop :=
  (∀ c, c < 256 → cellH h0 ⟨u8_ren.g 3, c, none⟩ = some (.int .u8 (Lib.firstT c))) ∧
  (∀ i, i < 16 → cellH h0 ⟨u8_ren.g 4, 2 * i, none⟩ = some (.int .u8 (Lib.accLo i)) ∧ cellH h0 ⟨u8_ren.g 4, 2 * i + 1, none⟩ = some (.int .u8 (Lib.accHi i)))
theorem U8.tabs {h h0 : Heap} {R : List Asn} (ht : U8 h0) (hs : sat h (old h0 :: R)) {w : World} (hw : w.heap = h) : Lib.Utf8Tabs (u8_ren.g 3) (u8_ren.g 4) w := by
  subst hw
  exact ⟨fun c hc => hs.old_cell (ht.1 c hc), fun i hi => ⟨hs.old_cell (ht.2 i hi).1, hs.old_cell (ht.2 i hi).2⟩⟩
theorem Decode_spec {h h0 : Heap} {R : List Asn} (hs : sat h (old h0 :: R)) (ht : U8 h0) (s : ByteArray) {Q : Value → Heap → Prop}
    (hq : ∀ h', sat h' (old h0 :: R) → Q (.tuple #[.int .i32 (Lib.decodeGo s).1, .int .i64 (Lib.decodeGo s).2]) h') : HCalls Tryz.prog 153 #[.string s] h Q :=
  calls_below hs (fun w hw => Any.utf8_DecodeRuneInString u8 s w (ht.tabs hs hw)) hq
def nextLen (s : ByteArray) : Nat := if (Lib.decodeGo s).1 = 0 ∨ ((Lib.decodeGo s).1 = 65533 ∧ (Lib.decodeGo s).2 < 2) then 0 else (Lib.decodeGo s).2
theorem nextLen_le (s : ByteArray) : nextLen s ≤ s.size := by
  unfold nextLen
  split
  · exact Nat.zero_le _
  · exact Lib.decodeGo_le_size s
theorem next_spec {h h0 : Heap} {R : List Asn} (hs : sat h (old h0 :: R)) (ht : U8 h0) (s : ByteArray) {Q : Value → Heap → Prop}
    (hq : ∀ h', sat h' (old h0 :: R) → Q (.int .i64 (nextLen s)) h') : HCalls Tryz.prog 102 #[.string s] h Q := by
  refine text_next_calls s h Q ?_
  unfold text_next
  simp
  refine Decode_spec hs ht s fun h' hs' => ?_
  have := hq h' hs'
  unfold nextLen at this
  by_cases g1 : (Lib.decodeGo s).1 = 0
  · simpa [g1] using this
  · by_cases g2 : (Lib.decodeGo s).1 = 65533
    · by_cases g3 : (Lib.decodeGo s).2 < 2
      · have g3' : ((Lib.decodeGo s).2 : Int) < 2 := by omega
        simpa [g1, g2, g3, g3'] using this
      · have g3' : ¬ ((Lib.decodeGo s).2 : Int) < 2 := by omega
        simpa [g1, g2, g3, g3'] using this
    · have g2' : ¬ ((Lib.decodeGo s).1 : Int) = 65533 := by omega
      simpa [g1, g2, g2'] using this
def faultGo (s : ByteArray) : Nat → Nat → Option Nat
  | 0, _ => none
  | f + 1, at' => if at' < s.size then (if nextLen (s.extract at' s.size) = 0 then some at' else faultGo s f (at' + nextLen (s.extract at' s.size))) else none
def faultOf (s : ByteArray) : Option Nat := faultGo s (s.size + 1) 0
def faultV : Option Nat → Value
  | some n => .tuple #[.int .i64 n, .bool true]
  | none => .tuple #[.int .i64 0, .bool false]
theorem Fault_spec {h h0 : Heap} {R : List Asn} (hs : sat h (old h0 :: R)) (ht : U8 h0) (s : ByteArray) (hsz : s.size ≤ 9223372036854775807) {Q : Value → Heap → Prop}
    (hq : ∀ h', sat h' (old h0 :: R) → Q (faultV (faultOf s)) h') : HCalls Tryz.prog 60 #[.string s] h Q := by
  refine text_Fault_calls s h Q ?_
  unfold text_Fault
  simp only [HM.bind_apply]
  refine q_cv (γ := Nat × Nat) (fun g c h' => c.1 = (g.2 : Int) ∧ g.2 ≤ s.size ∧ s.size - g.2 < g.1 ∧ faultGo s g.1 g.2 = faultOf s ∧ sat h' (old h0 :: R)) (fun g => g.1) (s.size + 1, 0) ⟨rfl, Nat.zero_le _, by simp, rfl, hs⟩ ?_
  rintro ⟨f, at'⟩ ⟨c, ⟨⟩⟩ h1 ⟨hc, hle, hf, hg, hs1⟩
  simp only at hc hle hf hg
  subst hc
  cases f with
  | zero => omega
  | succ f =>
  simp only [faultGo] at hg
  by_cases hlt : at' < s.size
  · rw [if_pos hlt] at hg
    have hlt' : (at' : Int) < (s.size : Int) := by omega
    simp [hlt']
    refine ⟨at', s.size, rfl, ⟨rfl, by omega⟩, ?_⟩
    refine next_spec hs1 ht _ fun h2 hs2 => ?_
    have hn := nextLen_le (s.extract at' s.size)
    generalize nextLen (s.extract at' s.size) = n at hg hn ⊢
    have hsize : (s.extract at' s.size).size = s.size - at' := by simp
    rw [hsize] at hn
    by_cases h0 : n = 0
    · rw [if_pos h0] at hg
      have := hq h2 hs2
      rw [← hg] at this
      simpa [h0, faultV] using this
    · rw [if_neg h0] at hg
      simp [h0]
      exact .mk (f, at' + n) (by simp) ⟨by simp only []; rw [q_al (by omega) (by omega)]; rfl, by simp only []; omega, by simp only []; omega, hg, hs2⟩
  · rw [if_neg hlt] at hg
    have hlt' : ¬ (at' : Int) < (s.size : Int) := by omega
    have := hq h1 hs1
    rw [← hg] at this
    simpa [hlt', faultV] using this
end Go.Proofs.YtidlldnlphdhcaaGreatDoor
namespace Go.Proofs.YtidlldnlphdhcaaGreatDoor
open Go.H Go.Proofs Go.Lib
set_option linter.unusedSimpArgs false
set_option linter.unusedVariables false
set_option synthInstance.maxSize 100000
set_option synthInstance.maxHeartbeats 400000
theorem get_bang {s : ByteArray} {k : Nat} (h : k < s.size) : s[k]? = some (s.get! k) := by
  rw [getElem?_pos s k h]
  have h1 : k < s.data.size := h
  show some (s.data[k]) = some (s.data[k]!)
  rw [getElem!_pos s.data k h1]
variable {h : Heap} {R : List Asn}
end Go.Proofs.YtidlldnlphdhcaaGreatDoor
namespace Go.Proofs.YtidlldnlphdhcaaGreatDoor
open Go.H Go.Proofs Go.Lib
set_option linter.unusedSimpArgs false
set_option linter.unusedVariables false
theorem index_hit_c (c : UInt8) : ∀ (x r : List UInt8), c ∉ x → indexByte (x ++ c :: r) c = x.length
  | [], r, _ => by simp [indexByte]
  | b :: x, r, h => by
    simp only [List.mem_cons, not_or] at h
    have hb : (b == c) = false := by simpa using fun e => h.1 e.symm
    have ih := index_hit_c c x r h.2
    simp only [List.cons_append, indexByte, hb, ih]
    have : ¬ (((x.length : Nat) : Int) == -1) = true := by simp
    simp only [Bool.false_eq_true, if_false, if_neg this, List.length_cons]
    omega
theorem index_miss_c (c : UInt8) : ∀ (x : List UInt8), c ∉ x → indexByte x c = -1
  | [], _ => rfl
  | b :: x, h => by
    simp only [List.mem_cons, not_or] at h
    have hb : (b == c) = false := by simpa using fun e => h.1 e.symm
    simp [indexByte, hb, index_miss_c c x h.2]
theorem hit_c (c : UInt8) (x r : List UInt8) (h : c ∉ x) : index (x ++ c :: r) [c] = x.length := by rw [index_one]; exact index_hit_c c x r h
theorem miss_c (c : UInt8) (x : List UInt8) (h : c ∉ x) : index x [c] = -1 := by rw [index_one]; exact index_miss_c c x h
theorem split_hit_c (c : UInt8) (x r : List UInt8) (k : Nat) (h : c ∉ x) : splitK [c] 0 (k + 1) (x ++ c :: r) = x :: splitK [c] 0 k r := by
  have hi := hit_c c x r h
  have hn : ¬ (index (x ++ c :: r) [c] == -1) = true := by rw [hi]; simp
  simp only [splitK, if_neg hn, hi]
  congr 1
  all_goals simp
theorem split_miss_c (c : UInt8) (x : List UInt8) (k : Nat) (h : c ∉ x) : splitK [c] 0 k x = [x] := by
  cases k with
  | zero => rfl
  | succ k => simp [splitK, miss_c c x h]
theorem count_hit_c (c : UInt8) (x r : List UInt8) (h : c ∉ x) : count (x ++ c :: r) [c] = 1 + count r [c] := by
  rw [count_hit (by simp) (hit_c c x r h)]
  simp
theorem count_miss_c (c : UInt8) (x : List UInt8) (h : c ∉ x) : count x [c] = 0 := count_miss (miss_c c x h)
def lev (c : UInt8) : List UInt8 → List UInt8 → List (List UInt8)
  | x, [] => [x]
  | x, b :: r => if b = c then x :: lev c [] r else lev c (x ++ [b]) r
theorem lev_split (c : UInt8) : ∀ (r x : List UInt8), c ∉ x → splitK [c] 0 (count (x ++ r) [c]) (x ++ r) = lev c x r
  | [], x, h => by
    rw [List.append_nil, count_miss_c c x h, split_miss_c c x _ h]
    rfl
  | b :: r, x, h => by
    by_cases hb : b = c
    · subst hb
      rw [count_hit_c b x r h, Nat.add_comm, split_hit_c b x r _ h]
      have ih := lev_split b r [] (by simp)
      rw [List.nil_append] at ih
      rw [ih]
      simp [lev]
    · have ih := lev_split c r (x ++ [b]) (by simp [h, Ne.symm hb])
      rw [List.append_assoc] at ih
      simp only [lev, if_neg hb]
      exact ih
theorem lev_len (c : UInt8) : ∀ (r x : List UInt8), (lev c x r).length = r.count c + 1
  | [], x => rfl
  | b :: r, x => by
    by_cases hb : b = c
    · subst hb
      simp only [lev, if_pos, List.length_cons, List.count_cons_self, lev_len b r []]
    · simp only [lev, if_neg hb, lev_len c r (x ++ [b]), List.count_cons_of_ne hb]
theorem data_inj {x y : ByteArray} (h : x.data.toList = y.data.toList) : x = y := by
  cases x; cases y
  simp at h
  rw [h]
theorem map_data_inj : ∀ {xs ys : List ByteArray}, xs.map (·.data.toList) = ys.map (·.data.toList) → xs = ys
  | [], [], _ => rfl
  | [], _ :: _, h => by simp at h
  | _ :: _, [], h => by simp at h
  | x :: xs, y :: ys, h => by
    simp only [List.map_cons, List.cons.injEq] at h
    rw [data_inj h.1, map_data_inj h.2]
def slash : ByteArray := ByteArray.mk #[47]
def levels (s : ByteArray) : List ByteArray := splitB slash 0 (countB s slash) s
theorem q_f9 (s : ByteArray) : (levels s).map (·.data.toList) = lev 47 [] s.data.toList := by
  unfold levels
  rw [splitB_data]
  exact lev_split 47 s.data.toList [] (by simp)
theorem q_ii (s : ByteArray) : (levels s).length = s.data.toList.count 47 + 1 := by
  have := congrArg List.length (q_f9 s)
  rw [List.length_map, lev_len] at this
  exact this
theorem levels_ne (s : ByteArray) : levels s ≠ [] := fun h => by
  have := q_ii s
  rw [h] at this
  simp at this
def plusS : ByteArray := ByteArray.mk #[43]
def hashS : ByteArray := ByteArray.mk #[35]
def hasB (c : UInt8) (s : ByteArray) : Bool := decide (c ∈ s.data.toList)
theorem index_pos (c : UInt8) : ∀ l : List UInt8, 0 ≤ indexByte l c ↔ c ∈ l
  | [] => by simp [indexByte]
  | b :: l => by
    by_cases hb : b = c
    · subst hb
      simp [indexByte]
    · have ih := index_pos c l
      have hb' : (b == c) = false := by simpa using hb
      have hge := indexByte_ge l c
      simp only [indexByte, hb', Bool.false_eq_true, if_false, List.mem_cons, Ne.symm hb, false_or]
      rw [← ih]
      by_cases h1 : indexByte l c = -1
      · simp [h1]
      · have h2 : ¬ (indexByte l c == -1) = true := by simpa using h1
        rw [if_neg h2]
        omega
theorem has_index (c : UInt8) (s : ByteArray) : decide (0 ≤ indexByte s.data.toList c) = hasB c s := by
  unfold hasB
  simp only [index_pos]
def sizedT (s : ByteArray) : Bool := (faultOf s).isNone && decide (s.size ≠ 0) && decide (s.size ≤ 256) && decide ((levels s).length ≤ 32)
def nameOK (s : ByteArray) : Bool := sizedT s && !hasB 43 s && !hasB 35 s
def filtG : List ByteArray → Bool
  | [] => true
  | x :: r => (if hasB 35 x then (r.isEmpty && decide (x.size ≤ 1)) else (!hasB 43 x || decide (x.size ≤ 1))) && filtG r
def filterOK (s : ByteArray) : Bool := sizedT s && filtG (levels s)
theorem q_b1 {s : ByteArray} : sizedT s = true ↔ faultOf s = none ∧ s.size ≠ 0 ∧ s.size ≤ 256 ∧ (levels s).length ≤ 32 := by
  unfold sizedT
  simp [Option.isNone_iff_eq_none, and_assoc]
theorem q_hl {s : ByteArray} (h : sizedT s = true) : s.size ≤ 256 := (q_b1.1 h).2.2.1
theorem q_hy {s : ByteArray} (h : nameOK s = true) : sizedT s = true := by
  unfold nameOK at h
  simp only [Bool.and_eq_true] at h
  exact h.1.1
theorem q_bc {s : ByteArray} (h : filterOK s = true) : sizedT s = true := by
  unfold filterOK at h
  simp only [Bool.and_eq_true] at h
  exact h.1
theorem has_one {c : UInt8} {x : ByteArray} (h : hasB c x = true) : x.size ≤ 1 ↔ x = ByteArray.mk #[c] := by
  unfold hasB at h
  rw [decide_eq_true_eq] at h
  constructor
  · intro h1
    refine data_inj ?_
    have hl : x.data.toList.length ≤ 1 := by rw [Array.length_toList]; exact h1
    generalize x.data.toList = l at h hl
    match l, h, hl with
    | [b], h, _ => rw [List.mem_singleton.1 h]
    | _ :: _ :: _, _, hl => simp at hl
  · rintro rfl
    exact Nat.le_refl 1
theorem has_self (c : UInt8) : hasB c (ByteArray.mk #[c]) = true := by simp [hasB]
def levBad (x : ByteArray) (last : Bool) : Bool := (hasB 43 x && decide (x ≠ plusS)) || (hasB 35 x && (decide (x ≠ hashS) || !last))
theorem filtG_cons (x : ByteArray) (r : List ByteArray) : filtG (x :: r) = (!levBad x r.isEmpty && filtG r) := by
  unfold levBad
  rw [filtG]
  congr 1
  by_cases h35 : hasB 35 x = true
  · rw [if_pos h35, h35]
    by_cases hx : x = hashS
    · subst hx
      have : hasB 43 hashS = false := rfl
      rw [this]
      cases r.isEmpty <;> rfl
    · have hs : ¬ x.size ≤ 1 := fun h => hx ((has_one h35).1 h)
      simp [hs, hx]
  · rw [if_neg h35]
    simp only [Bool.not_eq_true] at h35
    rw [h35]
    by_cases h43 : hasB 43 x = true
    · rw [h43]
      by_cases hx : x = plusS
      · subst hx
        rfl
      · have hs : ¬ x.size ≤ 1 := fun h => hx ((has_one h43).1 h)
        simp [hs, hx]
    · simp only [Bool.not_eq_true] at h43
      rw [h43]
      rfl
def matchL : List ByteArray → List ByteArray → Bool
  | [], n => n.isEmpty
  | f :: fs, n => if f = hashS then true else match n with
    | [] => false
    | m :: ns => if f ≠ plusS ∧ f ≠ m then false else matchL fs ns
theorem q_f6 (f : ByteArray) (fs n : List ByteArray) : matchL (f :: fs) n = if f = hashS then true else match n with
    | [] => false
    | m :: ns => if f ≠ plusS ∧ f ≠ m then false else matchL fs ns := by cases n <;> rfl
def eqL : List ByteArray → List ByteArray → Bool
  | [], [] => true
  | a :: l, b :: m => (decide (a = plusS) || decide (a = b)) && eqL l m
  | _, _ => false
def allR (f : List ByteArray) : Bool := decide (f[f.length - 1]? = some hashS)
def cutR (f : List ByteArray) : List ByteArray := if allR f = true then f.take (f.length - 1) else f
def matchP (f n : List ByteArray) : Bool :=
  if n.length < (cutR f).length ∨ (allR f = false ∧ (cutR f).length < n.length) then false else eqL (cutR f) (n.take (cutR f).length)
theorem allR_cons (x y : ByteArray) (r : List ByteArray) : allR (x :: y :: r) = allR (y :: r) := by
  unfold allR
  simp
theorem cutR_cons (x y : ByteArray) (r : List ByteArray) : cutR (x :: y :: r) = x :: cutR (y :: r) := by
  unfold cutR
  rw [allR_cons]
  split
  · simp
  · rfl
theorem match_prog : ∀ (f n : List ByteArray), f ≠ [] → filtG f = true → matchL f n = matchP f n
  | [], _, h, _ => absurd rfl h
  | [x], n, _, hf => by
    rw [q_f6]
    unfold matchP
    by_cases hx : x = hashS
    · have ha : allR [x] = true := by simp [allR, hx]
      have hc : cutR [x] = [] := by simp [cutR, ha]
      rw [if_pos hx, ha, hc]
      simp [eqL]
    · have ha : allR [x] = false := by simp [allR, hx]
      have hc : cutR [x] = [x] := by simp [cutR, ha]
      rw [if_neg hx, ha, hc]
      match n with
      | [] => simp
      | [m] =>
        by_cases h1 : x = plusS
        · simp [eqL, matchL, h1]
        · by_cases h2 : x = m <;> simp [eqL, matchL, h1, h2]
      | m :: m' :: ns =>
        by_cases h1 : x = plusS
        · simp [matchL, h1]
        · by_cases h2 : x = m <;> simp [matchL, h1, h2]
  | x :: y :: r, n, _, hf => by
    have hfr : filtG (y :: r) = true := by
      rw [filtG, Bool.and_eq_true] at hf
      exact hf.2
    have hx : x ≠ hashS := fun h => by
      subst h
      rw [filtG_cons] at hf
      have : levBad hashS (y :: r).isEmpty = true := rfl
      rw [this] at hf
      simp at hf
    have ih := fun ns => match_prog (y :: r) ns (by simp) hfr
    rw [q_f6, if_neg hx]
    unfold matchP at ih ⊢
    rw [allR_cons, cutR_cons]
    match n with
    | [] => simp
    | m :: ns =>
      have ih := ih ns
      simp only [List.length_cons, Nat.add_lt_add_iff_right, List.take_succ_cons]
      by_cases hc : x ≠ plusS ∧ x ≠ m
      · rw [if_pos hc]
        split
        · rfl
        · simp [eqL, hc.1, hc.2]
      · rw [if_neg hc, ih]
        have hd : (decide (x = plusS) || decide (x = m)) = true := by
          by_cases h1 : x = plusS
          · simp [h1]
          · by_cases h2 : x = m
            · simp [h2]
            · exact absurd ⟨h1, h2⟩ hc
        split
        · rfl
        · simp only [eqL, hd, Bool.true_and]
def dollarB (filter name : ByteArray) : Bool := decide (name.get! 0 = 36) && (decide (filter.get! 0 = 43) || decide (filter.get! 0 = 35))
def matchB (filter name : ByteArray) : Bool := filterOK filter && nameOK name && !dollarB filter name && matchL (levels filter) (levels name)
theorem first_one {s : ByteArray} (h : s.size ≠ 0) (c : UInt8) : s.extract 0 1 = ByteArray.mk #[c] ↔ s.get! 0 = c := by
  obtain ⟨⟨l⟩⟩ := s
  match l with
  | [] => exact absurd rfl h
  | b :: l =>
    have e1 : (ByteArray.mk (List.toArray (b :: l))).get! 0 = b := rfl
    rw [e1]
    constructor
    · intro he
      have := congrArg (fun x : ByteArray => x.data.toList) he
      simp at this
      exact this
    · rintro rfl
      refine data_inj ?_
      simp
end Go.Proofs.YtidlldnlphdhcaaGreatDoor
namespace Go.Proofs.YtidlldnlphdhcaaGreatDoor
set_option linter.unusedSimpArgs false
set_option linter.unusedVariables false
open Go.Proofs Go.Shelf
def countL_ren : Go.Shelf.Ren := ⟨fun n => match n with | 138 => 61 | 195 => 103 | 218 => 104 | 143 => 62 | 219 => 105 | 217 => 154 | 225 => 155 | 224 => 156 | 267 => 157 | 266 => 205 | 314 => 206 | n => n, fun n => match n with | 9 => 9 | 3 => 3 | 4 => 4 | 5 => 5 | 0 => 0 | 46 => 263 | 146 => 335 | 51 => 315 | n => n, fun n => match n with | 1 => 0 | n => n⟩
theorem countL : Lays.n138 Tryz.prog countL_ren where
  mixed := by kernel_rfl
  f138 := Tryz.func61.trans (congrArg some (by kernel_rfl))
  f143 := Tryz.func62.trans (congrArg some (by kernel_rfl))
  f195 := Tryz.func103.trans (congrArg some (by kernel_rfl))
  f217 := Tryz.func154.trans (congrArg some (by kernel_rfl))
  f218 := Tryz.func104.trans (congrArg some (by kernel_rfl))
  f219 := Tryz.func105.trans (congrArg some (by kernel_rfl))
  f224 := Tryz.func156.trans (congrArg some (by kernel_rfl))
  f225 := Tryz.func155.trans (congrArg some (by kernel_rfl))
  f266 := Tryz.func205.trans (congrArg some (by kernel_rfl))
  f267 := Tryz.func157.trans (congrArg some (by kernel_rfl))
  f314 := Tryz.func206.trans (congrArg some (by kernel_rfl))
  t0 := Tryz.underlying0
  a0 := Tryz.isAgg0
  z0 := Tryz.sizeOf0
  v0 := Tryz.zeroValue0
  t3 := Tryz.underlying3
  a3 := Tryz.isAgg3
  z3 := Tryz.sizeOf3
  v3 := Tryz.zeroValue3
  t4 := Tryz.underlying4
  a4 := Tryz.isAgg4
  z4 := Tryz.sizeOf4
  v4 := Tryz.zeroValue4
  t5 := Tryz.underlying5
  a5 := Tryz.isAgg5
  z5 := Tryz.sizeOf5
  v5 := Tryz.zeroValue5
  t9 := Tryz.underlying9
  a9 := Tryz.isAgg9
  z9 := Tryz.sizeOf9
  v9 := Tryz.zeroValue9
  t46 := Tryz.underlying263
  a46 := Tryz.isAgg263
  z46 := Tryz.sizeOf263
  v46 := Tryz.zeroValue263
  t51 := Tryz.underlying315
  a51 := Tryz.isAgg315
  z51 := Tryz.sizeOf315
  v51 := Tryz.zeroValue315
  t146 := Tryz.underlying335
  a146 := Tryz.isAgg335
  z146 := Tryz.sizeOf335
  v146 := Tryz.zeroValue335
  g1 := by kernel_rfl
def contL_ren : Go.Shelf.Ren := ⟨fun n => match n with | 144 => 31 | 143 => 62 | 219 => 105 | 217 => 154 | 225 => 155 | 224 => 156 | 267 => 157 | 266 => 205 | 314 => 206 | n => n, fun n => match n with | 9 => 9 | 4 => 4 | 3 => 3 | 5 => 5 | 46 => 263 | 146 => 335 | 51 => 315 | n => n, fun n => match n with | 1 => 0 | n => n⟩
theorem contL : Lays.n144 Tryz.prog contL_ren where
  mixed := by kernel_rfl
  f143 := Tryz.func62.trans (congrArg some (by kernel_rfl))
  f144 := Tryz.func31.trans (congrArg some (by kernel_rfl))
  f217 := Tryz.func154.trans (congrArg some (by kernel_rfl))
  f219 := Tryz.func105.trans (congrArg some (by kernel_rfl))
  f224 := Tryz.func156.trans (congrArg some (by kernel_rfl))
  f225 := Tryz.func155.trans (congrArg some (by kernel_rfl))
  f266 := Tryz.func205.trans (congrArg some (by kernel_rfl))
  f267 := Tryz.func157.trans (congrArg some (by kernel_rfl))
  f314 := Tryz.func206.trans (congrArg some (by kernel_rfl))
  t3 := Tryz.underlying3
  a3 := Tryz.isAgg3
  z3 := Tryz.sizeOf3
  v3 := Tryz.zeroValue3
  t4 := Tryz.underlying4
  a4 := Tryz.isAgg4
  z4 := Tryz.sizeOf4
  v4 := Tryz.zeroValue4
  t5 := Tryz.underlying5
  a5 := Tryz.isAgg5
  z5 := Tryz.sizeOf5
  v5 := Tryz.zeroValue5
  t9 := Tryz.underlying9
  a9 := Tryz.isAgg9
  z9 := Tryz.sizeOf9
  v9 := Tryz.zeroValue9
  t46 := Tryz.underlying263
  a46 := Tryz.isAgg263
  z46 := Tryz.sizeOf263
  v46 := Tryz.zeroValue263
  t51 := Tryz.underlying315
  a51 := Tryz.isAgg315
  z51 := Tryz.sizeOf315
  v51 := Tryz.zeroValue315
  t146 := Tryz.underlying335
  a146 := Tryz.isAgg335
  z146 := Tryz.sizeOf335
  v146 := Tryz.zeroValue335
  g1 := by kernel_rfl
def splitS_ren : Go.Shelf.Ren := ⟨fun n => match n with | 146 => 74 | 221 => 120 | 268 => 170 | 138 => 61 | 143 => 62 | 195 => 103 | 197 => 153 | 218 => 104 | 219 => 105 | 260 => 204 | 217 => 154 | 225 => 155 | 224 => 156 | 267 => 157 | 266 => 205 | 314 => 206 | n => n, fun n => match n with | 9 => 9 | 31 => 43 | 3 => 3 | 4 => 4 | 0 => 0 | 105 => 289 | 21 => 21 | 5 => 5 | 46 => 263 | 119 => 373 | 139 => 376 | 138 => 375 | 146 => 335 | 51 => 315 | n => n, fun n => match n with | 1 => 0 | 3 => 1 | 4 => 2 | n => n⟩
theorem splitS : Lays.n146 Tryz.prog splitS_ren where
  mixed := by kernel_rfl
  f138 := Tryz.func61.trans (congrArg some (by kernel_rfl))
  f143 := Tryz.func62.trans (congrArg some (by kernel_rfl))
  f146 := Tryz.func74.trans (congrArg some (by kernel_rfl))
  f195 := Tryz.func103.trans (congrArg some (by kernel_rfl))
  f197 := Tryz.func153.trans (congrArg some (by kernel_rfl))
  f217 := Tryz.func154.trans (congrArg some (by kernel_rfl))
  f218 := Tryz.func104.trans (congrArg some (by kernel_rfl))
  f219 := Tryz.func105.trans (congrArg some (by kernel_rfl))
  f221 := Tryz.func120.trans (congrArg some (by kernel_rfl))
  f224 := Tryz.func156.trans (congrArg some (by kernel_rfl))
  f225 := Tryz.func155.trans (congrArg some (by kernel_rfl))
  f260 := Tryz.func204.trans (congrArg some (by kernel_rfl))
  f266 := Tryz.func205.trans (congrArg some (by kernel_rfl))
  f267 := Tryz.func157.trans (congrArg some (by kernel_rfl))
  f268 := Tryz.func170.trans (congrArg some (by kernel_rfl))
  f314 := Tryz.func206.trans (congrArg some (by kernel_rfl))
  t0 := Tryz.underlying0
  a0 := Tryz.isAgg0
  z0 := Tryz.sizeOf0
  v0 := Tryz.zeroValue0
  t3 := Tryz.underlying3
  a3 := Tryz.isAgg3
  z3 := Tryz.sizeOf3
  v3 := Tryz.zeroValue3
  t4 := Tryz.underlying4
  a4 := Tryz.isAgg4
  z4 := Tryz.sizeOf4
  v4 := Tryz.zeroValue4
  t5 := Tryz.underlying5
  a5 := Tryz.isAgg5
  z5 := Tryz.sizeOf5
  v5 := Tryz.zeroValue5
  t9 := Tryz.underlying9
  a9 := Tryz.isAgg9
  z9 := Tryz.sizeOf9
  v9 := Tryz.zeroValue9
  t21 := Tryz.underlying21
  a21 := Tryz.isAgg21
  z21 := Tryz.sizeOf21
  v21 := Tryz.zeroValue21
  t31 := Tryz.underlying43
  a31 := Tryz.isAgg43
  z31 := Tryz.sizeOf43
  v31 := Tryz.zeroValue43
  t46 := Tryz.underlying263
  a46 := Tryz.isAgg263
  z46 := Tryz.sizeOf263
  v46 := Tryz.zeroValue263
  t51 := Tryz.underlying315
  a51 := Tryz.isAgg315
  z51 := Tryz.sizeOf315
  v51 := Tryz.zeroValue315
  t105 := Tryz.underlying289
  a105 := Tryz.isAgg289
  z105 := Tryz.sizeOf289
  v105 := Tryz.zeroValue289
  t119 := Tryz.underlying373
  a119 := Tryz.isAgg373
  z119 := Tryz.sizeOf373
  t138 := Tryz.underlying375
  a138 := Tryz.isAgg375
  z138 := Tryz.sizeOf375
  v138 := Tryz.zeroValue375
  t139 := Tryz.underlying376
  a139 := Tryz.isAgg376
  z139 := Tryz.sizeOf376
  v139 := Tryz.zeroValue376
  t146 := Tryz.underlying335
  a146 := Tryz.isAgg335
  z146 := Tryz.sizeOf335
  v146 := Tryz.zeroValue335
  g1 := by kernel_rfl
  g3 := by kernel_rfl
  g4 := by kernel_rfl
end Go.Proofs.YtidlldnlphdhcaaGreatDoor
namespace Go.H
set_option linter.unusedSimpArgs false
set_option linter.unusedVariables false
open Go.RowKit Go.Maps Go.Sort Go.Shelf Go.Proofs
theorem below_grow {w w' : World} (hb : Below w.heap.size w w') : ∀ (k : Nat) o, w.heap[k]? = some o → w'.heap[k]? = some o := fun k o ho => by
  have hk := (Array.getElem?_eq_some_iff.1 ho).1
  rw [hb.block k hk]; exact ho
theorem below_same {B : Nat} {w w' : World} (hb : Below B w w') : Same w w' := ⟨hb.os, hb.tape, hb.output⟩
theorem own_of_row {α : Type} {enc : α → List Value} {size base : Nat} {T : TypeId} {w' : World} {v : Value} {n : Nat} {xs : List α} {h : Heap} {R : List Asn}
    (hr : w'.ownsRow base T size v n (xs.flatMap enc)) (hn : n = xs.length) (hs : sat h R) (hg : ∀ (k : Nat) o, h[k]? = some o → w'.heap[k]? = some o) (hb : h.size ≤ base) :
    ∃ s : Slc, v = .slice s.a s.len s.cap ∧ sat w'.heap (ownS enc size s xs :: R) := by
  obtain ⟨h1, ⟨rfl, h2⟩ | ⟨g, cap, cur, rfl, h3, h4, h5, h6, h7, h8⟩⟩ := hr
  · have hx : xs = [] := List.eq_nil_of_length_eq_zero (by omega)
    subst hx
    exact ⟨⟨none, 0, 0⟩, rfl, q_a3 (hs.grow hg)⟩
  · exact ⟨⟨some ⟨g, 0, none⟩, n, cap⟩, rfl, q_cq (o := 0) ⟨by simp, h5, hn, by simp only [Nat.zero_add]; exact Nat.le_of_eq h7.symm, by simpa using h8⟩ (hs.came_cells hg (by omega) h4)⟩
abbrev eI (x : Int) : List Value := [.int .i64 x]
def sortI (l : List Int) : List Int := l.mergeSort fun x y => decide (x ≤ y)
section
variable {P : Program} {ρk ρs ρt : Ren} {V : Type} {ev : V → Value} {h : Heap} {R : List Asn}
theorem keysI_call (K : SlLaysZI.n7 P ρk) (m : Option Nat) {Q : Value → Heap → Prop} (hq : Q (.func (.func (ρk.f 10)) #[] #[.pointer (some ⟨h.size, 0, none⟩)]) (h.push (.cells #[.map m] (ρk.t 23)))) :
    HCalls P (ρk.f 7) #[.map m] h Q := fun w hw => by
  subst hw
  refine (callsIn_wide (n := 5)).1 ((AnyZI.keys_in K Fence.wide 5 trivial rfl m w).mono ?_)
  rintro e w' ⟨rfl, rfl⟩
  exact ⟨_, rfl, ⟨rfl, rfl, rfl⟩, hq⟩
theorem sortsI (T : SlLaysM.n5 P ρt) (he : ρt.f 5 = ρs.f 9) (m : Nat) : AnyZI.SortsIn P ρs Fence.wide m := by
  refine ⟨fun blk off cap ss W hH hblk hsz => ?_, fun p cap W => ?_⟩
  · rw [← he]; exact callsIn_wide.2 (AnyM.slices_Sort_int T blk off cap ss W hH hblk hsz)
  · rw [← he]; exact callsIn_wide.2 (AnyM.slices_Sort_int_none T p cap W)
theorem owns_of_map {H : Type} {w : World} {b : Nat} {l : List (Int × V)} {k : TypeId} (hk : P.underlying k = some (.int .i64)) (hs : sat w.heap (mapA (fun n : Int => .int .i64 n) ev b l :: R))
    (hw : ∀ p ∈ l, (Lit.int .i64 p.1).wf = true) (hl : l.length ≤ maxLen) :
    ∃ D0 : DataW H, w.ownsMap P k (fun _ => some (.nil, [])) b l.length D0 ∧ Maps.size D0 = l.length ∧ (intKeys D0).Perm (l.map (·.1)) := by
  obtain ⟨es, c, ⟨he, hst⟩, hs⟩ := q_bg.1 hs
  have hsz : es.size = l.length := by
    have := congrArg List.length he
    simpa using this
  have hkeys : es.toList.map (·.key) = l.map (fun p => Value.int .i64 p.1) := by
    have := congrArg (List.map Prod.fst) he
    simpa [Function.comp_def] using this
  have hrd : ∀ x ∈ es.toList, ∃ p ∈ l, x.key = .int .i64 p.1 ∧ WideElems.rd (H := H) P k (fun _ => some (.nil, [])) x = some (.int .i64 p.1, .nil) := by
    intro x hx
    have hm : x.key ∈ l.map (fun p => Value.int .i64 p.1) := by rw [← hkeys]; exact List.mem_map_of_mem hx
    obtain ⟨p, hp, e⟩ := List.mem_map.1 hm
    exact ⟨p, hp, e.symm, by simp [WideElems.rd, ← e, keyOf, hk, mapKey, hw p hp]⟩
  have hrg : es.toList.map (WideElems.rg (H := H) P k (fun _ => some (.nil, []))) = l.map (fun p => ((Lit.int .i64 p.1, DataW.nil) : Lit × DataW H)) := by
    have e1 : es.toList.map (WideElems.rg (H := H) P k (fun _ => some (.nil, []))) = (es.toList.map (·.key)).map (fun v => (match v with | .int q n => Lit.int q n | _ => .bool false, DataW.nil)) := by
      rw [List.map_map]
      refine List.map_congr_left fun x hx => ?_
      obtain ⟨p, hp, h1, h2⟩ := hrd x hx
      simp [WideElems.rg, h2, h1]
    rw [e1, hkeys, List.map_map]
    rfl
  refine ⟨_, ⟨es, c, hs.get, ⟨by omega, hst, fun x hx => ?_⟩, by omega, rfl⟩, ?_, ?_⟩
  · obtain ⟨p, _, _, h2⟩ := hrd x hx
    exact ⟨_, h2⟩
  · rw [hrg, Maps.size_eq, length_sorted, List.length_map]
  · rw [hrg]
    show (List.map _ _).Perm _
    refine ((WideShapes.sorted_perm _).map _).trans ?_
    rw [List.map_map]
    exact List.Perm.refl _
theorem sortedI_call (K : SlLaysZI.n7 P ρk) (S : SlLaysZI.n6 P ρs) (T : SlLaysM.n5 P ρt) (he : ρt.f 5 = ρs.f 9) (e9 : ∀ args w, (callFunc (ρs.f 9) args).run P w = .ok (.enter (ρs.f 9) args) w)
    (eg : ∀ args w, (callFunc (ρk.f 10) args).run P w = .ok (.enter (ρk.f 10) args) w) {b bm : Nat} {l : List (Int × V)}
    (hs : sat h (mapA (fun n : Int => .int .i64 n) ev b l :: R)) (hw : ∀ p ∈ l, (Lit.int .i64 p.1).wf = true) (hl : l.length * 8 ≤ 140737488355328) (hc : cellH h ⟨bm, 0, none⟩ = some (.map (some b))) {Q : Value → Heap → Prop}
    (hq : ∀ (s : Slc) h', sat h' (ownS eI 1 s (sortI (l.map (·.1))) :: mapA (fun n : Int => .int .i64 n) ev b l :: R) → Q (.slice s.a s.len s.cap) h') :
    HCalls P (ρs.f 6) #[.func (.func (ρk.f 10)) #[] #[.pointer (some ⟨bm, 0, none⟩)]] h Q := fun w hw' => by
  subst hw'
  have K' : SlLaysZI.n10 P ρk := { K with }
  have hmax : l.length ≤ maxLen := by unfold maxLen; omega
  obtain ⟨D0, hown, hsz, hperm⟩ := owns_of_map (H := Unit) K'.t26 hs hw hmax
  have hbm : bm < w.heap.size := by
    unfold cellH at hc
    cases hx : w.heap[bm]? with
    | none => simp [hx] at hc
    | some o => exact (Array.getElem?_eq_some_iff.1 hx).1
  have hseq : SeqGives Fence.wide 2 P (ρk.f 10) #[.pointer (some ⟨bm, 0, none⟩)] encZ (fun ss => ss.Perm (intKeys D0)) (Maps.size D0) w :=
    AnyZI.keys_gives K' Fence.wide _ trivial rfl (by omega) bm b l.length D0 w hbm hc hown
  have cS := AnyZI.sorted_in S Fence.wide 5 trivial trivial trivial trivial rfl (by omega) (sortsI T he _) e9 (ρk.f 10) #[.pointer (some ⟨bm, 0, none⟩)] trivial eg _ _ (by rw [hsz]; exact hmax) (by rw [hsz]; exact hl) _ hseq
  refine ((callsIn_wide).1 cS).mono ?_
  rintro e w' ⟨v, ss, rfl, hS, hrow, hnil, hb⟩
  have hp : ss.Perm (l.map (·.1)) := hS.trans hperm
  have e1 : (ss.mergeSort fun x y => decide (x ≤ y)) = sortI (l.map (·.1)) := mergeSort_of_perm_i hp
  rw [e1] at hrow
  have e2 : (sortI (l.map (·.1))).map encZ = (sortI (l.map (·.1))).flatMap eI := by
    induction sortI (l.map (·.1)) with
    | nil => rfl
    | cons a l ih => rw [List.map_cons, ih]; rfl
  rw [e2] at hrow
  obtain ⟨s, rfl, hs'⟩ := own_of_row hrow (by simp [sortI, List.length_mergeSort, hp.length_eq]) hs (below_grow hb) (Nat.le_refl _)
  exact ⟨_, rfl, below_same hb, hq s _ hs'⟩
end
end Go.H
namespace Go.H
set_option linter.unusedSimpArgs false
set_option linter.unusedVariables false
open Go.RowKit Go.Maps Go.Sort Go.Shelf Go.Proofs
abbrev eS (x : ByteArray) : List Value := [.string x]
def ofL (x : List UInt8) : ByteArray := ⟨x.toArray⟩
def sortS (l : List ByteArray) : List ByteArray := ((l.map (·.data.toList)).mergeSort fun x y => decide (x ≤ y)).map ofL
section
variable {P : Program} {ρk ρs ρt : Ren} {V : Type} {ev : V → Value} {h : Heap} {R : List Asn}
theorem keysS_call (K : SlLaysZ.n7 P ρk) (m : Option Nat) {Q : Value → Heap → Prop} (hq : Q (.func (.func (ρk.f 10)) #[] #[.pointer (some ⟨h.size, 0, none⟩)]) (h.push (.cells #[.map m] (ρk.t 23)))) :
    HCalls P (ρk.f 7) #[.map m] h Q := fun w hw => by
  subst hw
  refine (callsIn_wide (n := 5)).1 ((AnyZ.keys_in K Fence.wide 5 trivial rfl m w).mono ?_)
  rintro e w' ⟨rfl, rfl⟩
  exact ⟨_, rfl, ⟨rfl, rfl, rfl⟩, hq⟩
theorem sortsS (T : SlLaysM.n6 P ρt) (he : ρt.f 6 = ρs.f 9) (m : Nat) : AnyZ.SortsIn P ρs Fence.wide m := by
  refine ⟨fun blk off cap ss W hH hblk hsz => ?_, fun p cap W => ?_⟩
  · rw [← he]; exact callsIn_wide.2 (AnyM.slices_Sort_string T blk off cap ss W hH hblk hsz)
  · rw [← he]; exact callsIn_wide.2 (AnyM.slices_Sort_string_none T p cap W)
theorem owns_of_mapS {H : Type} {w : World} {b : Nat} {l : List (ByteArray × V)} {k : TypeId} (hk : P.underlying k = some .string) (hs : sat w.heap (mapA (fun n : ByteArray => .string n) ev b l :: R))
    (hw : ∀ p ∈ l, p.1.size ≤ maxLen) (hl : l.length ≤ maxLen) :
    ∃ D0 : DataW H, w.ownsMap P k (fun _ => some (.nil, [])) b l.length D0 ∧ Maps.size D0 = l.length ∧ (strKeys D0).Perm (l.map (·.1.data.toList)) := by
  obtain ⟨es, c, ⟨he, hst⟩, hs⟩ := q_bg.1 hs
  have hsz : es.size = l.length := by
    have := congrArg List.length he
    simpa using this
  have hkeys : es.toList.map (·.key) = l.map (fun p => Value.string p.1) := by
    have := congrArg (List.map Prod.fst) he
    simpa [Function.comp_def] using this
  have hrd : ∀ x ∈ es.toList, ∃ p ∈ l, x.key = .string p.1 ∧ WideElems.rd (H := H) P k (fun _ => some (.nil, [])) x = some (.string p.1.data.toList, .nil) := by
    intro x hx
    have hm : x.key ∈ l.map (fun p => Value.string p.1) := by rw [← hkeys]; exact List.mem_map_of_mem hx
    obtain ⟨p, hp, e⟩ := List.mem_map.1 hm
    exact ⟨p, hp, e.symm, by simp [WideElems.rd, ← e, keyOf, hk, mapKey, hw p hp]⟩
  have hrg : es.toList.map (WideElems.rg (H := H) P k (fun _ => some (.nil, []))) = l.map (fun p => ((Lit.string p.1.data.toList, DataW.nil) : Lit × DataW H)) := by
    have e1 : es.toList.map (WideElems.rg (H := H) P k (fun _ => some (.nil, []))) = (es.toList.map (·.key)).map (fun v => (match v with | .string q => Lit.string q.data.toList | _ => .bool false, DataW.nil)) := by
      rw [List.map_map]
      refine List.map_congr_left fun x hx => ?_
      obtain ⟨p, hp, h1, h2⟩ := hrd x hx
      simp [WideElems.rg, h2, h1]
    rw [e1, hkeys, List.map_map]
    rfl
  refine ⟨_, ⟨es, c, hs.get, ⟨by omega, hst, fun x hx => ?_⟩, by omega, rfl⟩, ?_, ?_⟩
  · obtain ⟨p, _, _, h2⟩ := hrd x hx
    exact ⟨_, h2⟩
  · rw [hrg, Maps.size_eq, length_sorted, List.length_map]
  · rw [hrg]
    show (List.map _ _).Perm _
    refine ((WideShapes.sorted_perm _).map _).trans ?_
    rw [List.map_map]
    exact List.Perm.refl _
theorem sortedS_call (K : SlLaysZ.n7 P ρk) (S : SlLaysZ.n6 P ρs) (T : SlLaysM.n6 P ρt) (he : ρt.f 6 = ρs.f 9) (e9 : ∀ args w, (callFunc (ρs.f 9) args).run P w = .ok (.enter (ρs.f 9) args) w)
    (eg : ∀ args w, (callFunc (ρk.f 10) args).run P w = .ok (.enter (ρk.f 10) args) w) {b bm : Nat} {l : List (ByteArray × V)}
    (hs : sat h (mapA (fun n : ByteArray => .string n) ev b l :: R)) (hw : ∀ p ∈ l, p.1.size ≤ maxLen) (hl : l.length * 16 ≤ 140737488355328) (hc : cellH h ⟨bm, 0, none⟩ = some (.map (some b))) {Q : Value → Heap → Prop}
    (hq : ∀ (s : Slc) h', sat h' (ownS eS 1 s (sortS (l.map (·.1))) :: mapA (fun n : ByteArray => .string n) ev b l :: R) → Q (.slice s.a s.len s.cap) h') :
    HCalls P (ρs.f 6) #[.func (.func (ρk.f 10)) #[] #[.pointer (some ⟨bm, 0, none⟩)]] h Q := fun w hw' => by
  subst hw'
  have K' : SlLaysZ.n10 P ρk := { K with }
  have hmax : l.length ≤ maxLen := by unfold maxLen; omega
  obtain ⟨D0, hown, hsz, hperm⟩ := owns_of_mapS (H := Unit) K'.t26 hs hw hmax
  have hbm : bm < w.heap.size := by
    unfold cellH at hc
    cases hx : w.heap[bm]? with
    | none => simp [hx] at hc
    | some o => exact (Array.getElem?_eq_some_iff.1 hx).1
  have hseq : SeqGives Fence.wide 2 P (ρk.f 10) #[.pointer (some ⟨bm, 0, none⟩)] encStr (fun ss => ss.Perm (strKeys D0)) (Maps.size D0) w :=
    AnyZ.keys_gives K' Fence.wide _ trivial rfl (by omega) bm b l.length D0 w hbm hc hown
  have cS := AnyZ.sorted_in S Fence.wide 5 trivial trivial trivial trivial rfl (by omega) (sortsS T he _) e9 (ρk.f 10) #[.pointer (some ⟨bm, 0, none⟩)] trivial eg _ _ (by rw [hsz]; exact hmax) (by rw [hsz]; exact hl) _ hseq
  refine ((callsIn_wide).1 cS).mono ?_
  rintro e w' ⟨v, ss, rfl, hS, hrow, hnil, hb⟩
  have hp : ss.Perm (l.map (·.1.data.toList)) := hS.trans hperm
  have e1 : ((ss.mergeSort fun x y => decide (x ≤ y)).map ofL) = sortS (l.map (·.1)) := by
    unfold sortS
    rw [List.map_map]
    exact congrArg (List.map ofL) (mergeSort_of_perm hp)
  have e2 : (ss.mergeSort fun x y => decide (x ≤ y)).map encStr = (sortS (l.map (·.1))).flatMap eS := by
    rw [← e1]
    generalize (ss.mergeSort fun x y => decide (x ≤ y)) = t
    induction t with
    | nil => rfl
    | cons a l ih => rw [List.map_cons, ih]; rfl
  rw [e2] at hrow
  obtain ⟨s, rfl, hs'⟩ := own_of_row hrow (by rw [← e1]; simp [List.length_mergeSort]) hs (below_grow hb) (Nat.le_refl _)
  exact ⟨_, rfl, below_same hb, hq s _ hs'⟩
end
end Go.H
namespace Go.Proofs.YtidlldnlphdhcaaGreatDoor
open Go.H Go.Proofs Go.Lib
set_option linter.unusedSimpArgs false
set_option linter.unusedVariables false
set_option synthInstance.maxSize 100000
set_option synthInstance.maxHeartbeats 400000
structure TP (h0 : Heap) : Prop where
  u8 : U8 h0
  maxl : ∃ m, cellH h0 ⟨0, 0, none⟩ = some (.int .i64 m)
theorem q_et : ∀ x : ByteArray, (eS x).length = 1 := fun _ => rfl
theorem eS_cell : ∀ x : ByteArray, ∀ v ∈ eS x, v.oneCell' = true := fun x v hv => by rw [List.mem_singleton.1 hv]; rfl
variable {h h0 : Heap} {R : List Asn}
theorem own_full {b : Nat} {xs : List ByteArray} (hs : sat h (cells b (xs.map Value.string).toArray :: R)) : sat h (ownS eS 1 ⟨some ⟨b, 0, none⟩, xs.length, xs.length⟩ xs :: R) := by
  refine q_cq (o := 0) ⟨rfl, Nat.le_refl _, rfl, by simp, ?_⟩ hs
  simp only [Nat.zero_mul, List.drop_zero, Nat.mul_one, List.toList_toArray]
  rw [List.take_of_length_le (by simp)]
  induction xs with
  | nil => rfl
  | cons x xs ih =>
    rw [List.map_cons, List.flatMap_cons]
    have : ∀ xs : List ByteArray, xs.map Value.string = xs.flatMap eS := fun xs => by
      induction xs with
      | nil => rfl
      | cons y ys ih => rw [List.map_cons, List.flatMap_cons, ih]; rfl
    rw [this xs]
    rfl
theorem Count_spec {s : ByteArray} {Q : Value → Heap → Prop} (hq : Q (.int .i64 ((s.data.toList.count 47 : Nat) : Int)) h) :
    HCalls Tryz.prog 61 #[.string s, .string (ByteArray.mk #[47])] h Q := fun w hw => by
  subst hw
  refine (Any.strings_Count_one countL s 47 w).mono ?_
  rintro e w' ⟨rfl, rfl⟩
  exact ⟨_, rfl, ⟨rfl, rfl, rfl⟩, hq⟩
theorem q_am {s : ByteArray} {c : UInt8} {Q : Value → Heap → Prop} (hq : Q (.bool (hasB c s)) h) :
    HCalls Tryz.prog 31 #[.string s, .string (ByteArray.mk #[c])] h Q := fun w hw => by
  subst hw
  refine (Any.strings_Contains_one contL s c w).mono ?_
  rintro e w' ⟨rfl, rfl⟩
  rw [has_index]
  exact ⟨_, rfl, ⟨rfl, rfl, rfl⟩, hq⟩
theorem q_eg (hs : sat h (old h0 :: R)) (ht : TP h0) {s : ByteArray} (hsz : s.size ≤ 256) {Q : Value → Heap → Prop}
    (hq : ∀ (sl : Slc) h', sat h' (ownS eS 1 sl (levels s) :: old h0 :: R) → Q (.slice sl.a sl.len sl.cap) h') :
    HCalls Tryz.prog 36 #[.string s] h Q := by
  refine q_ek s h Q ?_
  unfold q_el
  refine q_ab (fun w hw => ?_)
  subst hw
  obtain ⟨m, hm⟩ := ht.maxl
  refine (Any.strings_Split splitS (by kernel_rfl) s (ByteArray.mk #[47]) m w (by omega) (hs.old_cell hm) (by decide)).mono ?_
  rintro e w' ⟨rfl, rfl⟩
  have hl : (levels s).length = countB s slash + 1 := splitB_all slash (by decide) 0 _ s rfl
  have := hq ⟨some ⟨w.heap.size, 0, none⟩, (levels s).length, (levels s).length⟩ _ (own_full (hs.push_cells (T := splitS_ren.t 9)))
  rw [hl] at this
  exact ⟨_, rfl, ⟨rfl, rfl, rfl⟩, ⟨some ⟨w.heap.size, 0, none⟩, countB s slash + 1, countB s slash + 1⟩, rfl, this⟩
theorem sized_spec (hs : sat h (old h0 :: R)) (ht : TP h0) {s : ByteArray} (hsz : s.size ≤ 9223372036854775807) {Q : Value → Heap → Prop}
    (hq : ∀ h', sat h' (old h0 :: R) → Q (.bool (sizedT s)) h') : HCalls Tryz.prog 30 #[.string s] h Q := by
  refine topic_sized_calls s h Q ?_
  unfold topic_sized
  refine q_az (Fault_spec hs ht.u8 s (by omega) fun h1 hs1 => ⟨(match faultOf s with | some n => ((n : Int), true, ()) | none => (0, false, ())), by cases faultOf s <;> rfl, ?_⟩)
  refine q_ad (fun x h' => h' = h1 ∧ x.1 = sizedT s) ?_ ?_
  · (try dsimp only); rw [HM.ite_apply]
    cases hf : faultOf s with
    | some n =>
      rw [if_neg (by simp)]
      exact ⟨rfl, by simp [sizedT, hf]⟩
    | none =>
      rw [if_pos (by rfl), HM.ite_apply]
      have he : s = ByteArray.mk #[] ↔ s.size = 0 := by
        constructor
        · rintro rfl; rfl
        · intro h0
          refine data_inj ?_
          have : s.data.toList.length = 0 := by rw [Array.length_toList]; exact h0
          rw [List.length_eq_zero_iff.1 this]
      by_cases h0 : s.size = 0
      · rw [if_neg (by simp [he.2 h0])]
        exact ⟨rfl, by simp [sizedT, h0]⟩
      rw [if_pos (by simpa using fun e => h0 (he.1 e)), HM.ite_apply]
      by_cases h1 : s.size ≤ 256
      · rw [if_pos (by simp only [decide_eq_true_eq]; omega)]
        refine q_ab (Count_spec ⟨_, rfl, ?_⟩)
        refine ⟨rfl, ?_⟩
        have e : sizedT s = decide ((levels s).length ≤ 32) := by simp [sizedT, hf, h0, h1]
        rw [e, q_ii]
        simp only [decide_eq_decide]
        omega
      · rw [if_neg (by simp only [decide_eq_true_eq]; omega)]
        exact ⟨rfl, by simp [sizedT, h1]⟩
  rintro ⟨x, ⟨⟩⟩ h2 ⟨rfl, rfl⟩
  exact hq _ hs1
def nameC (s : ByteArray) : Int := if nameOK s = true then 0 else 144
def filtC (s : ByteArray) : Int := if filterOK s = true then 0 else 143
theorem q_c0 (hs : sat h (old h0 :: R)) (ht : TP h0) {s : ByteArray} (hsz : s.size ≤ 9223372036854775807) {Q : Value → Heap → Prop}
    (hq : ∀ h', sat h' (old h0 :: R) → Q (.int .u8 (nameC s)) h') : HCalls Tryz.prog 12 #[.string s] h Q := by
  refine q_hf s h Q ?_
  unfold q_dv
  refine q_ad (fun x h' => sat h' (old h0 :: R) ∧ x.1 = !nameOK s) ?_ ?_
  · refine q_ab (sized_spec hs ht hsz fun h1 hs1 => ⟨_, rfl, ?_⟩)
    (try dsimp only); rw [HM.ite_apply]
    cases hz : sizedT s with
    | false =>
      rw [if_pos (by rfl)]
      exact ⟨hs1, by simp [nameOK, hz]⟩
    | true =>
      rw [if_neg (by simp)]
      refine q_ab (q_am (c := 43) ⟨_, rfl, ?_⟩)
      (try dsimp only); rw [HM.ite_apply]
      cases h43 : hasB 43 s with
      | true =>
        rw [if_pos rfl]
        exact ⟨hs1, by simp [nameOK, hz, h43]⟩
      | false =>
        rw [if_neg (by simp)]
        refine q_ab (q_am (c := 35) ⟨_, rfl, ?_⟩)
        exact ⟨hs1, by simp [nameOK, hz, h43]⟩
  rintro ⟨x, ⟨⟩⟩ h1 ⟨hs1, hx⟩
  simp only at hx
  subst hx
  have := hq _ hs1
  unfold nameC at this
  (try dsimp only); rw [HM.ite_apply]
  cases hn : nameOK s with
  | true => rw [hn, if_pos rfl] at this; rw [if_neg (by simp)]; exact this
  | false => rw [hn, if_neg (by simp)] at this; rw [if_pos (by rfl)]; exact this
theorem filtG_at {l : List ByteArray} {i : Nat} {x : ByteArray} (hx : l[i]? = some x) : l.drop i = x :: l.drop (i + 1) := by
  obtain ⟨hi, rfl⟩ := List.getElem?_eq_some_iff.1 hx
  exact List.drop_eq_getElem_cons hi
set_option maxRecDepth 100000 in
theorem q_gp (hs : sat h (old h0 :: R)) (ht : TP h0) {s : ByteArray} (hsz : s.size ≤ 9223372036854775807) {Q : Value → Heap → Prop}
    (hq : ∀ h', sat h' (old h0 :: R) → Q (.int .u8 (filtC s)) h') : HCalls Tryz.prog 35 #[.string s] h Q := by
  refine q_fr s h Q ?_
  unfold q_ck
  refine q_ab (sized_spec hs ht hsz fun h1 hs1 => ⟨_, rfl, ?_⟩)
  (try dsimp only); rw [HM.ite_apply]
  unfold filtC filterOK at hq
  cases hz : sizedT s with
  | false =>
    rw [hz] at hq
    rw [if_pos (by rfl)]
    exact hq _ hs1
  | true =>
  rw [hz, Bool.true_and] at hq
  rw [if_neg (by simp)]
  have hle := q_hl hz
  refine q_ab (q_eg hs1 ht hle fun sl h2 hs2 => ⟨sl, rfl, ?_⟩)
  have hlen := hs2.own_len
  have hrow := hs2.own_row q_et
  have hn : (levels s).length ≤ 32 := (q_b1.1 hz).2.2.2
  generalize levels s = l at hlen hrow hn hq
  have hs3 := hs2.drop
  clear hs2
  (try dsimp only); rw [HM.bind_apply]
  refine q_cv (γ := Nat) (fun g c h' => h' = h2 ∧ c.1 = (((l.length - g : Nat)) : Int) ∧ g ≤ l.length ∧ filtG l = filtG (l.drop (l.length - g))) (fun g => g) l.length ⟨rfl, by simp, Nat.le_refl _, by simp⟩ ?_
  rintro g ⟨c, ⟨⟩⟩ h' ⟨rfl, hc, hg, hf⟩
  simp only at hc
  subst hc
  (try dsimp only); rw [HM.ite_apply]
  by_cases hlt : l.length - g < l.length
  · rw [if_pos (by simp only [decide_eq_true_eq, hlen]; omega)]
    obtain ⟨x, hx⟩ : ∃ x, l[l.length - g]? = some x := ⟨_, List.getElem?_eq_getElem hlt⟩
    have hd := filtG_at hx
    rw [hd] at hf
    (try dsimp only); rw [HM.bind_apply]
    refine q_bi hrow hx fun a ha => ?_
    refine ⟨x, by have := ha 0 (.string x) rfl; rwa [Go.H.add_zero] at this, ?_⟩
    simp only [filtG] at hf
    have hrest : (l.drop (l.length - g + 1)).isEmpty = decide (l.length - g + 1 = l.length) := by
      by_cases he : l.length - g + 1 = l.length
      · rw [he]; simp
      · have : l.drop (l.length - g + 1) ≠ [] := by simp; omega
        cases hh : l.drop (l.length - g + 1) with
        | nil => exact absurd hh this
        | cons => simp [he]
    rw [hrest] at hf
    have hw : IntKind.wrap .i64 ((sl.len : Int) - 1) = (l.length : Int) - 1 := by rw [hlen]; exact q_al (by omega) (by omega)
    have hw2 : IntKind.wrap .i64 (((l.length - g : Nat) : Int) + 1) = ((l.length - (g - 1) : Nat) : Int) := by rw [q_al (by omega) (by omega)]; omega
    have hnext : l.length - g + 1 = l.length - (g - 1) := by omega
    rw [hnext] at hf
    rw [hw, hw2]
    by_cases h35 : hasB 35 x = true
    · rw [if_pos h35] at hf
      by_cases hlast : l.length - (g - 1) = l.length
      · by_cases h1 : x.size ≤ 1
        · rw [decide_eq_true hlast, decide_eq_true h1, Bool.true_and, Bool.true_and] at hf
          refine q_ad (fun z h'' => h'' = h' ∧ z = .inl ()) ?_ ?_
          · refine q_ad (fun z h'' => h'' = h' ∧ z = .inl ()) ?_ ?_
            · refine q_ad (fun z h'' => h'' = h' ∧ z = .inl ()) ?_ ?_
              · refine q_ab (q_am (c := 35) ⟨_, rfl, ?_⟩)
                (try dsimp only); rw [HM.ite_apply, if_pos h35]
                exact ⟨rfl, rfl⟩
              rintro z h'' ⟨rfl, rfl⟩
              simp only [Sum.elim_inl]
              (try dsimp only); rw [HM.ite_apply, if_neg (by simp only [decide_eq_true_eq]; omega)]
              exact ⟨rfl, rfl⟩
            rintro z h'' ⟨rfl, rfl⟩
            simp only [Sum.elim_inl]
            (try dsimp only); rw [HM.ite_apply, if_neg (by simp only [decide_eq_true_eq]; omega)]
            exact ⟨rfl, rfl⟩
          rintro z h'' ⟨rfl, rfl⟩
          simp only [Sum.elim_inl, Sum.elim_inr, HM.pure_apply]
          exact .mk (g - 1) (by omega) ⟨rfl, rfl, by omega, hf⟩
        · rw [decide_eq_false h1, Bool.and_false, Bool.false_and] at hf
          rw [hf, if_neg (by simp)] at hq
          refine q_ad (fun z h'' => h'' = h' ∧ z = .inr (.inr (.inr (143, ())))) ?_ ?_
          · refine q_ad (fun z h'' => h'' = h' ∧ z = .inl ()) ?_ ?_
            · refine q_ad (fun z h'' => h'' = h' ∧ z = .inl ()) ?_ ?_
              · refine q_ab (q_am (c := 35) ⟨_, rfl, ?_⟩)
                (try dsimp only); rw [HM.ite_apply, if_pos h35]
                exact ⟨rfl, rfl⟩
              rintro z h'' ⟨rfl, rfl⟩
              simp only [Sum.elim_inl]
              (try dsimp only); rw [HM.ite_apply, if_neg (by simp only [decide_eq_true_eq]; omega)]
              exact ⟨rfl, rfl⟩
            rintro z h'' ⟨rfl, rfl⟩
            simp only [Sum.elim_inl]
            (try dsimp only); rw [HM.ite_apply, if_pos (by simp only [decide_eq_true_eq]; omega)]
            exact ⟨rfl, rfl⟩
          rintro z h'' ⟨rfl, rfl⟩
          simp only [Sum.elim_inl, Sum.elim_inr, HM.pure_apply]
          exact hq _ hs3
      · rw [decide_eq_false hlast, Bool.false_and, Bool.false_and] at hf
        rw [hf, if_neg (by simp)] at hq
        refine q_ad (fun z h'' => h'' = h' ∧ z = .inr (.inr (.inr (143, ())))) ?_ ?_
        · refine q_ad (fun z h'' => h'' = h' ∧ z = .inr (.inr (.inr (.inr (143, ()))))) ?_ ?_
          · refine q_ad (fun z h'' => h'' = h' ∧ z = .inl ()) ?_ ?_
            · refine q_ab (q_am (c := 35) ⟨_, rfl, ?_⟩)
              (try dsimp only); rw [HM.ite_apply, if_pos h35]
              exact ⟨rfl, rfl⟩
            rintro z h'' ⟨rfl, rfl⟩
            simp only [Sum.elim_inl]
            (try dsimp only); rw [HM.ite_apply, if_pos (by simp only [decide_eq_true_eq]; omega)]
            exact ⟨rfl, rfl⟩
          rintro z h'' ⟨rfl, rfl⟩
          exact ⟨rfl, rfl⟩
        rintro z h'' ⟨rfl, rfl⟩
        simp only [Sum.elim_inl, Sum.elim_inr, HM.pure_apply]
        exact hq _ hs3
    · rw [if_neg h35] at hf
      by_cases h43 : hasB 43 x = true
      · by_cases h1 : x.size ≤ 1
        · rw [h43, decide_eq_true h1, Bool.or_true, Bool.true_and] at hf
          refine q_ad (fun z h'' => h'' = h' ∧ z = .inl ()) ?_ ?_
          · refine q_ad (fun z h'' => h'' = h' ∧ z = .inl ()) ?_ ?_
            · refine q_ad (fun z h'' => h'' = h' ∧ z = .inr (.inl ())) ?_ ?_
              · refine q_ab (q_am (c := 35) ⟨_, rfl, ?_⟩)
                (try dsimp only); rw [HM.ite_apply, if_neg h35]
                refine q_ab (q_am (c := 43) ⟨_, rfl, ?_⟩)
                (try dsimp only); rw [HM.ite_apply, if_pos h43]
                exact ⟨rfl, rfl⟩
              rintro z h'' ⟨rfl, rfl⟩
              exact ⟨rfl, rfl⟩
            rintro z h'' ⟨rfl, rfl⟩
            simp only [Sum.elim_inl]
            (try dsimp only); rw [HM.ite_apply, if_neg (by simp only [decide_eq_true_eq]; omega)]
            exact ⟨rfl, rfl⟩
          rintro z h'' ⟨rfl, rfl⟩
          simp only [Sum.elim_inl, Sum.elim_inr, HM.pure_apply]
          exact .mk (g - 1) (by omega) ⟨rfl, rfl, by omega, hf⟩
        · rw [h43, decide_eq_false h1, Bool.or_false, Bool.not_true, Bool.false_and] at hf
          rw [hf, if_neg (by simp)] at hq
          refine q_ad (fun z h'' => h'' = h' ∧ z = .inr (.inr (.inr (143, ())))) ?_ ?_
          · refine q_ad (fun z h'' => h'' = h' ∧ z = .inl ()) ?_ ?_
            · refine q_ad (fun z h'' => h'' = h' ∧ z = .inr (.inl ())) ?_ ?_
              · refine q_ab (q_am (c := 35) ⟨_, rfl, ?_⟩)
                (try dsimp only); rw [HM.ite_apply, if_neg h35]
                refine q_ab (q_am (c := 43) ⟨_, rfl, ?_⟩)
                (try dsimp only); rw [HM.ite_apply, if_pos h43]
                exact ⟨rfl, rfl⟩
              rintro z h'' ⟨rfl, rfl⟩
              exact ⟨rfl, rfl⟩
            rintro z h'' ⟨rfl, rfl⟩
            simp only [Sum.elim_inl]
            (try dsimp only); rw [HM.ite_apply, if_pos (by simp only [decide_eq_true_eq]; omega)]
            exact ⟨rfl, rfl⟩
          rintro z h'' ⟨rfl, rfl⟩
          simp only [Sum.elim_inl, Sum.elim_inr, HM.pure_apply]
          exact hq _ hs3
      · simp only [Bool.not_eq_true] at h43
        rw [h43, Bool.not_false, Bool.true_or, Bool.true_and] at hf
        refine q_ad (fun z h'' => h'' = h' ∧ z = .inl ()) ?_ ?_
        · refine q_ad (fun z h'' => h'' = h' ∧ z = .inr (.inl ())) ?_ ?_
          · refine q_ad (fun z h'' => h'' = h' ∧ z = .inr (.inr (.inl ()))) ?_ ?_
            · refine q_ab (q_am (c := 35) ⟨_, rfl, ?_⟩)
              (try dsimp only); rw [HM.ite_apply, if_neg h35]
              refine q_ab (q_am (c := 43) ⟨_, rfl, ?_⟩)
              (try dsimp only); rw [HM.ite_apply, if_neg (by rw [h43]; simp)]
              exact ⟨rfl, rfl⟩
            rintro z h'' ⟨rfl, rfl⟩
            exact ⟨rfl, rfl⟩
          rintro z h'' ⟨rfl, rfl⟩
          exact ⟨rfl, rfl⟩
        rintro z h'' ⟨rfl, rfl⟩
        simp only [Sum.elim_inl, Sum.elim_inr, HM.pure_apply]
        exact .mk (g - 1) (by omega) ⟨rfl, rfl, by omega, hf⟩
  · rw [if_neg (by simp only [decide_eq_true_eq, hlen]; omega)]
    simp only [Sum.elim_inl, Sum.elim_inr, HM.pure_apply]
    have : l.drop (l.length - g) = [] := by simp; omega
    rw [this] at hf
    rw [hf] at hq
    exact hq _ hs3
end Go.Proofs.YtidlldnlphdhcaaGreatDoor
namespace Go.Proofs.YtidlldnlphdhcaaGreatDoor
open Go.ChangeShapes Go.WideShapes Go.ChangeAt Go.RowKit Go.Proofs Go.Lib Go.H
set_option linter.unusedSimpArgs false
set_option linter.unusedVariables false
set_option maxRecDepth 100000
def laid17 : List (String × DataW Unit) := Rows.brokerNilRow.laid
theorem laid17_eq : laid17 = [("unicode/utf8.acceptRanges", Rows.laid_unicode_utf8_acceptRanges), ("unicode/utf8.first", Rows.laid_unicode_utf8_first)] := rfl
noncomputable def laidWorld (os : Os) : World :=
  let w0 := World.doorLaid Tryz.prog 400 os
  { w0 with heap := w0.heap.modify 1 fun
      | .cells _ t frozen => .cells ((List.range 256).map fun c => Value.int .u8 (firstT c)).toArray t frozen
      | o => o }
theorem laid_met (os : Os) (args : Array Value) : laidMetH Tryz.prog laid17 ((laidWorld os).forCall (fun _ _ => 0) ⟨#[], args, []⟩).memory :=
  laidMetH_of_parts3 (fuel := 8) (laidMet_of_run' 8 (by kernel_rfl) (by kernel_rfl)) (by kernel_rfl) (by kernel_rfl)
theorem u8_extra : U8Extra Tryz.prog u8_ren where
  n3 := by kernel_rfl
  n4 := by kernel_rfl
  y3 := by kernel_rfl
  y4 := by kernel_rfl
  c5 := by kernel_rfl
  c119 := by kernel_rfl
  c138 := by kernel_rfl
theorem accept_eq : (Rows.laid_unicode_utf8_acceptRanges : DataW Unit) = acceptData := by kernel_rfl
theorem first_eq : (Rows.laid_unicode_utf8_first : DataW Unit) = firstData := Pinned.utf8First_eq
theorem u8_of_laid {W : World} (h : laidMetH Tryz.prog laid17 W) : U8 W.heap := by
  rw [MakeChecks.laidMetH_plain _ _ _ (by kernel_rfl)] at h
  have h4 := laidMet.reads h (n := "unicode/utf8.acceptRanges") (d := Rows.laid_unicode_utf8_acceptRanges) (by rw [laid17_eq]; exact List.mem_cons_self ..)
  have h3 := laidMet.reads h (n := "unicode/utf8.first") (d := Rows.laid_unicode_utf8_first) (by rw [laid17_eq]; exact List.mem_cons_of_mem _ (List.mem_cons_self ..))
  rw [accept_eq] at h4
  rw [first_eq] at h3
  have ht := utf8Tabs_of_readsT (L := { u8 with }) u8_extra h3 h4
  exact ⟨fun c hc => ht.1 c hc, fun i hi => ht.2 i hi⟩
theorem tp_of_laid {W : World} (h : laidMetH Tryz.prog laid17 W) (hsh : W.ShapedOpen Tryz.prog) : TP W.heap :=
  ⟨u8_of_laid h, cell_of_shapedOpen_int (t := 3) (zero := #[.int .i64 0]) hsh (of_decide_eq_true (by kernel_rfl)) (by kernel_rfl) rfl (by kernel_rfl) (by kernel_rfl) Tryz.underlying3⟩
section
variable {H : Type} {ec : TypeId × Value → H} {w : World} {base : Nat} {sp : Nat → Bool} {held : Bool} {ok : TypeId → DataW H → Prop} {top : Nat} {wt : TypeId → Nat}
end
end Go.Proofs.YtidlldnlphdhcaaGreatDoor
namespace Go.H
set_option linter.unusedSimpArgs false
set_option linter.unusedVariables false
section
variable {α β γ σ τ : Type} {h : Heap} {s : σ}
theorem cut {m : HM α} {f : α → HM β} {Q : β → Heap → Prop} (P : α → Heap → Prop) (h1 : ∀ K : α → Heap → Prop, (∀ a h', P a h' → K a h') → m h K) (h2 : ∀ a h', P a h' → f a h' Q) : (HM.bind m f) h Q := h1 _ h2
theorem star_pr_intro {p : Prop} {R : List Asn} {m : PH} (hp : p) (h : stars R m) : stars (pr p :: R) m := by
  refine ⟨fun _ => none, m, fun k => .inl rfl, ?_, hp, h⟩
  funext k; rfl
theorem loop_k {body : σ → HM (σ ⊕ τ)} {Q : τ → Heap → Prop} (J : γ → σ → Heap → Prop) (μ : γ → Nat) (g : γ) (h0 : J g s h)
    (hr : ∀ g s h, J g s h → ∀ K : σ ⊕ τ → Heap → Prop, (∀ g' s' h', μ g' < μ g → J g' s' h' → K (.inl s') h') → (∀ t h', Q t h' → K (.inr t) h') → body s h K) : HM.loop body s h Q := by
  classical
  have hex : ∀ (s : σ) (h : Heap), (∃ g, J g s h) → ∃ n, ∃ g, J g s h ∧ μ g = n := fun s h ⟨g, hg⟩ => ⟨μ g, g, hg, rfl⟩
  have key : ∀ (n : Nat) (s : σ) (h : Heap), (∃ g, J g s h ∧ μ g = n) → ∃ m, (∃ g, J g s h ∧ μ g = m) ∧ ∀ g, J g s h → m ≤ μ g := by
    intro n
    induction n using Nat.strongRecOn with
    | _ n ih =>
      intro s h hn
      by_cases hl : ∃ g, J g s h ∧ μ g < n
      · obtain ⟨g, hg, hlt⟩ := hl
        exact ih _ hlt s h ⟨g, hg, rfl⟩
      · exact ⟨n, hn, fun g hg => by
          rcases Nat.lt_or_ge (μ g) n with h1 | h1
          · exact absurd ⟨g, hg, h1⟩ hl
          · exact h1⟩
  refine ⟨fun s h => ∃ g, J g s h, fun s h => if hh : ∃ m, (∃ g, J g s h ∧ μ g = m) ∧ ∀ g, J g s h → m ≤ μ g then Classical.choose hh else 0, ⟨g, h0⟩, ?_⟩
  intro s h hi
  obtain ⟨n, hn⟩ := hex s h hi
  have hm := key n s h hn
  obtain ⟨⟨g, hg, hgm⟩, hmin⟩ := Classical.choose_spec hm
  refine hr g s h hg _ (fun g' s' h' hlt hJ => ?_) (fun t h' hq => hq)
  refine ⟨⟨g', hJ⟩, ?_⟩
  have hm' := key (μ g') s' h' ⟨g', hJ, rfl⟩
  have h2 := (Classical.choose_spec hm').2 g' hJ
  simp only [dif_pos hm', dif_pos hm]
  omega
theorem loop_for {c : σ → Bool} {B E : σ → HM (σ ⊕ τ)} {Q : τ → Heap → Prop} (n : Nat) (J : Nat → σ → Heap → Prop) (h0 : J 0 s h) (hc : ∀ i s h, i ≤ n → J i s h → c s = decide (i < n))
    (hE : ∀ s h, J n s h → ∀ K : σ ⊕ τ → Heap → Prop, (∀ t h', Q t h' → K (.inr t) h') → E s h K)
    (hB : ∀ i s h, i < n → J i s h → ∀ K : σ ⊕ τ → Heap → Prop, (∀ s' h', J (i + 1) s' h' → K (.inl s') h') → (∀ t h', Q t h' → K (.inr t) h') → B s h K) :
    HM.loop (fun s => HM.ite (c s) (B s) (E s)) s h Q := by
  refine loop_k (fun i s h => i ≤ n ∧ J i s h) (fun i => n - i) 0 ⟨Nat.zero_le _, h0⟩ ?_
  rintro i s h ⟨hi, hJ⟩ K h1 h2
  rw [HM.ite_apply, hc i s h hi hJ]
  by_cases hlt : i < n
  · rw [if_pos (by simpa using hlt)]
    exact hB i s h hlt hJ K (fun s' h' hJ' => h1 (i + 1) s' h' (by omega) ⟨hlt, hJ'⟩) h2
  · have : i = n := by omega
    subst this
    rw [if_neg (by simp)]
    exact hE s h hJ K h2
variable {KT V : Type} {ek : KT → Value} {ev : V → Value} {m it : Nat} {l : List (KT × V)}
theorem loop_map {N : σ → HM (σ ⊕ τ)} {S : σ → Value × Value → HM (σ ⊕ τ)} {Q : τ → Heap → Prop} (J : List (KT × V) → σ → List Asn) (h0 : sat h (itA ek ev m l it [] l :: J [] s))
    (hN : ∀ done s h, done.Perm l → sat h (mapA ek ev m l :: J done s) → ∀ K : σ ⊕ τ → Heap → Prop, (∀ t h', Q t h' → K (.inr t) h') → N s h K)
    (hS : ∀ done p rest s h, (done ++ p :: rest).Perm l → sat h (itA ek ev m l it (done ++ [p]) rest :: J done s) → ∀ K : σ ⊕ τ → Heap → Prop,
      (∀ s' h', sat h' (itA ek ev m l it (done ++ [p]) rest :: J (done ++ [p]) s') → K (.inl s') h') → (∀ t h', Q t h' → K (.inr t) h') → S s (ek p.1, ev p.2) h K) :
    HM.loop (fun s => HM.bind (HM.nextM it) fun o => HM.opt o (N s) (S s)) s h Q := by
  refine loop_k (γ := List (KT × V) × List (KT × V)) (fun g s h => (g.1 ++ g.2).Perm l ∧ sat h (itA ek ev m l it g.1 g.2 :: J g.1 s)) (fun g => g.2.length) ([], l) ⟨List.Perm.refl _, h0⟩ ?_
  rintro ⟨done, todo⟩ s h ⟨hp, hs⟩ K h1 h2
  simp only at hp hs
  rw [HM.bind_apply]
  refine next_map hs (fun ht => ?_) (fun p t1 t2 ht h' hs' => ?_)
  · subst ht
    rw [List.append_nil] at hp
    exact hN done s h hp (itA_map hs) K h2
  · subst ht
    have hp' : (done ++ p :: (t1 ++ t2)).Perm l := by
      refine List.Perm.trans (List.Perm.append_left done ?_) hp
      exact List.perm_middle.symm
    refine hS done p (t1 ++ t2) s h' hp' hs' K (fun s' h'' hs'' => h1 (done ++ [p], t1 ++ t2) s' h'' (by simp) ⟨?_, hs''⟩) h2
    simpa using hp'
end
end Go.H
namespace Go.H
set_option linter.unusedSimpArgs false
set_option linter.unusedVariables false
section
variable {α : Type} {enc : α → List Value} {size : Nat} {h h0 : Heap} {s : Slc} {xs : List α} {R : List Asn}
theorem flat_inv (henc : ∀ x, (enc x).length = size) : ∀ (xs : List α) (i : Nat) (v : Value), (xs.flatMap enc)[i]? = some v → ∃ q x r, xs[q]? = some x ∧ (enc x)[r]? = some v ∧ i = q * size + r
  | [], i, v, h => by simp at h
  | x :: xs, i, v, h => by
    rw [List.flatMap_cons] at h
    rcases Nat.lt_or_ge i size with hi | hi
    · rw [List.getElem?_append_left (by rw [henc]; exact hi)] at h
      exact ⟨0, x, i, rfl, h, by simp⟩
    · rw [List.getElem?_append_right (by rw [henc]; exact hi), henc] at h
      obtain ⟨q, y, r, h1, h2, h3⟩ := flat_inv henc xs _ v h
      exact ⟨q + 1, y, r, by simpa using h1, h2, by rw [Nat.succ_mul]; omega⟩
theorem add_add' (a : Addr) (m r : Nat) : (a.add m).add r = a.add (m + r) := by
  unfold Addr.add
  by_cases h1 : m = 0 <;> by_cases h2 : r = 0 <;> simp [h1, h2, Nat.add_assoc]
theorem row_reads (henc : ∀ x, (enc x).length = size) (hr : RowAt enc size h s xs) (hsz : 0 < size) : readsH h s.a (s.len * size) (xs.flatMap enc).toArray := by
  unfold readsH
  cases ha : s.a with
  | none =>
    cases xs with
    | nil => rfl
    | cons x xs =>
      obtain ⟨a, h1, _⟩ := hr.2.2 0 x rfl
      rw [ha] at h1; cases h1
  | some a =>
    refine ⟨by simp [q_at henc, hr.1], fun i v hi => ?_⟩
    obtain ⟨q, x, r, h1, h2, rfl⟩ := flat_inv henc xs i v (by simpa using hi)
    obtain ⟨a', h3, h4⟩ := hr.2.2 q x h1
    rw [ha] at h3; cases h3
    have := h4 r v h2
    rwa [add_add'] at this
theorem append_full (henc : ∀ x, (enc x).length = size) (hcell : ∀ x, ∀ v ∈ enc x, v.oneCell' = true) {elem : TypeId} {bytes n : Nat} {zero : Array Value} (hz : zero.size = size) {src : Heap → Array Value → Prop} {ys : List α} {Q : Slc → Heap → Prop}
    (hs : sat h R) (hr : RowAt enc size h s xs) (hcap : s.cap = s.len) (hn : ys.length = n) (hsrc : src h (ys.flatMap enc).toArray) (hsz : 0 < size) (hb0 : 0 < bytes) (h0 : 0 < n) (hb : (xs.length + n) * bytes ≤ 140737488355328)
    (hq : ∀ s' h', sat h' (ownS enc size s' (xs ++ ys) :: R) → Q s' h') : HM.append elem size bytes zero s n src h Q := by
  have hl := hr.1
  have hbig : xs.length + n ≤ 140737488355328 := Nat.le_trans (Nat.le_mul_of_pos_right _ hb0) hb
  constructor
  · intro hc; omega
  · intro hc
    refine ⟨by omega, growslice_fits hc (by rw [hl]; exact hb), (xs.flatMap enc).toArray, _, row_reads henc hr hsz, hsrc, fun c hcc _ => hq _ _ ?_⟩
    have ho : (xs.flatMap enc).toArray.size = s.len * size := by simp [q_at henc, hl]
    refine q_cq (o := 0) ⟨by simp, hcc, by simp [hl, hn], Nat.le_of_eq ?_, ?_⟩ hs.push_cells
    · simp only [Nat.zero_add, Array.size_append, ho, Builtin.zeroCells, Array.size_map, Array.size_range, hz, List.size_toArray, q_at henc, hn]
      rw [hl, ← Nat.add_mul, ← Nat.add_mul]
      congr 1
      omega
    · simp only [Array.toList_append, List.flatMap_append, Nat.zero_mul, List.drop_zero]
      rw [List.take_append_of_le_length (by simp only [List.length_append, q_at henc]; rw [hl, Nat.add_mul, hn]; exact Nat.le_refl _)]
      rw [List.take_of_length_le]
      simp only [List.length_append, q_at henc]
      rw [hl, Nat.add_mul, hn]
      exact Nat.le_refl _
end
end Go.H
namespace Go.H
set_option linter.unusedSimpArgs false
set_option linter.unusedVariables false
section
variable {α : Type} {enc : α → List Value} {size : Nat} {h : Heap} {s : Slc} {xs : List α} {R : List Asn}
theorem flat_set (henc : ∀ x, (enc x).length = size) {j : Nat} {v : Value} (hj : j < size) : ∀ (xs : List α) (i : Nat) (x x' : α), xs[i]? = some x → enc x' = (enc x).set j v → (xs.flatMap enc).set (i * size + j) v = (xs.set i x').flatMap enc
  | [], i, x, x', hx, _ => by simp at hx
  | y :: xs, 0, x, x', hx, he => by
    simp only [List.getElem?_cons_zero, Option.some.injEq] at hx
    subst hx
    rw [List.set_cons_zero, List.flatMap_cons, List.flatMap_cons, he, Nat.zero_mul, Nat.zero_add, List.set_append_left _ _ (by rw [henc]; exact hj)]
  | y :: xs, i + 1, x, x', hx, he => by
    rw [List.getElem?_cons_succ] at hx
    rw [List.set_cons_succ, List.flatMap_cons, List.flatMap_cons, List.set_append_right _ _ (by rw [henc, Nat.succ_mul]; omega), henc]
    rw [show (i + 1) * size + j - size = i * size + j from by rw [Nat.succ_mul]; omega, flat_set henc hj xs i x x' hx he]
theorem idx_own (henc : ∀ x, (enc x).length = size) (hs : sat h (ownS enc size s xs :: R)) {i : Nat} {x : α} (hx : xs[i]? = some x) {Q : Addr → Heap → Prop}
    (hq : ∀ p : Addr, (∀ j v, (enc x)[j]? = some v → cellH h (p.add j) = some v) →
      (∀ (j : Nat) (v : Value) (x' : α) (Q' : Unit → Heap → Prop), j < size → enc x' = (enc x).set j v → v.oneCell' = true → (∀ h', sat h' (ownS enc size s (xs.set i x') :: R) → Q' () h') → HM.store1 (p.add j) v h Q') → Q p h) :
    HM.idx s.a s.len (i : Int) size h Q := by
  have hil := (List.getElem?_eq_some_iff.1 hx).1
  rcases q_bq hs with ⟨-, -, rfl, -⟩ | ⟨b, o, cs, ho, hs1⟩
  · simp at hx
  have hrow := hs.own_row henc
  obtain ⟨a, ha, hc⟩ := hrow.2.2 i x hx
  have hao : a = ⟨b, o * size, none⟩ := by rw [ho.a] at ha; exact (Option.some.inj ha).symm
  subst hao
  refine ⟨_, ho.a, Int.natCast_nonneg _, by rw [ho.len]; omega, ?_⟩
  rw [Int.toNat_natCast]
  refine hq _ hc fun j v x' Q' hj he hv hq' => ?_
  rw [Addr.add_at, Addr.add_at]
  have hin : o * size + i * size + j < cs.size := by
    refine Nat.lt_of_lt_of_le ?_ ho.csize
    have h1 : (i + 1) * size ≤ s.cap * size := Nat.mul_le_mul_right _ (by have := ho.le; have := ho.len; omega)
    rw [Nat.succ_mul] at h1
    rw [Nat.add_mul]
    omega
  refine q_ag hs1 hin hv fun h' hs' => hq' h' (q_cq (b := b) (o := o) ⟨ho.a, ho.le, by rw [List.length_set]; exact ho.len, by rw [Array.size_setIfInBounds]; exact ho.csize, ?_⟩ hs')
  rw [Array.toList_setIfInBounds, List.drop_set, if_neg (by omega), List.take_set, ho.front, show o * size + i * size + j - o * size = i * size + j by omega]
  exact flat_set henc hj xs i x x' hx he
end
end Go.H
namespace Go.H
set_option linter.unusedSimpArgs false
set_option linter.unusedVariables false
def At (L : List Asn) (q : Heap → Prop) : Prop := ∀ h, sat h L → q h
def W {α : Type} (L : List Asn) (m : HM α) (Q : α → Heap → Prop) : Prop := ∀ h, sat h L → m h Q
def FW (P : Program) (f : FuncId) (args : Array Value) (L : List Asn) (Q : Value → Heap → Prop) : Prop := ∀ h, sat h L → HCalls P f args h Q
def Has (L : List Asn) (A : Asn) (L' : List Asn) : Prop := ∀ m, stars L m → stars (A :: L') m
def Sub (L L' : List Asn) : Prop := ∀ m, stars L m → stars L' m
class Enc {α : Type} (enc : α → List Value) (size : outParam Nat) : Prop where
  len : ∀ x, (enc x).length = size
  cell : ∀ x, ∀ v ∈ enc x, v.oneCell' = true
  pos : 0 < size
section
variable {A B C D E F : Asn} {L L1 L2 L3 L4 L5 L6 L' R : List Asn} {h : Heap}
theorem nbq {α : Type} [BEq α] [LawfulBEq α] (a : α) : (!(a == a)) = false := by simp
theorem nbd {p : Prop} [Decidable p] (hp : p) : (!(decide p)) = false := by simp [hp]
theorem has0 : Has (A :: L) A L := fun _ hs => hs
theorem hasS (hx : Has L A L') : Has (B :: L) A (B :: L') := fun _ hs => q_ah (q_a0 (fun _ h => h) hx hs)
theorem Sub.rfl : Sub L L := fun _ hs => hs
theorem Sub.nil : Sub L [] := fun _ _ => trivial
theorem Sub.drop (hr : Sub L R) : Sub (A :: L) R := fun m hs => by
  obtain ⟨a, b, hd, rfl, ha, hb⟩ := hs
  exact q_c1.up R (a.join b) b (fun k o ho => q_il hd ho) (hr b hb)
theorem Sub.cons (hx : Has L A L1) (hr : Sub L1 R) : Sub L (A :: R) := fun m hs => q_a0 (fun _ h => h) hr (hx m hs)
theorem Sub.trans (h1 : Sub L L1) (h2 : Sub L1 L2) : Sub L L2 := fun m hs => h2 m (h1 m hs)
theorem Has.s (hx : Has L A L') (hs : sat h L) : sat h (A :: L') := let ⟨m, h1, h2⟩ := hs; ⟨m, h1, hx m h2⟩
theorem Sub.s (hx : Sub L L') (hs : sat h L) : sat h L' := let ⟨m, h1, h2⟩ := hs; ⟨m, h1, hx m h2⟩
theorem Has.then (hx : Has L A L1) (hy : Has L1 B L2) : Sub L (A :: B :: L2) := fun m hs => q_a0 (fun _ h => h) hy (hx m hs)
variable {α β : Type} {m : HM α} {Q : α → Heap → Prop} {q : Heap → Prop} {p : Prop}
theorem At.sub (hq : At L' q) (hs : Sub L L' := by repeat (first | with_reducible exact Go.H.Sub.rfl | with_reducible exact Go.H.Sub.nil | refine Go.H.Sub.cons (by repeat (first | with_reducible exact Go.H.has0 | apply Go.H.hasS)) ?_ | refine Go.H.Sub.drop ?_)) : At L q := fun h h1 => hq h (hs.s h1)
theorem W.sub (hq : W L' m Q) (hs : Sub L L' := by repeat (first | with_reducible exact Go.H.Sub.rfl | with_reducible exact Go.H.Sub.nil | refine Go.H.Sub.cons (by repeat (first | with_reducible exact Go.H.has0 | apply Go.H.hasS)) ?_ | refine Go.H.Sub.drop ?_)) : W L m Q := fun h h1 => hq h (hs.s h1)
theorem W.opn {X : Type} {g : X → List Asn → List Asn} (hf : ∀ h R, sat h (A :: R) → ∃ x, sat h (g x R)) (hw : ∀ x, W (g x L') m Q) (hx : Has L A L' := by repeat (first | with_reducible exact Go.H.has0 | apply Go.H.hasS)) : W L m Q := fun h hs => by
  obtain ⟨x, h1⟩ := hf h L' (hx.s hs)
  exact hw x h h1
theorem W.opn2 {X Y : Type} {g : X → Y → List Asn → List Asn} (hf : ∀ h R, sat h (A :: R) → ∃ x y, sat h (g x y R)) (hw : ∀ x y, W (g x y L') m Q) (hx : Has L A L' := by repeat (first | with_reducible exact Go.H.has0 | apply Go.H.hasS)) : W L m Q := fun h hs => by
  obtain ⟨x, y, h1⟩ := hf h L' (hx.s hs)
  exact hw x y h h1
theorem W.opn3 {X Y Z : Type} {g : X → Y → Z → List Asn → List Asn} (hf : ∀ h R, sat h (A :: R) → ∃ x y z, sat h (g x y z R)) (hw : ∀ x y z, W (g x y z L') m Q) (hx : Has L A L' := by repeat (first | with_reducible exact Go.H.has0 | apply Go.H.hasS)) : W L m Q := fun h hs => by
  obtain ⟨x, y, z, h1⟩ := hf h L' (hx.s hs)
  exact hw x y z h h1
theorem W.opnp {X : Type} {r : X → Prop} {g : X → List Asn → List Asn} (hf : ∀ h R, sat h (A :: R) → ∃ x, r x ∧ sat h (g x R)) (hw : ∀ x, r x → W (g x L') m Q) (hx : Has L A L' := by repeat (first | with_reducible exact Go.H.has0 | apply Go.H.hasS)) : W L m Q := fun h hs => by
  obtain ⟨x, h0, h1⟩ := hf h L' (hx.s hs)
  exact hw x h0 h h1
theorem W.cv2 (hf : ∀ h R, sat h (A :: R) → sat h (B :: C :: R)) (hw : W (B :: C :: L') m Q) (hx : Has L A L' := by repeat (first | with_reducible exact Go.H.has0 | apply Go.H.hasS)) : W L m Q := fun h hs => hw h (hf h L' (hx.s hs))
theorem W.cv1 (hf : ∀ h R, sat h (A :: R) → sat h (B :: R)) (hw : W (B :: L') m Q) (hx : Has L A L' := by repeat (first | with_reducible exact Go.H.has0 | apply Go.H.hasS)) : W L m Q := fun h hs => hw h (hf h L' (hx.s hs))
theorem W.fact (hf : ∀ h R, sat h (A :: R) → p) (hw : p → W L m Q) (hx : Has L A L' := by repeat (first | with_reducible exact Go.H.has0 | apply Go.H.hasS)) : W L m Q := fun h hs => hw (hf h L' (hx.s hs)) h hs
theorem At.fact (hf : ∀ h R, sat h (A :: R) → p) (hw : p → At L q) (hx : Has L A L' := by repeat (first | with_reducible exact Go.H.has0 | apply Go.H.hasS)) : At L q := fun h hs => hw (hf h L' (hx.s hs)) h hs
theorem W.cls2 (mk : ∀ h, sat h (B :: C :: L2) → sat h (A :: L2)) (hw : W (A :: L2) m Q) (hb : Has L B L1 := by repeat (first | with_reducible exact Go.H.has0 | apply Go.H.hasS)) (hc : Has L1 C L2 := by repeat (first | with_reducible exact Go.H.has0 | apply Go.H.hasS)) : W L m Q := fun h hs => hw h (mk h ((hb.then hc).s hs))
theorem Has.then3 (hb : Has L B L1) (hc : Has L1 C L2) (hd : Has L2 D L3) : Sub L (B :: C :: D :: L3) := fun m hs => q_a0 (fun _ h => h) (hc.then hd) (hb m hs)
theorem Has.then4 (hb : Has L B L1) (hc : Has L1 C L2) (hd : Has L2 D L3) (he : Has L3 E L4) : Sub L (B :: C :: D :: E :: L4) := fun m hs => q_a0 (fun _ h => h) (hc.then3 hd he) (hb m hs)
theorem W.cls3 (mk : ∀ h, sat h (B :: C :: D :: L3) → sat h (A :: L3)) (hw : W (A :: L3) m Q) (hb : Has L B L1 := by repeat (first | with_reducible exact Go.H.has0 | apply Go.H.hasS)) (hc : Has L1 C L2 := by repeat (first | with_reducible exact Go.H.has0 | apply Go.H.hasS)) (hd : Has L2 D L3 := by repeat (first | with_reducible exact Go.H.has0 | apply Go.H.hasS)) : W L m Q := fun h hs => hw h (mk h ((hb.then3 hc hd).s hs))
variable {f : α → HM β} {Q' : β → Heap → Prop} {b : Bool} {x y : HM β}
theorem W.pure {a : α} (hq : At L (Q a)) : W L (HM.pure a) Q := hq
theorem W.bpure {a : α} (hw : W L (f a) Q') : W L (HM.bind (HM.pure a) f) Q' := hw
theorem W.bbind {γ : Type} {m : HM γ} {g : γ → HM α} (hw : W L (HM.bind m fun x => HM.bind (g x) f) Q') : W L (HM.bind (HM.bind m g) f) Q' := hw
theorem W.ite (ht : b = true → W L x Q') (hf : b = false → W L y Q') : W L (HM.ite b x y) Q' := fun h hs => by
  rw [HM.ite_apply]; cases b
  · exact hf (Eq.refl _) h hs
  · exact ht (Eq.refl _) h hs
theorem W.tt (hb : b = true) (hw : W L x Q') : W L (HM.ite b x y) Q' := by subst hb; exact hw
theorem W.ff (hb : b = false) (hw : W L y Q') : W L (HM.ite b x y) Q' := by subst hb; exact hw
theorem W.bite {u v : HM α} (ht : b = true → W L (HM.bind u f) Q') (hf : b = false → W L (HM.bind v f) Q') : W L (HM.bind (HM.ite b u v) f) Q' := fun h hs => by
  rw [HM.bind_apply, HM.ite_apply]; cases b
  · exact hf (Eq.refl _) h hs
  · exact ht (Eq.refl _) h hs
theorem W.bt {u v : HM α} (hb : b = true) (hw : W L (HM.bind u f) Q') : W L (HM.bind (HM.ite b u v) f) Q' := by subst hb; exact hw
theorem W.bf {u v : HM α} (hb : b = false) (hw : W L (HM.bind v f) Q') : W L (HM.bind (HM.ite b u v) f) Q' := by subst hb; exact hw
theorem W.req (hw : W L x Q') (hp : p) : W L (HM.req p x) Q' := fun h hs => ⟨hp, hw h hs⟩
theorem W.inl {γ δ : Type} {u : γ → HM β} {v : δ → HM β} {a : γ} (hw : W L (u a) Q') : W L (Sum.elim u v (Sum.inl a)) Q' := hw
theorem W.inr {γ δ : Type} {u : γ → HM β} {v : δ → HM β} {a : δ} (hw : W L (v a) Q') : W L (Sum.elim u v (Sum.inr a)) Q' := hw
theorem W.both (h1 : W L x Q') (h2 : W L y Q') : W L (HM.both x y) Q' := fun h hs => ⟨h1 h hs, h2 h hs⟩
theorem W.nonnil {a : Addr} {f : Addr → HM β} (hw : W L (f a) Q') : W L (HM.bind (HM.nonnil (some a)) f) Q' := fun h hs => by rw [HM.bind_apply, HM.nonnil_some]; exact hw h hs
theorem W.cut (P : α → List Asn) (h1 : ∀ K : α → Heap → Prop, (∀ a, At (P a) (K a)) → W L m K) (h2 : ∀ a, W (P a) (f a) Q') : W L (HM.bind m f) Q' := fun h hs => h1 (fun a h' => f a h' Q') (fun a h' hs' => h2 a h' hs') h hs
theorem W.cutp (p : α → Prop) (P : α → List Asn) (h1 : ∀ K : α → Heap → Prop, (∀ a, p a → At (P a) (K a)) → W L m K) (h2 : ∀ a, p a → W (P a) (f a) Q') : W L (HM.bind m f) Q' := fun h hs => h1 (fun a h' => f a h' Q') (fun a hp h' hs' => h2 a hp h' hs') h hs
theorem W.cutk (p : α → Prop) (h1 : ∀ K : α → Heap → Prop, (∀ a, p a → At L (K a)) → W L m K) (h2 : ∀ a, p a → W L (f a) Q') : W L (HM.bind m f) Q' := W.cutp p (fun _ => L) h1 h2
theorem W.cutx {X : Type} (p : X → α → Prop) (P : X → α → List Asn) (h1 : ∀ K : α → Heap → Prop, (∀ x a, p x a → At (P x a) (K a)) → W L m K) (h2 : ∀ x a, p x a → W (P x a) (f a) Q') : W L (HM.bind m f) Q' := fun h hs => h1 (fun a h' => f a h' Q') (fun x a hp h' hs' => h2 x a hp h' hs') h hs
theorem W.newc {f : Nat → HM β} {cs : Array Value} {T : TypeId} (hw : ∀ b, W (cells b cs :: L) (f b) Q') : W L (HM.bind (HM.new (.cells cs T)) f) Q' := fun h hs => q_ae hs fun b h' hs' => hw b h' hs'
theorem W.newm {K V : Type} {ek : K → Value} {ev : V → Value} {f : Nat → HM β} (hw : ∀ b, W (mapA ek ev b [] :: L) (f b) Q') : W L (HM.bind (HM.new (.map #[] 0)) f) Q' := fun h hs => new_map hs fun b h' hs' => hw b h' hs'
theorem W.load {t : Tag} {b i : Nat} {cs : Array Value} {v : t.ty} {f : t.ty → HM β} (hw : W L (f v) Q') (hx : Has L (cells b cs) L' := by repeat (first | with_reducible exact Go.H.has0 | apply Go.H.hasS)) (hv : (cs[i]?).bind t.get = some v := by rfl) : W L (HM.bind (HM.load1 t (Addr.add ⟨b, 0, none⟩ i)) f) Q' := fun h hs => by
  refine ⟨v, ?_, hw h hs⟩
  rw [q_aa, (hx.s hs).cell i]
  cases hc : cs[i]? with
  | none => rw [hc] at hv; cases hv
  | some u => rw [hc] at hv; exact congrArg some (Tag.get_val hv)
theorem W.load0 {t : Tag} {b : Nat} {cs : Array Value} {v : t.ty} {f : t.ty → HM β} (hw : W L (f v) Q') (hx : Has L (cells b cs) L' := by repeat (first | with_reducible exact Go.H.has0 | apply Go.H.hasS)) (hv : (cs[0]?).bind t.get = some v := by rfl) : W L (HM.bind (HM.load1 t ⟨b, 0, none⟩) f) Q' := by
  have := W.load (i := 0) (f := f) hw hx hv
  exact this
theorem W.loadx {t : Tag} {a : Addr} {b i : Nat} {cs : Array Value} {v : t.ty} {f : t.ty → HM β} (hw : W L (f v) Q') (ha : a = ⟨b, i, none⟩ := by rfl) (hx : Has L (cells b cs) L' := by repeat (first | with_reducible exact Go.H.has0 | apply Go.H.hasS)) (hv : (cs[i]?).bind t.get = some v := by rfl) : W L (HM.bind (HM.load1 t a) f) Q' := fun h hs => by
  subst ha
  refine ⟨v, ?_, hw h hs⟩
  rw [(hx.s hs).cell i]
  cases hc : cs[i]? with
  | none => rw [hc] at hv; cases hv
  | some u => rw [hc] at hv; exact congrArg some (Tag.get_val hv)
theorem W.loadN {ts : List Tag} {b : Nat} {cs : Array Value} {v : Tup ts} {f : Tup ts → HM β} (hw : W L (f v) Q') (hx : Has L (cells b cs) L' := by repeat (first | with_reducible exact Go.H.has0 | apply Go.H.hasS)) (hv : Tup.get ts cs.toList = some v := by rfl) : W L (HM.bind (HM.loadN ts ⟨b, 0, none⟩) f) Q' := fun h hs =>
  q_au v (hx.s hs) (Array.toList_inj.1 (Tup.get_vals ts _ v hv)) (hw h hs)
theorem W.loadNo {ts : List Tag} {b i : Nat} {cs : Array Value} {v : Tup ts} {f : Tup ts → HM β} (hw : W L (f v) Q') (hx : Has L (Go.H.cells b cs) L' := by repeat (first | with_reducible exact Go.H.has0 | apply Go.H.hasS)) (hv : Tup.get ts ((cs.toList.drop i).take ts.length) = some v := by rfl) : W L (HM.bind (HM.loadN ts (Addr.add ⟨b, 0, none⟩ i)) f) Q' := fun h hs => by
  refine ⟨v, fun j u hu => ?_, hw h hs⟩
  rw [← Tup.get_vals ts _ v hv, List.getElem?_take] at hu
  split at hu
  · rw [List.getElem?_drop] at hu
    rw [q_aa, Addr.add_at, (hx.s hs).cell]
    simpa using hu
  · cases hu
theorem W.storex {a : Addr} {b i : Nat} {cs cs' : Array Value} {v : Value} {f : Unit → HM β} (hw : W (Go.H.cells b cs' :: L') (f ()) Q') (ha : a = ⟨b, i, none⟩ := by rfl) (hx : Has L (Go.H.cells b cs) L' := by repeat (first | with_reducible exact Go.H.has0 | apply Go.H.hasS)) (hc : (if i < cs.size then cs.toList.set i v else []) = cs'.toList := by rfl) (hn : 0 < cs'.size := by exact Nat.zero_lt_succ _) (hv : v.oneCell' = true := by rfl) : W L (HM.bind (HM.store1 a v) f) Q' := fun h hs => by
  subst ha
  rw [HM.bind_apply]
  by_cases hi : i < cs.size
  · rw [if_pos hi] at hc
    refine q_ag (hx.s hs) hi hv fun h' hs' => hw h' ?_
    have : cs' = cs.setIfInBounds i v := by
      apply Array.toList_inj.1; rw [← hc, Array.toList_setIfInBounds]
    rw [this]; exact hs'
  · rw [if_neg hi] at hc
    have := congrArg List.length hc
    simp at this
    omega
theorem W.store {b i : Nat} {cs cs' : Array Value} {v : Value} {f : Unit → HM β} (hw : W (cells b cs' :: L') (f ()) Q') (hx : Has L (cells b cs) L' := by repeat (first | with_reducible exact Go.H.has0 | apply Go.H.hasS)) (hc : (if i < cs.size then cs.toList.set i v else []) = cs'.toList := by rfl) (hn : 0 < cs'.size := by exact Nat.zero_lt_succ _) (hv : v.oneCell' = true := by rfl) : W L (HM.bind (HM.store1 (Addr.add ⟨b, 0, none⟩ i) v) f) Q' := fun h hs => by
  rw [HM.bind_apply, q_aa]
  by_cases hi : i < cs.size
  · rw [if_pos hi] at hc
    refine q_ag (hx.s hs) hi hv fun h' hs' => hw h' ?_
    have : cs' = cs.setIfInBounds i v := by
      apply Array.toList_inj.1; rw [← hc, Array.toList_setIfInBounds]
    rw [this]; exact hs'
  · rw [if_neg hi] at hc
    have := congrArg List.length hc
    simp at this
    omega
theorem W.store0 {b : Nat} {cs cs' : Array Value} {v : Value} {f : Unit → HM β} (hw : W (cells b cs' :: L') (f ()) Q') (hx : Has L (cells b cs) L' := by repeat (first | with_reducible exact Go.H.has0 | apply Go.H.hasS)) (hc : (if 0 < cs.size then cs.toList.set 0 v else []) = cs'.toList := by rfl) (hn : 0 < cs'.size := by exact Nat.zero_lt_succ _) (hv : v.oneCell' = true := by rfl) : W L (HM.bind (HM.store1 ⟨b, 0, none⟩ v) f) Q' := by
  have := W.store (i := 0) hw hx hc hn hv
  exact this
theorem W.storeN {b : Nat} {cs : Array Value} {vs : List Value} {f : Unit → HM β} (hw : W (cells b vs.toArray :: L') (f ()) Q') (hx : Has L (cells b cs) L' := by repeat (first | with_reducible exact Go.H.has0 | apply Go.H.hasS)) (hl : vs.length = cs.size := by rfl) (hv : vs.all (fun v => v.oneCell') = true := by rfl) : W L (HM.bind (HM.storeN ⟨b, 0, none⟩ vs) f) Q' := fun h hs =>
  storeN_all' (hx.s hs) hl hv fun h' hs' => hw h' hs'
theorem W.cells {b : Nat} {cs : Array Value} (cs' : Array Value) (hw : W (cells b cs' :: L') m Q) (hx : Has L (Go.H.cells b cs) L' := by repeat (first | with_reducible exact Go.H.has0 | apply Go.H.hasS)) (hc : cs = cs' := by rfl) : W L m Q := by subst hc; exact W.sub hw (fun m hs => hx m hs)
def u8sOf : List Value → Option (List Int)
  | [] => some []
  | v :: vs => match Tag.get (.int .u8) v with
    | some n => match u8sOf vs with
      | some ns => some (n :: ns)
      | none => none
    | none => none
theorem u8sOf_eq : ∀ (vs : List Value) (ns : List Int), u8sOf vs = some ns → vs = ns.map (Value.int .u8)
  | [], ns, hh => by cases hh; rfl
  | v :: vs, ns, hh => by
    simp only [u8sOf] at hh
    cases h1 : Tag.get (.int .u8) v with
    | none => rw [h1] at hh; cases hh
    | some n =>
      rw [h1] at hh
      simp only at hh
      cases h2 : u8sOf vs with
      | none => rw [h2] at hh; cases hh
      | some ms =>
        rw [h2] at hh
        cases hh
        rw [List.map_cons, ← u8sOf_eq vs ms h2, Tag.get_val h1]
        rfl
theorem W.str {b n c : Nat} {cs : Array Value} {f : ByteArray → HM β} {ns : List Int} (hw : W L (f (bytesOfInts ns)) Q') (hx : Has L (Go.H.cells b cs) L' := by repeat (first | with_reducible exact Go.H.has0 | apply Go.H.hasS)) (hc : u8sOf cs.toList = some ns := by rfl) (hn : cs.size = n := by rfl) : W L (HM.bind (HM.strOf ⟨some ⟨b, 0, none⟩, n, c⟩) f) Q' := fun h hs => ⟨ns, by
    have : cs = (ns.map (Value.int .u8)).toArray := Array.toList_inj.1 (u8sOf_eq _ _ hc)
    rw [← this]; exact (hx.s hs).reads hn, hw h hs⟩
theorem W.call1 {P : Program} {k : Kind} {fn : FuncId} {args : Array Value} {f : k.ty → HM β} (hc : FW P fn args L (k.un fun x h' => f x h' Q')) : W L (HM.bind (HM.call1 P k fn args) f) Q' := hc
theorem W.callN {P : Program} {ks : List Kind} {fn : FuncId} {args : Array Value} {f : KTup ks → HM β} (hc : FW P fn args L (KTup.un ks fun x h' => f x h' Q')) : W L (HM.bind (HM.callN P ks fn args) f) Q' := hc
theorem At.un {k : Kind} {v : Value} {x : k.ty} {f : k.ty → HM β} (hw : W L (f x) Q') (hv : k.get v = some x := by rfl) : At L (k.un (fun x h' => f x h' Q') v) := fun h hs => ⟨x, Kind.get_val hv, hw h hs⟩
def unT (v : Value) : List Value := match v with | .tuple a => a.toList | _ => []
def isT (v : Value) : Bool := match v with | .tuple a => true | _ => false
theorem At.unN {ks : List Kind} {v : Value} {x : KTup ks} {f : KTup ks → HM β} (hw : W L (f x) Q') (hv : KTup.get ks (unT v) = some x := by rfl) (ht : isT v = true := by rfl) : At L (KTup.un ks (fun x h' => f x h' Q') v) := fun h hs => by
  refine ⟨x, ?_, hw h hs⟩
  cases v with
  | tuple a => exact congrArg Value.tuple (Array.toList_inj.1 (KTup.get_vals ks _ x hv))
  | _ => cases ht
section
variable {γ : Type} {enc : γ → List Value} {size : Nat} {s : Slc} {xs : List γ} {h0 : Heap}
def El (s : Slc) (size i : Nat) (a : Addr) : Prop := ∃ x, s.a = some x ∧ a = x.add (i * size)
def ElO (h0 : Heap) (l : List Value) (a : Addr) : Prop := ∀ j v, l[j]? = some v → cellH h0 (a.add j) = some v
theorem El.row (hr : RowAt enc size h0 s xs) {i : Nat} {x : γ} (hi : xs[i]? = some x) {a : Addr} (ha : El s size i a) : ElO h0 (enc x) a := by
  obtain ⟨y, h1, rfl⟩ := ha
  obtain ⟨a, h2, h3⟩ := hr.2.2 i x hi
  rw [h1] at h2
  cases h2
  exact h3
theorem W.idx {i : Nat} {e : Int} {f : Addr → HM β} (hi : i < xs.length) (hw : ∀ a, El s size i a → W L (f a) Q') (hx : Has L (ownS enc size s xs) L' := by repeat (first | with_reducible exact Go.H.has0 | apply Go.H.hasS)) (he : e = (i : Int) := by rfl) [Enc enc size] : W L (HM.bind (HM.idx s.a s.len e size) f) Q' := fun h hs => by
  have hr := (hx.s hs).own_row (Enc.len (enc := enc))
  obtain ⟨a, ha, hc⟩ := hr.2.2 i _ (List.getElem?_eq_getElem hi)
  refine ⟨a, ha, by omega, by have := hr.1; omega, ?_⟩
  subst he
  exact hw _ ⟨a, ha, by rw [Int.toNat_natCast]⟩ h hs
theorem W.idxo {i : Nat} {e : Int} {f : Addr → HM β} (hr : RowAt enc size h0 s xs) (hi : i < xs.length) (hw : ∀ a, El s size i a → W L (f a) Q') (he : e = (i : Int) := by rfl) : W L (HM.bind (HM.idx s.a s.len e size) f) Q' := fun h hs => by
  obtain ⟨a, ha, hc⟩ := hr.2.2 i _ (List.getElem?_eq_getElem hi)
  refine ⟨a, ha, by omega, by have := hr.1; omega, ?_⟩
  subst he
  exact hw _ ⟨a, ha, by rw [Int.toNat_natCast]⟩ h hs
theorem W.loade {t : Tag} {i k : Nat} {a : Addr} {x : γ} {v : t.ty} {f : t.ty → HM β} (ha : El s size i a) (hi : xs[i]? = some x) (hw : W L (f v) Q') (hx : Has L (ownS enc size s xs) L' := by repeat (first | with_reducible exact Go.H.has0 | apply Go.H.hasS)) (hv : ((enc x)[k]?).bind t.get = some v := by rfl) [Enc enc size] : W L (HM.bind (HM.load1 t (Addr.add a k)) f) Q' := fun h hs => by
  have := ha.row ((hx.s hs).own_row (Enc.len (enc := enc))) hi
  cases hc : (enc x)[k]? with
  | none => rw [hc] at hv; cases hv
  | some u =>
    rw [hc] at hv
    exact ⟨v, by rw [this k u hc]; exact congrArg some (Tag.get_val hv), hw h hs⟩
theorem W.loade0 {t : Tag} {i : Nat} {a : Addr} {x : γ} {v : t.ty} {f : t.ty → HM β} (ha : El s size i a) (hi : xs[i]? = some x) (hw : W L (f v) Q') (hx : Has L (ownS enc size s xs) L' := by repeat (first | with_reducible exact Go.H.has0 | apply Go.H.hasS)) (hv : ((enc x)[0]?).bind t.get = some v := by rfl) [Enc enc size] : W L (HM.bind (HM.load1 t a) f) Q' := by
  have := W.loade (k := 0) (f := f) ha hi hw hx hv
  rwa [add_zero] at this
theorem W.loadeN {ts : List Tag} {i : Nat} {a : Addr} {x : γ} {v : Tup ts} {f : Tup ts → HM β} (ha : El s size i a) (hi : xs[i]? = some x) (hw : W L (f v) Q') (hx : Has L (ownS enc size s xs) L' := by repeat (first | with_reducible exact Go.H.has0 | apply Go.H.hasS)) (hv : Tup.get ts (enc x) = some v := by rfl) [Enc enc size] : W L (HM.bind (HM.loadN ts a) f) Q' := fun h hs => by
  have := ha.row ((hx.s hs).own_row (Enc.len (enc := enc))) hi
  refine ⟨v, fun j u hu => ?_, hw h hs⟩
  rw [← Tup.get_vals ts _ v hv] at hu
  exact this j u hu
theorem W.loado {t : Tag} {i k : Nat} {a : Addr} {x : γ} {v : t.ty} {f : t.ty → HM β} (hr : RowAt enc size h0 s xs) (ha : El s size i a) (hi : xs[i]? = some x) (hw : W L (f v) Q') (hx : Has L (old h0) L' := by repeat (first | with_reducible exact Go.H.has0 | apply Go.H.hasS)) (hv : ((enc x)[k]?).bind t.get = some v := by rfl) : W L (HM.bind (HM.load1 t (Addr.add a k)) f) Q' := fun h hs => by
  have := ha.row hr hi
  cases hc : (enc x)[k]? with
  | none => rw [hc] at hv; cases hv
  | some u =>
    rw [hc] at hv
    exact ⟨v, by rw [(hx.s hs).old_cell (this k u hc)]; exact congrArg some (Tag.get_val hv), hw h hs⟩
theorem W.loado0 {t : Tag} {i : Nat} {a : Addr} {x : γ} {v : t.ty} {f : t.ty → HM β} (hr : RowAt enc size h0 s xs) (ha : El s size i a) (hi : xs[i]? = some x) (hw : W L (f v) Q') (hx : Has L (old h0) L' := by repeat (first | with_reducible exact Go.H.has0 | apply Go.H.hasS)) (hv : ((enc x)[0]?).bind t.get = some v := by rfl) : W L (HM.bind (HM.load1 t a) f) Q' := by
  have := W.loado (k := 0) (f := f) hr ha hi hw hx hv
  rwa [add_zero] at this
theorem W.loadoN {ts : List Tag} {i : Nat} {a : Addr} {x : γ} {v : Tup ts} {f : Tup ts → HM β} (hr : RowAt enc size h0 s xs) (ha : El s size i a) (hi : xs[i]? = some x) (hw : W L (f v) Q') (hx : Has L (old h0) L' := by repeat (first | with_reducible exact Go.H.has0 | apply Go.H.hasS)) (hv : Tup.get ts (enc x) = some v := by rfl) : W L (HM.bind (HM.loadN ts a) f) Q' := fun h hs => by
  have := ha.row hr hi
  refine ⟨v, fun j u hu => ?_, hw h hs⟩
  rw [← Tup.get_vals ts _ v hv] at hu
  exact (hx.s hs).old_cell (this j u hu)
theorem W.app1 {cs : Array Value} {T elem : TypeId} {bytes : Nat} {zero : Array Value} {f : Slc → HM β} (x : γ) (hw : ∀ s', W (ownS enc size s' (xs ++ [x]) :: L') (f s') Q') (hb : (xs.length + 1) * bytes ≤ 140737488355328) (hx : Has L (ownS enc size s xs) L' := by repeat (first | with_reducible exact Go.H.has0 | apply Go.H.hasS)) (hc : cs = (enc x).toArray := by rfl) (hz : zero.size = size := by rfl) (hb0 : 0 < bytes := by decide) [Enc enc size] :
    W L (HM.bind (HM.new (.cells cs T)) fun b => HM.bind (HM.append elem size bytes zero s 1 (srcSlc size ⟨some ⟨b, 0, none⟩, 1, 1⟩)) f) Q' := fun h hs => by
  subst hc
  exact app_new (T := T) (elem := elem) (x := x) (Enc.len (enc := enc)) (Enc.cell (enc := enc)) hz (hx.s hs) (Enc.pos enc) hb0 hb fun s' h' hs' => hw s' h' hs'
theorem W.app1b {b : Nat} {cs : Array Value} {elem : TypeId} {bytes : Nat} {zero : Array Value} {f : Slc → HM β} (x : γ) (hw : ∀ s', W (ownS enc size s' (xs ++ [x]) :: L2) (f s') Q') (hb : (xs.length + 1) * bytes ≤ 140737488355328) (hx : Has L (ownS enc size s xs) L' := by repeat (first | with_reducible exact Go.H.has0 | apply Go.H.hasS)) (hy : Has L' (Go.H.cells b cs) L2 := by repeat (first | with_reducible exact Go.H.has0 | apply Go.H.hasS)) (hc : cs = (enc x).toArray := by rfl) (hz : zero.size = size := by rfl) (hb0 : 0 < bytes := by decide) [Enc enc size] :
    W L (HM.bind (HM.append elem size bytes zero s 1 (srcSlc size ⟨some ⟨b, 0, none⟩, 1, 1⟩)) f) Q' := fun h hs => by
  subst hc
  have h1 := (hx.then hy).s hs
  rw [HM.bind_apply]
  refine q_ds (ys := [x]) (Enc.len (enc := enc)) (Enc.cell (enc := enc)) hz h1 rfl ?_ (Enc.pos enc) hb0 hb fun s' h2 hs2 => hw s' h2 (hs2.p1.drop)
  simp only [srcSlc, Nat.one_mul, List.flatMap_cons, List.flatMap_nil, List.append_nil]
  exact h1.p1.reads (by simp [Enc.len (enc := enc)])
theorem own_len' : ∀ h R, sat h (ownS enc size s xs :: R) → s.len = xs.length := fun h R hs => hs.own_len
theorem W.nils (enc : γ → List Value) (size : Nat) (hw : W (ownS enc size ⟨none, 0, 0⟩ ([] : List γ) :: L) m Q) : W L m Q := fun h hs => hw h (q_a3 hs)
theorem W.nil0 (enc : γ → List Value) (size : Nat) (xs : List γ) (hw : W (ownS enc size ⟨none, 0, 0⟩ xs :: L) m Q) (he : xs = [] := by rfl) : W L m Q := by subst he; exact W.nils enc size hw
theorem W.slo {n : Nat} {e : Int} {f : Slc → HM β} (hr : RowAt enc size h0 s xs) (hn : n ≤ xs.length) (hw : ∀ s', RowAt enc size h0 s' (xs.take n) → W L (f s') Q') (he : e = (n : Int) := by rfl) : W L (HM.bind (HM.slice s none (some e) none size) f) Q' := fun h hs => by
  subst he
  exact slice_row hr hn fun s' hr' => hw s' hr' h hs
theorem W.sls {lo hi : Nat} {ol oh : Option Int} {f : Slc → HM β} (h1 : lo ≤ hi) (h2 : hi ≤ xs.length) (hw : ∀ s', W (ownS enc size s' ((xs.take hi).drop lo) :: L') (f s') Q') (e1 : optLe ol (lo = 0) lo hi) (e2 : ∀ c, hi ≤ c → s.len = xs.length → optLe oh (hi = s.len) hi c) (hx : Has L (ownS enc size s xs) L' := by repeat (first | with_reducible exact Go.H.has0 | apply Go.H.hasS)) [Enc enc size] : W L (HM.bind (HM.slice s ol oh none size) f) Q' := fun h hs => by
  have hs1 := hx.s hs
  have := hs1.own_len
  have := hs1.own_le
  exact slice_own (mx := none) hs1 (Enc.len (enc := enc)) h1 h2 e1 (e2 _ (by omega) (by omega)) fun s' h' => hw s' h h'
end
section
variable {K V : Type} [DecidableEq K] {ek : K → Value}
theorem W.lookup {kd : SameK} {kind : Kind} {z : kind.ty} {zero : Value} {r : Nat} {l : List (K × kind.ty)} {key : Value} {f : kind.ty × Bool → HM β} (hk : KeyLaw kd ek) (k : K) (hw : W L (f ((mget l k).getD z, (mget l k).isSome)) Q') (hx : Has L (mapA ek kind.val r l) L' := by repeat (first | with_reducible exact Go.H.has0 | apply Go.H.hasS)) (he : key = ek k := by rfl) (hz : kind.get zero = some z := by rfl) : W L (HM.bind (HM.lookup kd zero kind (some r) key) f) Q' := fun h hs => by
  subst he
  exact q_ap hk (Kind.get_val hz) (hx.s hs) (hw h hs)
theorem W.mset {kd : SameK} {ev : V → Value} {r : Nat} {l : List (K × V)} {key val : Value} {f : Unit → HM β} (hk : KeyLaw kd ek) (hinj : ∀ a b, ek a = ek b → a = b) (k : K) (v : V) (hw : W (mapA ek ev r (Go.H.mset l k v) :: L') (f ()) Q') (hx : Has L (mapA ek ev r l) L' := by repeat (first | with_reducible exact Go.H.has0 | apply Go.H.hasS)) (he : key = ek k := by rfl) (hv : val = ev v := by rfl) : W L (HM.bind (HM.mapSet kd (some r) key val) f) Q' := fun h hs => by
  subst he hv
  exact q_fu hk hinj (hx.s hs) fun h' hs' => hw h' hs'
theorem W.mdel {kd : SameK} {ev : V → Value} {r : Nat} {l : List (K × V)} {key : Value} {f : Unit → HM β} (hk : KeyLaw kd ek) (k : K) (hw : W (mapA ek ev r (Go.H.mdel l k) :: L') (f ()) Q') (hx : Has L (mapA ek ev r l) L' := by repeat (first | with_reducible exact Go.H.has0 | apply Go.H.hasS)) (he : key = ek k := by rfl) : W L (HM.bind (HM.mapDel kd (some r) key) f) Q' := fun h hs => by
  subst he
  exact q_h8 hk (hx.s hs) fun h' hs' => hw h' hs'
omit [DecidableEq K] in
theorem W.mlen {ev : V → Value} {r : Nat} {l : List (K × V)} {f : Int → HM β} (hw : W L (f (l.length : Int)) Q') (hx : Has L (mapA ek ev r l) L' := by repeat (first | with_reducible exact Go.H.has0 | apply Go.H.hasS)) : W L (HM.bind (HM.mapLen (some r)) f) Q' := fun h hs => len_map (hx.s hs) (hw h hs)
end
section
variable {σ τ γ : Type} {s : σ} {body : σ → HM (σ ⊕ τ)} {f : τ → HM β}
theorem W.loop (I : γ → σ → Prop) (J : γ → σ → List Asn) (μ : γ → Nat) (g : γ) (h0 : I g s) (hL : Sub L (J g s))
    (hr : ∀ g s, I g s → ∀ K : σ ⊕ τ → Heap → Prop, (∀ g' s', μ g' < μ g → I g' s' → At (J g' s') (K (.inl s'))) → (∀ t L, W L (f t) Q' → At L (K (.inr t))) → W (J g s) (body s) K) :
    W L (HM.bind (HM.loop body s) f) Q' := fun h hs => by
  rw [HM.bind_apply]
  refine loop_k (γ := γ) (fun g s h => I g s ∧ sat h (J g s)) μ g ⟨h0, hL.s hs⟩ ?_
  rintro g s h ⟨hI, hJ⟩ K h1 h2
  exact hr g s hI K (fun g' s' hm hI' h' hs' => h1 g' s' h' hm ⟨hI', hs'⟩) (fun t L hw h' hs' => h2 t h' (hw h' hs')) h hJ
theorem W.for {c : σ → Bool} {B E : σ → HM (σ ⊕ τ)} (n : Nat) (I : Nat → σ → Prop) (J : Nat → σ → List Asn) (h0 : I 0 s) (hL : Sub L (J 0 s)) (hc : ∀ i s, i ≤ n → I i s → c s = decide (i < n))
    (hE : ∀ s, I n s → ∀ K : σ ⊕ τ → Heap → Prop, (∀ t L, W L (f t) Q' → At L (K (.inr t))) → W (J n s) (E s) K)
    (hB : ∀ i s, i < n → I i s → ∀ K : σ ⊕ τ → Heap → Prop, (∀ s', I (i + 1) s' → At (J (i + 1) s') (K (.inl s'))) → (∀ t L, W L (f t) Q' → At L (K (.inr t))) → W (J i s) (B s) K) :
    W L (HM.bind (HM.loop (fun s => HM.ite (c s) (B s) (E s)) s) f) Q' := fun h hs => by
  rw [HM.bind_apply]
  refine loop_for n (fun i s h => I i s ∧ sat h (J i s)) ⟨h0, hL.s hs⟩ (fun i s h hi hJ => hc i s hi hJ.1) (fun s h hJ K hd => ?_) (fun i s h hlt hJ K hnx hd => ?_)
  · exact hE s hJ.1 K (fun t L hw h' hs' => hd t h' (hw h' hs')) h hJ.2
  · exact hB i s hlt hJ.1 K (fun s' hI' h' hs' => hnx s' h' ⟨hI', hs'⟩) (fun t L hw h' hs' => hd t h' (hw h' hs')) h hJ.2
end
end
end Go.H
namespace Go.Proofs.YtidlldnlphdhcaaGreatDoor
set_option linter.unusedSimpArgs false
open Go.H Go.Proofs
set_option linter.unusedVariables false
set_option synthInstance.maxSize 100000
set_option synthInstance.maxHeartbeats 400000
structure PoolS where
  most : Int
  taken : Int
  used : List Int
structure PoolS.ok (s : PoolS) : Prop where
  most1 : 1 ≤ s.most
  most64 : s.most ≤ 64
  taken0 : 0 ≤ s.taken
  taken1 : s.taken ≤ 65535
  len : (s.used.length : Int) ≤ s.most
  nodup : s.used.Nodup
  range : ∀ k ∈ s.used, 1 ≤ k ∧ k ≤ 65535
def nxt (t : Int) : Int := t % 65535 + 1
inductive Reach (used : List Int) : Nat → Int → Int → Prop
  | here {t : Int} : nxt t ∉ used → Reach used 0 t (nxt t)
  | on {n : Nat} {t u : Int} : nxt t ∈ used → Reach used n (nxt t) u → Reach used (n + 1) t u
def asMap (l : List Int) : List (Int × Bool) := l.map fun k => (k, true)
theorem q_ig (l : List Int) (k : Int) : mget (asMap l) k = if k ∈ l then some true else none := by
  induction l with
  | nil => rfl
  | cons a l ih =>
    simp only [asMap, List.map_cons] at ih ⊢
    rw [q_af, ih]
    by_cases h : a = k
    · simp [h]
    · simp [h, Ne.symm h]
theorem mset_asMap (l : List Int) (k : Int) (h : k ∉ l) : mset (asMap l) k true = asMap (l ++ [k]) := by
  rw [q_d0 _ _ _ (by rw [q_ig, if_neg h])]
  simp [asMap]
theorem mdel_asMap (l : List Int) (k : Int) : mdel (asMap l) k = asMap (l.erase k) := by
  induction l with
  | nil => rfl
  | cons a l ih =>
    simp only [asMap, List.map_cons, mdel] at ih ⊢
    by_cases h : a = k
    · simp [h]
    · rw [if_neg h, ih, List.erase_cons_tail (by simpa using h)]
      simp
def poolA (b : Nat) (s : PoolS) : Asn := exA fun m => star (pr s.ok) (star (cells b #[.int .i64 s.most, .int .i64 s.taken, .map (some m)]) (mapA (fun n : Int => .int .i64 n) (Kind.val (.one .bool)) m (asMap s.used)))
theorem q_a9 {h : Heap} {b : Nat} {s : PoolS} {R : List Asn} : sat h (poolA b s :: R) ↔
    ∃ m, s.ok ∧ sat h (cells b #[.int .i64 s.most, .int .i64 s.taken, .map (some m)] :: mapA (fun n : Int => .int .i64 n) (Kind.val (.one .bool)) m (asMap s.used) :: R) := by
  unfold poolA
  rw [sat.ex_iff]
  constructor
  · rintro ⟨m, hs⟩
    rw [sat.star_iff, sat.pr_iff, sat.star_iff] at hs
    exact ⟨m, hs⟩
  · rintro ⟨m, h1, hs⟩
    exact ⟨m, by rw [sat.star_iff, sat.pr_iff, sat.star_iff]; exact ⟨h1, hs⟩⟩
abbrev kI := key_int .i64
abbrev at0 (b : Nat) : Value := .pointer (some ⟨b, 0, none⟩)
theorem New_spec {h : Heap} {R : List Asn} (hs : sat h R) (most : Int) {Q : Value → Heap → Prop}
    (hq : ∀ b h', sat h' (poolA b ⟨max 1 (min most 64), 0, []⟩ :: R) → Q (at0 b) h') : HCalls Tryz.prog 167 #[.int .i64 most] h Q := by
  refine ids_New_calls most h Q ?_
  unfold ids_New
  simp only [HM.bind_apply]
  refine new_map (ek := fun n : Int => Value.int .i64 n) (ev := Kind.val (.one .bool)) hs fun m h1 hs1 => ?_
  refine q_ae hs1 fun b h2 hs2 => ?_
  simp only [HM.pure_apply]
  refine hq b h2 (q_a9.2 ⟨m, ⟨?_, ?_, ?_, ?_, ?_, ?_, ?_⟩, ?_⟩)
  all_goals try (simp; done)
  all_goals try (simp; omega)
  have e : (if 1 < (if 64 < most then (64 : Int) else most) then (if 64 < most then 64 else most) else 1) = max 1 (min most 64) := by
    split <;> split <;> omega
  rw [e] at hs2
  exact hs2
theorem Left_spec {h : Heap} {R : List Asn} {b : Nat} {s : PoolS} (hs : sat h (poolA b s :: R)) {Q : Value → Heap → Prop}
    (hq : Q (.int .i64 (s.most - s.used.length)) h) : HCalls Tryz.prog 209 #[at0 b] h Q := by
  refine ids_Pool_Left_calls _ h Q ?_
  obtain ⟨m, hok, hs⟩ := q_a9.1 hs
  have c0 : cellH h ⟨b, 0, none⟩ = some (.int .i64 s.most) := hs.cell 0
  have c2 : cellH h ⟨b, 2, none⟩ = some (.map (some m)) := hs.cell 2
  unfold q_gd
  simp [c0, c2]
  refine len_map hs.p1 ?_
  have := hok.len; have := hok.most64
  rw [q_al (by simp [asMap]; omega) (by simp [asMap]; omega)]
  simpa [asMap] using hq
theorem ok_add {s : PoolS} (h : s.ok) {k : Int} (h1 : 1 ≤ k) (h2 : k ≤ 65535) (hn : k ∉ s.used) (hl : (s.used.length : Int) < s.most) {t : Int} (t0 : 0 ≤ t) (t1 : t ≤ 65535) : PoolS.ok ⟨s.most, t, s.used ++ [k]⟩ := by
  refine ⟨h.most1, h.most64, t0, t1, by simp; omega, ?_, ?_⟩
  · rw [List.nodup_append]
    refine ⟨h.nodup, by simp, ?_⟩
    rintro a ha b hb rfl
    simp at hb
    subst hb
    exact hn ha
  · intro a ha
    simp at ha
    rcases ha with ha | rfl
    · exact h.range a ha
    · exact ⟨h1, h2⟩
theorem ok_del {s : PoolS} (h : s.ok) (k : Int) : PoolS.ok ⟨s.most, s.taken, s.used.erase k⟩ := by
  refine ⟨h.most1, h.most64, h.taken0, h.taken1, ?_, h.nodup.erase k, fun a ha => h.range a (List.mem_of_mem_erase ha)⟩
  have := List.length_erase_le (a := k) (l := s.used)
  have := h.len
  simp only
  omega
def claimCode (s : PoolS) (k : Int) : Int :=
  if k < 1 ∨ 65535 < k then 129 else if k ∈ s.used then 145 else if (s.used.length : Int) = s.most then 147 else 0
theorem Claim_spec {h : Heap} {R : List Asn} {b : Nat} {s : PoolS} {k : Int} (hs : sat h (poolA b s :: R)) {Q : Value → Heap → Prop}
    (hbad : claimCode s k ≠ 0 → Q (.int .u8 (claimCode s k)) h)
    (hok : claimCode s k = 0 → ∀ h', sat h' (poolA b ⟨s.most, s.taken, s.used ++ [k]⟩ :: R) → Q (.int .u8 0) h') : HCalls Tryz.prog 210 #[at0 b, .int .i64 k] h Q := by
  refine q_i0 _ _ h Q ?_
  obtain ⟨m, hi, hs'⟩ := q_a9.1 hs
  have c0 : cellH h ⟨b, 0, none⟩ = some (.int .i64 s.most) := hs'.cell 0
  have c2 : cellH h ⟨b, 2, none⟩ = some (.map (some m)) := hs'.cell 2
  unfold q_e2
  simp [c0, c2]
  by_cases h1 : k < 1
  · simp [h1]; simpa [claimCode, h1] using hbad
  by_cases h2 : 65535 < k
  · simp [h1, h2]; simpa [claimCode, h2] using hbad
  simp [h1, h2]
  refine q_ap kI (kind := .one .bool) (z := false) rfl hs'.p1 ?_
  rw [q_ig]
  by_cases h3 : k ∈ s.used
  · simp [h3]
    have : claimCode s k = 145 := by simp [claimCode, h1, h2, h3]
    rw [this] at hbad
    exact hbad (by omega)
  simp [h3]
  refine Left_spec hs ?_
  simp
  have hl := hi.len
  by_cases h4 : (s.used.length : Int) = s.most
  · have : claimCode s k = 147 := by simp [claimCode, h1, h2, h3, h4]
    rw [this] at hbad
    simp [h4]
    exact hbad (by omega)
  have h5 : ¬ (s.most - (s.used.length : Int) = 0) := by omega
  simp [h5]
  simp [c2]
  refine q_fu kI (inj_int .i64) (ev := Kind.val (.one .bool)) (x := true) hs'.p1 fun h' hs2 => ?_
  refine hok (by simp [claimCode, h1, h2, h3, h4]) h' (q_a9.2 ⟨m, ok_add hi (by omega) (by omega) h3 (by omega) hi.taken0 hi.taken1, ?_⟩)
  rw [mset_asMap _ _ h3] at hs2
  exact hs2.p1
theorem Free_spec {h : Heap} {R : List Asn} {b : Nat} {s : PoolS} {k : Int} (hs : sat h (poolA b s :: R)) {Q : Value → Heap → Prop}
    (hq : ∀ h', sat h' (poolA b ⟨s.most, s.taken, s.used.erase k⟩ :: R) → Q (.bool (decide (k ∈ s.used))) h') : HCalls Tryz.prog 158 #[at0 b, .int .i64 k] h Q := by
  refine ids_Pool_Free_calls _ _ h Q ?_
  obtain ⟨m, hi, hs'⟩ := q_a9.1 hs
  have c0 : cellH h ⟨b, 0, none⟩ = some (.int .i64 s.most) := hs'.cell 0
  have c2 : cellH h ⟨b, 2, none⟩ = some (.map (some m)) := hs'.cell 2
  unfold q_ge
  simp [c0, c2]
  refine q_ap kI (kind := .one .bool) (z := false) rfl hs'.p1 ?_
  rw [q_ig]
  by_cases h3 : k ∈ s.used
  · simp [h3]
    simp [c2]
    refine q_h8 kI (ev := Kind.val (.one .bool)) hs'.p1 fun h' hs2 => ?_
    have := hq h' (q_a9.2 ⟨m, ok_del hi k, by rw [mdel_asMap] at hs2; exact hs2.p1⟩)
    simpa [h3] using this
  · simp [h3]
    have he : s.used.erase k = s.used := List.erase_of_not_mem h3
    have := hq h (by rw [he]; exact hs)
    simpa [h3] using this
theorem q_hw {t : Int} (h0 : 0 ≤ t) : 1 ≤ nxt t ∧ nxt t ≤ 65535 := by unfold nxt; omega
theorem Reach.range {used : List Int} {n : Nat} {t u : Int} (h : Reach used n t u) (h0 : 0 ≤ t) : 1 ≤ u ∧ u ≤ 65535 ∧ u ∉ used := by
  induction h with
  | here hn => exact ⟨(q_hw h0).1, (q_hw h0).2, hn⟩
  | on _ _ ih => exact ih (by have := (q_hw h0).1; omega)
theorem len_sub {α : Type} [DecidableEq α] : ∀ (l1 l2 : List α), l1.Nodup → (∀ x ∈ l1, x ∈ l2) → l1.length ≤ l2.length
  | [], _, _, _ => by simp
  | x :: xs, l2, hnd, hs => by
    have h1 := List.nodup_cons.1 hnd
    have h2 := len_sub xs (l2.erase x) h1.2 (fun y hy => (List.mem_erase_of_ne (fun e => h1.1 (by rw [← e]; exact hy))).2 (hs y (List.mem_cons_of_mem _ hy)))
    have h3 := List.length_erase_of_mem (hs x (List.mem_cons_self ..))
    have h4 := List.length_pos_of_mem (hs x (List.mem_cons_self ..))
    simp only [List.length_cons]
    omega
theorem reach_ex (used : List Int) (t : Int) (h0 : 0 ≤ t) (h1 : used.Nodup) (h2 : used.length < 65535) : ∃ n u, Reach used n t u := by
  have key : ∀ (j : Nat), j ≤ 65535 → ∀ t, 0 ≤ t → t ≤ 65535 → (∃ n u, Reach used n t u) ∨ ∀ i, i < j → ((t + i) % 65535 + 1) ∈ used := by
    intro j
    induction j with
    | zero => intro _ t _ _; exact .inr (fun i hi => by omega)
    | succ j ih =>
      intro hj t ht0 ht1
      by_cases hm : nxt t ∈ used
      · have hr := q_hw ht0
        rcases ih (by omega) (nxt t) (by omega) (by omega) with ⟨n, u, hu⟩ | hall
        · exact .inl ⟨n + 1, u, .on hm hu⟩
        · refine .inr fun i hi => ?_
          cases i with
          | zero => simpa [nxt] using hm
          | succ i =>
            have := hall i (by omega)
            have e : ((nxt t + (i : Int)) % 65535 + 1) = ((t + ((i + 1 : Nat) : Int)) % 65535 + 1) := by unfold nxt; omega
            rw [e] at this
            exact this
      · exact .inl ⟨0, nxt t, .here hm⟩
  have hpre : ∃ t', 0 ≤ t' ∧ t' ≤ 65535 ∧ nxt t' = nxt t ∧ True := ⟨t % 65535, by omega, by omega, by unfold nxt; omega, trivial⟩
  obtain ⟨t', a0, a1, a2, -⟩ := hpre
  have move : ∀ n u, Reach used n t' u → Reach used n t u := by
    intro n u hr
    cases hr with
    | here hn => rw [a2] at hn ⊢; exact .here hn
    | on hm hr => rw [a2] at hm hr; exact .on hm hr
  rcases key 65535 (Nat.le_refl _) t' a0 a1 with ⟨n, u, hu⟩ | hall
  · exact ⟨n, u, move n u hu⟩
  · exfalso
    have hsub : ∀ x ∈ ((List.range 65535).map fun (i : Nat) => ((t' + (i : Int)) % 65535 + 1)), x ∈ used := by
      intro x hx
      obtain ⟨i, hi, rfl⟩ := List.mem_map.1 hx
      exact hall i (List.mem_range.1 hi)
    have hnd : ((List.range 65535).map fun (i : Nat) => ((t' + (i : Int)) % 65535 + 1)).Nodup := by
      refine List.pairwise_map.2 (List.Pairwise.imp_of_mem ?_ List.pairwise_lt_range)
      intro a b ha hb hab
      have := List.mem_range.1 ha
      have := List.mem_range.1 hb
      omega
    have := len_sub _ _ hnd hsub
    simp at this
    omega
theorem Reach.det {used : List Int} {n n' : Nat} {t u u' : Int} (h : Reach used n t u) (h' : Reach used n' t u') : u = u' := by
  induction h generalizing n' with
  | here hn =>
    cases h' with
    | here _ => rfl
    | on hm _ => exact absurd hm hn
  | on hm _ ih =>
    cases h' with
    | here hn => exact absurd hm hn
    | on _ h2 => exact ih h2
theorem wrap_nxt {t : Int} (h0 : 0 ≤ t) : IntKind.wrap .i64 (Int.tmod t 65535 + 1) = nxt t := by
  have e : Int.tmod t 65535 = t % 65535 := Int.tmod_eq_emod_of_nonneg h0
  rw [e, q_al (by omega) (by omega)]
  rfl
theorem Take_spec {h : Heap} {R : List Asn} {b : Nat} {s : PoolS} (hs : sat h (poolA b s :: R)) {Q : Value → Heap → Prop}
    (hfull : (s.used.length : Int) = s.most → Q (.tuple #[.int .i64 0, .int .u8 147]) h)
    (hok : (s.used.length : Int) ≠ s.most → ∀ n u, Reach s.used n s.taken u → ∀ h', sat h' (poolA b ⟨s.most, u, s.used ++ [u]⟩ :: R) → Q (.tuple #[.int .i64 u, .int .u8 0]) h') :
    HCalls Tryz.prog 169 #[at0 b] h Q := by
  refine ids_Pool_Take_calls _ h Q ?_
  obtain ⟨m, hi, hs'⟩ := q_a9.1 hs
  unfold q_gc
  simp
  refine Left_spec hs ?_
  simp
  have hl := hi.len
  have hm64 := hi.most64
  by_cases h4 : (s.used.length : Int) = s.most
  · simp [h4]
    exact hfull h4
  have h5 : ¬ (s.most - (s.used.length : Int) = 0) := by omega
  simp [h5]
  obtain ⟨n, u, hu⟩ := reach_ex s.used s.taken hi.taken0 hi.nodup (by omega)
  have hur := hu.range hi.taken0
  refine loop_gh (γ := Nat × Int) (fun g _ h => Reach s.used g.1 g.2 u ∧ 0 ≤ g.2 ∧ g.2 ≤ 65535 ∧ sat h (cells b #[.int .i64 s.most, .int .i64 g.2, .map (some m)] :: mapA (fun n : Int => .int .i64 n) (Kind.val (.one .bool)) m (asMap s.used) :: R))
    (fun g => g.1) (n, s.taken) ⟨hu, hi.taken0, hi.taken1, hs'⟩ ?_
  · rintro ⟨n, t⟩ - h1 ⟨hr, t0, t1, hs1⟩
    have c1 : cellH h1 ⟨b, 1, none⟩ = some (.int .i64 t) := hs1.cell 1
    simp [c1]
    rw [wrap_nxt t0]
    refine q_ag hs1 (by simp) rfl fun h2 hs2 => ?_
    have d1 : cellH h2 ⟨b, 1, none⟩ = some (.int .i64 (nxt t)) := hs2.cell 1
    have d2 : cellH h2 ⟨b, 2, none⟩ = some (.map (some m)) := hs2.cell 2
    have hn := q_hw t0
    simp [d1, d2]
    refine q_ap kI (kind := .one .bool) (z := false) rfl hs2.p1 ?_
    rw [q_ig]
    cases hr with
    | here hn' =>
      simp [hn']
      simp [d2, d1]
      refine q_fu kI (inj_int .i64) (ev := Kind.val (.one .bool)) (x := true) hs2.p1 fun h3 hs3 => ?_
      rw [mset_asMap _ _ hn'] at hs3
      have e1 : cellH h3 ⟨b, 1, none⟩ = some (.int .i64 (nxt t)) := hs3.p1.cell 1
      simp [e1]
      refine hok h4 n _ hu h3 (q_a9.2 ⟨m, ok_add hi (by omega) (by omega) hn' (by omega) (by omega) (by omega), hs3.p1⟩)
    | on hm' hr' =>
      simp [hm']
      exact ⟨_, Nat.lt_succ_self _, _, hr', Int.le_trans (by omega) hn.1, hn.2, hs2⟩
end Go.Proofs.YtidlldnlphdhcaaGreatDoor
namespace Go.Proofs.YtidlldnlphdhcaaGreatDoor
open Go.H Go.Proofs
set_option linter.unusedSimpArgs false
set_option linter.unusedVariables false
set_option synthInstance.maxSize 100000
set_option synthInstance.maxHeartbeats 400000
abbrev MsT := ByteArray × ByteArray × Int × Bool × ByteArray
abbrev encM (x : MsT) : List Value := [.string x.1, .string x.2.1, .int .i64 x.2.2.1, .bool x.2.2.2.1, .string x.2.2.2.2]
abbrev FlT := Int × MsT × Bool
abbrev encF (x : FlT) : List Value := [.int .i64 x.1, .string x.2.1.1, .string x.2.1.2.1, .int .i64 x.2.1.2.2.1, .bool x.2.1.2.2.2.1, .string x.2.1.2.2.2.2, .bool x.2.2]
structure OutS where
  pool : PoolS
  most : Int
  on : Bool
  flights : List FlT
  waiting : List MsT
def outA (b : Nat) (o : OutS) : Asn := exA fun x : Nat × Slc × Slc =>
  star (cells b #[at0 x.1, .int .i64 o.most, .bool o.on, .slice x.2.1.a x.2.1.len x.2.1.cap, .slice x.2.2.a x.2.2.len x.2.2.cap])
    (star (poolA x.1 o.pool) (star (ownS encF 7 x.2.1 o.flights) (ownS encM 5 x.2.2 o.waiting)))
theorem q_ay {h : Heap} {b : Nat} {o : OutS} {R : List Asn} : sat h (outA b o :: R) ↔ ∃ (pb : Nat) (fl wt : Slc),
    sat h (cells b #[at0 pb, .int .i64 o.most, .bool o.on, .slice fl.a fl.len fl.cap, .slice wt.a wt.len wt.cap] :: poolA pb o.pool :: ownS encF 7 fl o.flights :: ownS encM 5 wt o.waiting :: R) := by
  unfold outA
  rw [sat.ex_iff]
  constructor
  · rintro ⟨⟨pb, fl, wt⟩, hs⟩
    rw [sat.star_iff] at hs
    exact ⟨pb, fl, wt, (sat.star_iff.1 (sat.star_iff.1 hs.p1).p1).re [3, 2, 0, 1]⟩
  · rintro ⟨pb, fl, wt, hs⟩
    refine ⟨(pb, fl, wt), ?_⟩
    rw [sat.star_iff]
    exact (sat.star_iff.2 ((sat.star_iff.2 (hs.re [2, 3, 0, 1])).re [2, 0, 1])).p1
theorem outNew_spec {h : Heap} {R : List Asn} (hs : sat h R) (most : Int) {Q : Value → Heap → Prop}
    (hq : ∀ b h', sat h' (outA b ⟨⟨64, 0, []⟩, max 1 (min most 64), false, [], []⟩ :: R) → Q (at0 b) h') : HCalls Tryz.prog 112 #[.int .i64 most] h Q := by
  refine outflow_New_calls most h Q ?_
  unfold outflow_New
  refine q_ab (New_spec hs 64 fun pb h1 hs1 => ⟨some ⟨pb, 0, none⟩, rfl, ?_⟩)
  have e : (if 1 < (if 64 < most then (64 : Int) else most) then (if 64 < most then 64 else most) else 1) = max 1 (min most 64) := by
    split <;> split <;> omega
  refine q_ab (q_c2 most h1 _ ⟨_, rfl, ?_⟩)
  rw [e]
  refine q_ae hs1 fun b h2 hs2 => ?_
  refine hq b h2 (q_ay.2 ⟨pb, ⟨none, 0, 0⟩, ⟨none, 0, 0⟩, ?_⟩)
  exact (q_a3 (q_a3 hs2)).p3.p3
theorem outEnd_spec {h : Heap} {R : List Asn} {b : Nat} {o : OutS} (hs : sat h (outA b o :: R)) {Q : Value → Heap → Prop}
    (hq : ∀ h', sat h' (outA b { o with on := false } :: R) → Q (.tuple #[]) h') : HCalls Tryz.prog 152 #[at0 b] h Q := by
  refine q_g1 _ h Q ?_
  obtain ⟨pb, fl, wt, hs⟩ := q_ay.1 hs
  unfold q_df
  simp
  refine q_ag hs (by simp) rfl fun h1 hs1 => ?_
  exact hq h1 (q_ay.2 ⟨pb, fl, wt, hs1⟩)
end Go.Proofs.YtidlldnlphdhcaaGreatDoor
namespace Go.Proofs.YtidlldnlphdhcaaGreatDoor
open Go.H Go.Proofs
abbrev Pk : Type := Int × Bool × Bool × Int × Int × ByteArray × ByteArray × Int × Slc × Slc × ByteArray × Bool × Int × Bool × ByteArray × ByteArray × Int × Bool × Slc × Bool × Bool × ByteArray × ByteArray × Bool × Slc × Slc × Unit
abbrev Pk_c (p : Pk) : Array Value := #[.int .i64 p.1, .bool p.2.1, .bool p.2.2.1, .int .i64 p.2.2.2.1, .int .i64 p.2.2.2.2.1, .string p.2.2.2.2.2.1, .string p.2.2.2.2.2.2.1, .int .u8 p.2.2.2.2.2.2.2.1, .slice p.2.2.2.2.2.2.2.2.1.a p.2.2.2.2.2.2.2.2.1.len p.2.2.2.2.2.2.2.2.1.cap, .slice p.2.2.2.2.2.2.2.2.2.1.a p.2.2.2.2.2.2.2.2.2.1.len p.2.2.2.2.2.2.2.2.2.1.cap, .string p.2.2.2.2.2.2.2.2.2.2.1, .bool p.2.2.2.2.2.2.2.2.2.2.2.1, .int .i64 p.2.2.2.2.2.2.2.2.2.2.2.2.1, .bool p.2.2.2.2.2.2.2.2.2.2.2.2.2.1, .string p.2.2.2.2.2.2.2.2.2.2.2.2.2.2.1, .string p.2.2.2.2.2.2.2.2.2.2.2.2.2.2.2.1, .int .i64 p.2.2.2.2.2.2.2.2.2.2.2.2.2.2.2.2.1, .bool p.2.2.2.2.2.2.2.2.2.2.2.2.2.2.2.2.2.1, .slice p.2.2.2.2.2.2.2.2.2.2.2.2.2.2.2.2.2.2.1.a p.2.2.2.2.2.2.2.2.2.2.2.2.2.2.2.2.2.2.1.len p.2.2.2.2.2.2.2.2.2.2.2.2.2.2.2.2.2.2.1.cap, .bool p.2.2.2.2.2.2.2.2.2.2.2.2.2.2.2.2.2.2.2.1, .bool p.2.2.2.2.2.2.2.2.2.2.2.2.2.2.2.2.2.2.2.2.1, .string p.2.2.2.2.2.2.2.2.2.2.2.2.2.2.2.2.2.2.2.2.2.1, .string p.2.2.2.2.2.2.2.2.2.2.2.2.2.2.2.2.2.2.2.2.2.2.1, .bool p.2.2.2.2.2.2.2.2.2.2.2.2.2.2.2.2.2.2.2.2.2.2.2.1, .slice p.2.2.2.2.2.2.2.2.2.2.2.2.2.2.2.2.2.2.2.2.2.2.2.2.1.a p.2.2.2.2.2.2.2.2.2.2.2.2.2.2.2.2.2.2.2.2.2.2.2.2.1.len p.2.2.2.2.2.2.2.2.2.2.2.2.2.2.2.2.2.2.2.2.2.2.2.2.1.cap, .slice p.2.2.2.2.2.2.2.2.2.2.2.2.2.2.2.2.2.2.2.2.2.2.2.2.2.1.a p.2.2.2.2.2.2.2.2.2.2.2.2.2.2.2.2.2.2.2.2.2.2.2.2.2.1.len p.2.2.2.2.2.2.2.2.2.2.2.2.2.2.2.2.2.2.2.2.2.2.2.2.2.1.cap]
abbrev Pk_v (p : Pk) : Value := .agg #[.int .i64 p.1, .bool p.2.1, .bool p.2.2.1, .int .i64 p.2.2.2.1, .int .i64 p.2.2.2.2.1, .string p.2.2.2.2.2.1, .string p.2.2.2.2.2.2.1, .int .u8 p.2.2.2.2.2.2.2.1, .slice p.2.2.2.2.2.2.2.2.1.a p.2.2.2.2.2.2.2.2.1.len p.2.2.2.2.2.2.2.2.1.cap, .slice p.2.2.2.2.2.2.2.2.2.1.a p.2.2.2.2.2.2.2.2.2.1.len p.2.2.2.2.2.2.2.2.2.1.cap, .string p.2.2.2.2.2.2.2.2.2.2.1, .bool p.2.2.2.2.2.2.2.2.2.2.2.1, .int .i64 p.2.2.2.2.2.2.2.2.2.2.2.2.1, .bool p.2.2.2.2.2.2.2.2.2.2.2.2.2.1, .string p.2.2.2.2.2.2.2.2.2.2.2.2.2.2.1, .string p.2.2.2.2.2.2.2.2.2.2.2.2.2.2.2.1, .int .i64 p.2.2.2.2.2.2.2.2.2.2.2.2.2.2.2.2.1, .bool p.2.2.2.2.2.2.2.2.2.2.2.2.2.2.2.2.2.1, .slice p.2.2.2.2.2.2.2.2.2.2.2.2.2.2.2.2.2.2.1.a p.2.2.2.2.2.2.2.2.2.2.2.2.2.2.2.2.2.2.1.len p.2.2.2.2.2.2.2.2.2.2.2.2.2.2.2.2.2.2.1.cap, .bool p.2.2.2.2.2.2.2.2.2.2.2.2.2.2.2.2.2.2.2.1, .bool p.2.2.2.2.2.2.2.2.2.2.2.2.2.2.2.2.2.2.2.2.1, .string p.2.2.2.2.2.2.2.2.2.2.2.2.2.2.2.2.2.2.2.2.2.1, .string p.2.2.2.2.2.2.2.2.2.2.2.2.2.2.2.2.2.2.2.2.2.2.1, .bool p.2.2.2.2.2.2.2.2.2.2.2.2.2.2.2.2.2.2.2.2.2.2.2.1, .slice p.2.2.2.2.2.2.2.2.2.2.2.2.2.2.2.2.2.2.2.2.2.2.2.2.1.a p.2.2.2.2.2.2.2.2.2.2.2.2.2.2.2.2.2.2.2.2.2.2.2.2.1.len p.2.2.2.2.2.2.2.2.2.2.2.2.2.2.2.2.2.2.2.2.2.2.2.2.1.cap, .slice p.2.2.2.2.2.2.2.2.2.2.2.2.2.2.2.2.2.2.2.2.2.2.2.2.2.1.a p.2.2.2.2.2.2.2.2.2.2.2.2.2.2.2.2.2.2.2.2.2.2.2.2.2.1.len p.2.2.2.2.2.2.2.2.2.2.2.2.2.2.2.2.2.2.2.2.2.2.2.2.2.1.cap]
abbrev Pk_z : Pk := (0, false, false, 0, 0, ByteArray.mk #[], ByteArray.mk #[], 0, ⟨none, 0, 0⟩, ⟨none, 0, 0⟩, ByteArray.mk #[], false, 0, false, ByteArray.mk #[], ByteArray.mk #[], 0, false, ⟨none, 0, 0⟩, false, false, ByteArray.mk #[], ByteArray.mk #[], false, ⟨none, 0, 0⟩, ⟨none, 0, 0⟩, ())
abbrev Pk_a (k id c : Int) : Pk := (k, false, false, 0, id, ByteArray.mk #[], ByteArray.mk #[], c, ⟨none, 0, 0⟩, ⟨none, 0, 0⟩, ByteArray.mk #[], false, 0, false, ByteArray.mk #[], ByteArray.mk #[], 0, false, ⟨none, 0, 0⟩, false, false, ByteArray.mk #[], ByteArray.mk #[], false, ⟨none, 0, 0⟩, ⟨none, 0, 0⟩, ())
end Go.Proofs.YtidlldnlphdhcaaGreatDoor
