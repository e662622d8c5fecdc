/-
  Q4: what the proof BridgePlaysProof reaches of our texts: Sh, Si, Cids, Cout, Cpk, Lflo, Cpks, Cofl, Cenc, Ku8, Cu8, Cchr, Ltop, Kcnt, Hk, Hl, Ctop, Ctpm, Crtp, Lnum, Cnum, Crul, Hbt, Lput.
-/
import Derived.Test.YtfhalebbcbgbdaaGreatDoorQ3
import Derived.Test.YtfhalebbcbgbdaaGreatDoorProg
import Derived.KernelRfl
import Derived.Shelf.Unicode.DecodeAny
import Derived.Shelf.Unicode.DecodeLastEight
import Derived.Lib.DecodeN
import Derived.Lib.Split
import Derived.Lib.SplitLaws
import Derived.Lib.IndexBytes
import Derived.Shelf.Strings.Split
import Derived.Shelf.Strings.Count
import Derived.Shelf.SlIterI.Nil
import Derived.Shelf.SortM.Plain
import Derived.Shelf.SortM.SortNone
import Derived.Shelf.SlIter.Nil
namespace Go.Proofs.YtfhalebbcbgbdaaGreatDoor
open Go.H Go.Proofs
set_option linter.unusedVariables false
set_option linter.unusedSimpArgs false
set_option maxRecDepth 100000
set_option maxHeartbeats 4000000
def packet_writer_props (p0 : Option Addr) (p1 : Int) (p2 : Slc) : HM (Unit) :=
  HM.bind (α := Nat) (HM.new (.cells #[.int .i64 p1] 25)) fun x1 =>
  HM.bind (α := ByteArray × Int × Unit) (HM.callN Tryz.prog [.one .str, .one (.int .u8)] 165 #[.slice p2.a p2.len p2.cap]) fun x2 =>
  HM.bind (α := Unit) (HM.callN Tryz.prog [] 164 #[.pointer p0, .string x2.1, .int .u8 x2.2.1]) fun x3 =>
  HM.bind (α := Bool) (HM.call1 Tryz.prog (.one .bool) 166 #[.slice p2.a p2.len p2.cap, .func (.func 167) #[] #[.pointer (some ⟨x1, 0, none⟩)]]) fun x4 =>
  HM.bind (α := Unit) (HM.ite x4 (
  HM.bind (α := Unit) (HM.callN Tryz.prog [] 84 #[.pointer p0, .int .u8 130]) fun x6 =>
  HM.pure ()) (
  HM.pure ())) fun x5 =>
  HM.pure ()
theorem packet_writer_props_den (p0 : Option Addr) (p1 : Int) (p2 : Slc) : denFn Tryz.prog [165, 164, 166, 84] 17 [0, 1, 2, 4, 14] [0, 1, 2, 4, 14] Tryz.f122.results.toList [] (bodyOf Tryz.f122) [Kind.val (.one .ptr) p0, Kind.val (.one (.int .i64)) p1, Kind.val (.one .slc) p2] = packet_writer_props p0 p1 p2 := by kernel_rfl
theorem packet_writer_props_calls (p0 : Option Addr) (p1 : Int) (p2 : Slc) (h : Heap) (Q : Value → Heap → Prop) (hh : packet_writer_props p0 p1 p2 h fun x h' => Q (.tuple #[]) h') :
    HCalls Tryz.prog 122 #[.pointer p0, .int .i64 p1, .slice p2.a p2.len p2.cap] h Q :=
  calls_of_eq Tryz.func122 (by kernel_rfl) Tryz.ntmps122 (by kernel_rfl) (CC Tryz.call165 (CC Tryz.call164 (CC Tryz.call166 (CC Tryz.call84 CN)))) orders (packet_writer_props_den p0 p1 p2) hh
def packet_writer_publish (p0 : Option Addr) (p1 : Int × Bool × Bool × Int × Int × ByteArray × ByteArray × Int × Slc × Slc × ByteArray × Bool × Int × Bool × ByteArray × ByteArray × Int × Bool × Slc × Bool × Bool × ByteArray × ByteArray × Bool × Slc × Slc × Unit) : HM (Unit) :=
  HM.bind (α := Nat) (HM.new (.cells #[.int .i64 p1.1, .bool p1.2.1, .bool p1.2.2.1, .int .i64 p1.2.2.2.1, .int .i64 p1.2.2.2.2.1, .string p1.2.2.2.2.2.1, .string p1.2.2.2.2.2.2.1, .int .u8 p1.2.2.2.2.2.2.2.1, .slice p1.2.2.2.2.2.2.2.2.1.a p1.2.2.2.2.2.2.2.2.1.len p1.2.2.2.2.2.2.2.2.1.cap, .slice p1.2.2.2.2.2.2.2.2.2.1.a p1.2.2.2.2.2.2.2.2.2.1.len p1.2.2.2.2.2.2.2.2.2.1.cap, .string p1.2.2.2.2.2.2.2.2.2.2.1, .bool p1.2.2.2.2.2.2.2.2.2.2.2.1, .int .i64 p1.2.2.2.2.2.2.2.2.2.2.2.2.1, .bool p1.2.2.2.2.2.2.2.2.2.2.2.2.2.1, .string p1.2.2.2.2.2.2.2.2.2.2.2.2.2.2.1, .string p1.2.2.2.2.2.2.2.2.2.2.2.2.2.2.2.1, .int .i64 p1.2.2.2.2.2.2.2.2.2.2.2.2.2.2.2.2.1, .bool p1.2.2.2.2.2.2.2.2.2.2.2.2.2.2.2.2.2.1, .slice p1.2.2.2.2.2.2.2.2.2.2.2.2.2.2.2.2.2.2.1.a p1.2.2.2.2.2.2.2.2.2.2.2.2.2.2.2.2.2.2.1.len p1.2.2.2.2.2.2.2.2.2.2.2.2.2.2.2.2.2.2.1.cap, .bool p1.2.2.2.2.2.2.2.2.2.2.2.2.2.2.2.2.2.2.2.1, .bool p1.2.2.2.2.2.2.2.2.2.2.2.2.2.2.2.2.2.2.2.2.1, .string p1.2.2.2.2.2.2.2.2.2.2.2.2.2.2.2.2.2.2.2.2.2.1, .string p1.2.2.2.2.2.2.2.2.2.2.2.2.2.2.2.2.2.2.2.2.2.2.1, .bool p1.2.2.2.2.2.2.2.2.2.2.2.2.2.2.2.2.2.2.2.2.2.2.2.1, .slice p1.2.2.2.2.2.2.2.2.2.2.2.2.2.2.2.2.2.2.2.2.2.2.2.2.1.a p1.2.2.2.2.2.2.2.2.2.2.2.2.2.2.2.2.2.2.2.2.2.2.2.2.1.len p1.2.2.2.2.2.2.2.2.2.2.2.2.2.2.2.2.2.2.2.2.2.2.2.2.1.cap, .slice p1.2.2.2.2.2.2.2.2.2.2.2.2.2.2.2.2.2.2.2.2.2.2.2.2.2.1.a p1.2.2.2.2.2.2.2.2.2.2.2.2.2.2.2.2.2.2.2.2.2.2.2.2.2.1.len p1.2.2.2.2.2.2.2.2.2.2.2.2.2.2.2.2.2.2.2.2.2.2.2.2.2.1.cap] 34)) fun x1 =>
  HM.bind (α := ByteArray) (HM.load1 .str (Addr.add ⟨x1, 0, none⟩ 5)) fun x2 =>
  HM.bind (α := Unit) (HM.callN Tryz.prog [] 161 #[.pointer p0, .string x2]) fun x3 =>
  HM.bind (α := Int) (HM.load1 (.int .i64) (Addr.add ⟨x1, 0, none⟩ 3)) fun x4 =>
  HM.bind (α := Unit) (HM.ite (decide (0 < (x4 : Int))) (
  HM.bind (α := Int) (HM.load1 (.int .i64) (Addr.add ⟨x1, 0, none⟩ 4)) fun x6 =>
  HM.bind (α := Unit) (HM.callN Tryz.prog [] 124 #[.pointer p0, .int .i64 x6]) fun x7 =>
  HM.pure ()) (
  HM.pure ())) fun x5 =>
  HM.bind (α := Slc) (HM.load1 .slc (Addr.add ⟨x1, 0, none⟩ 9)) fun x8 =>
  HM.bind (α := Unit) (HM.callN Tryz.prog [] 122 #[.pointer p0, .int .i64 3, .slice x8.a x8.len x8.cap]) fun x9 =>
  HM.bind (α := ByteArray) (HM.load1 .str (Addr.add ⟨x1, 0, none⟩ 6)) fun x10 =>
  HM.bind (α := Unit) (HM.callN Tryz.prog [] 164 #[.pointer p0, .string x10, .int .u8 0]) fun x11 =>
  HM.pure ()
theorem packet_writer_publish_den (p0 : Option Addr) (p1 : Int × Bool × Bool × Int × Int × ByteArray × ByteArray × Int × Slc × Slc × ByteArray × Bool × Int × Bool × ByteArray × ByteArray × Int × Bool × Slc × Bool × Bool × ByteArray × ByteArray × Bool × Slc × Slc × Unit) : denFn Tryz.prog [161, 124, 122, 164] 23 [0, 1, 3, 10] [0, 1, 3, 10] Tryz.f123.results.toList [] (bodyOf Tryz.f123) [Kind.val (.one .ptr) p0, Kind.val (.agg [.int .i64, .bool, .bool, .int .i64, .int .i64, .str, .str, .int .u8, .slc, .slc, .str, .bool, .int .i64, .bool, .str, .str, .int .i64, .bool, .slc, .bool, .bool, .str, .str, .bool, .slc, .slc]) p1] = packet_writer_publish p0 p1 := by kernel_rfl
theorem packet_writer_publish_calls (p0 : Option Addr) (p1 : Int × Bool × Bool × Int × Int × ByteArray × ByteArray × Int × Slc × Slc × ByteArray × Bool × Int × Bool × ByteArray × ByteArray × Int × Bool × Slc × Bool × Bool × ByteArray × ByteArray × Bool × Slc × Slc × Unit) (h : Heap) (Q : Value → Heap → Prop) (hh : packet_writer_publish p0 p1 h fun x h' => Q (.tuple #[]) h') :
    HCalls Tryz.prog 123 #[.pointer p0, .agg #[.int .i64 p1.1, .bool p1.2.1, .bool p1.2.2.1, .int .i64 p1.2.2.2.1, .int .i64 p1.2.2.2.2.1, .string p1.2.2.2.2.2.1, .string p1.2.2.2.2.2.2.1, .int .u8 p1.2.2.2.2.2.2.2.1, .slice p1.2.2.2.2.2.2.2.2.1.a p1.2.2.2.2.2.2.2.2.1.len p1.2.2.2.2.2.2.2.2.1.cap, .slice p1.2.2.2.2.2.2.2.2.2.1.a p1.2.2.2.2.2.2.2.2.2.1.len p1.2.2.2.2.2.2.2.2.2.1.cap, .string p1.2.2.2.2.2.2.2.2.2.2.1, .bool p1.2.2.2.2.2.2.2.2.2.2.2.1, .int .i64 p1.2.2.2.2.2.2.2.2.2.2.2.2.1, .bool p1.2.2.2.2.2.2.2.2.2.2.2.2.2.1, .string p1.2.2.2.2.2.2.2.2.2.2.2.2.2.2.1, .string p1.2.2.2.2.2.2.2.2.2.2.2.2.2.2.2.1, .int .i64 p1.2.2.2.2.2.2.2.2.2.2.2.2.2.2.2.2.1, .bool p1.2.2.2.2.2.2.2.2.2.2.2.2.2.2.2.2.2.1, .slice p1.2.2.2.2.2.2.2.2.2.2.2.2.2.2.2.2.2.2.1.a p1.2.2.2.2.2.2.2.2.2.2.2.2.2.2.2.2.2.2.1.len p1.2.2.2.2.2.2.2.2.2.2.2.2.2.2.2.2.2.2.1.cap, .bool p1.2.2.2.2.2.2.2.2.2.2.2.2.2.2.2.2.2.2.2.1, .bool p1.2.2.2.2.2.2.2.2.2.2.2.2.2.2.2.2.2.2.2.2.1, .string p1.2.2.2.2.2.2.2.2.2.2.2.2.2.2.2.2.2.2.2.2.2.1, .string p1.2.2.2.2.2.2.2.2.2.2.2.2.2.2.2.2.2.2.2.2.2.2.1, .bool p1.2.2.2.2.2.2.2.2.2.2.2.2.2.2.2.2.2.2.2.2.2.2.2.1, .slice p1.2.2.2.2.2.2.2.2.2.2.2.2.2.2.2.2.2.2.2.2.2.2.2.2.1.a p1.2.2.2.2.2.2.2.2.2.2.2.2.2.2.2.2.2.2.2.2.2.2.2.2.1.len p1.2.2.2.2.2.2.2.2.2.2.2.2.2.2.2.2.2.2.2.2.2.2.2.2.1.cap, .slice p1.2.2.2.2.2.2.2.2.2.2.2.2.2.2.2.2.2.2.2.2.2.2.2.2.2.1.a p1.2.2.2.2.2.2.2.2.2.2.2.2.2.2.2.2.2.2.2.2.2.2.2.2.2.1.len p1.2.2.2.2.2.2.2.2.2.2.2.2.2.2.2.2.2.2.2.2.2.2.2.2.2.1.cap]] h Q :=
  calls_of_eq Tryz.func123 (by kernel_rfl) Tryz.ntmps123 (by kernel_rfl) (CC Tryz.call161 (CC Tryz.call124 (CC Tryz.call122 (CC Tryz.call164 CN)))) orders (packet_writer_publish_den p0 p1) hh
def packet_writer_id (p0 : Option Addr) (p1 : Int) : HM (Unit) :=
  HM.bind (α := Bool × Unit) (HM.ite (decide (p1 < (1 : Int))) (
  HM.pure (true, ())) (
  HM.pure (decide (65535 < (p1 : Int)), ()))) fun x1 =>
  HM.ite x1.1 (
  HM.bind (α := Unit) (HM.callN Tryz.prog [] 84 #[.pointer p0, .int .u8 130]) fun x2 =>
  HM.pure ()) (
  HM.bind (α := Unit) (HM.callN Tryz.prog [] 162 #[.pointer p0, .int .i64 p1]) fun x3 =>
  HM.pure ())
theorem packet_writer_id_den (p0 : Option Addr) (p1 : Int) : denFn Tryz.prog [84, 162] 15 [0, 1, 9] [0, 1, 9] Tryz.f124.results.toList [] (bodyOf Tryz.f124) [Kind.val (.one .ptr) p0, Kind.val (.one (.int .i64)) p1] = packet_writer_id p0 p1 := by kernel_rfl
theorem packet_writer_id_calls (p0 : Option Addr) (p1 : Int) (h : Heap) (Q : Value → Heap → Prop) (hh : packet_writer_id p0 p1 h fun x h' => Q (.tuple #[]) h') :
    HCalls Tryz.prog 124 #[.pointer p0, .int .i64 p1] h Q :=
  calls_of_eq Tryz.func124 (by kernel_rfl) Tryz.ntmps124 (by kernel_rfl) (CC Tryz.call84 (CC Tryz.call162 CN)) orders (packet_writer_id_den p0 p1) hh
def varint_wide (p0 : Int) : HM (Bool × Unit) :=
  HM.bind (α := Bool × Unit) (HM.ite (p0 == 1) (
  HM.pure (true, ())) (
  HM.ite (p0 == 2) (
  HM.pure (true, ())) (
  HM.pure (p0 == 4, ())))) fun x1 =>
  HM.pure (x1.1, ())
theorem varint_wide_den (p0 : Int) : denFn Tryz.prog [] 13 [0, 2] [0] Tryz.f127.results.toList [.one .bool] (bodyOf Tryz.f127) [Kind.val (.one (.int .i64)) p0] = varint_wide p0 := by kernel_rfl
theorem varint_wide_calls (p0 : Int) (h : Heap) (Q : Value → Heap → Prop) (hh : varint_wide p0 h fun x h' => Q (.bool x.1) h') :
    HCalls Tryz.prog 127 #[.int .i64 p0] h Q :=
  calls_of_eq Tryz.func127 (by kernel_rfl) Tryz.ntmps127 (by kernel_rfl) CN orders (varint_wide_den p0) hh
def varint_Size (p0 : Int) : HM (Int × Unit) :=
  HM.bind (α := Int × Unit) (HM.bind (α := (Int × Unit) ⊕ (Int × Unit)) (HM.bind (α := (Int × Unit) ⊕ ((Int × Unit) ⊕ (Int × Unit))) (HM.bind (α := (Int × Unit) ⊕ ((Int × Unit) ⊕ ((Int × Unit) ⊕ (Int × Unit)))) (HM.bind (α := (Unit) ⊕ ((Int × Unit) ⊕ ((Int × Unit) ⊕ ((Int × Unit) ⊕ (Int × Unit))))) (HM.bind (α := (Unit) ⊕ ((Unit) ⊕ ((Int × Unit) ⊕ ((Int × Unit) ⊕ ((Int × Unit) ⊕ (Int × Unit)))))) (HM.bind (α := Bool × Unit) (HM.ite (decide (p0 < (0 : Int))) (
  HM.pure (true, ())) (
  HM.pure (decide (268435455 < (p0 : Int)), ()))) fun x7 =>
  HM.ite x7.1 (
  HM.pure (.inl ())) (
  HM.ite (decide (2097152 ≤ (p0 : Int))) (
  HM.pure (.inr (.inl ()))) (
  HM.ite (decide (16384 ≤ (p0 : Int))) (
  HM.pure (.inr (.inr (.inl (0, ()))))) (
  HM.ite (decide (128 ≤ (p0 : Int))) (
  HM.pure (.inr (.inr (.inr (.inl (0, ())))))) (
  HM.pure (.inr (.inr (.inr (.inr (.inl (0, ()))))))))))) (Sum.elim (fun x6 =>
  HM.pure (.inr (.inr (.inr (.inr (0, ())))))) HM.pure)) (Sum.elim (fun x5 =>
  HM.pure (.inl (IntKind.wrap .i64 (0 + 1), ()))) HM.pure)) (Sum.elim (fun x4 =>
  HM.pure (.inl (IntKind.wrap .i64 (x4.1 + 1), ()))) HM.pure)) (Sum.elim (fun x3 =>
  HM.pure (.inl (IntKind.wrap .i64 (x3.1 + 1), ()))) HM.pure)) (Sum.elim (fun x2 =>
  HM.pure (IntKind.wrap .i64 (x2.1 + 1), ())) HM.pure)) fun x1 =>
  HM.pure (x1.1, ())
theorem varint_Size_den (p0 : Int) : denFn Tryz.prog [] 29 [0, 2, 3, 4, 11, 14, 17] [0, 3, 4, 11, 14, 17] Tryz.f128.results.toList [.one (.int .i64)] (bodyOf Tryz.f128) [Kind.val (.one (.int .i64)) p0] = varint_Size p0 := by kernel_rfl
theorem varint_Size_calls (p0 : Int) (h : Heap) (Q : Value → Heap → Prop) (hh : varint_Size p0 h fun x h' => Q (.int .i64 x.1) h') :
    HCalls Tryz.prog 128 #[.int .i64 p0] h Q :=
  calls_of_eq Tryz.func128 (by kernel_rfl) Tryz.ntmps128 (by kernel_rfl) CN orders (varint_Size_den p0) hh
def ref05_bit (p0 : Bool) (p1 : Int) : HM (Int × Unit) :=
  HM.ite p0 (
  HM.pure (p1, ())) (
  HM.pure (0, ()))
theorem ref05_bit_den (p0 : Bool) (p1 : Int) : denFn Tryz.prog [] 7 [0, 1, 4, 5] [0, 1, 5] Tryz.f130.results.toList [.one (.int .i64)] (bodyOf Tryz.f130) [Kind.val (.one .bool) p0, Kind.val (.one (.int .i64)) p1] = ref05_bit p0 p1 := by kernel_rfl
theorem ref05_bit_calls (p0 : Bool) (p1 : Int) (h : Heap) (Q : Value → Heap → Prop) (hh : ref05_bit p0 p1 h fun x h' => Q (.int .i64 x.1) h') :
    HCalls Tryz.prog 130 #[.bool p0, .int .i64 p1] h Q :=
  calls_of_eq Tryz.func130 (by kernel_rfl) Tryz.ntmps130 (by kernel_rfl) CN orders (ref05_bit_den p0 p1) hh
def ref05_number (p0 : ByteArray × Int × Unit) (p1 : Int) (p2 : Int) : HM ((ByteArray × Int × Unit) × Unit) :=
  HM.bind (α := Nat) (HM.new (.cells #[.string p0.1, .int .i64 p0.2.1] 209)) fun x1 =>
  HM.bind (α := Nat) (HM.new (.cells #[.string (ByteArray.mk #[]), .int .i64 0] 209)) fun x2 =>
  HM.bind (α := ByteArray × Int × Unit) (HM.callN Tryz.prog [.one .str, .one (.int .i64)] 93 #[.int .i64 p1, .int .i64 p2]) fun x3 =>
  HM.bind (α := ByteArray × Int × Unit) (HM.loadN [.str, .int .i64] ⟨x1, 0, none⟩) fun x4 =>
  HM.bind (α := ByteArray × Int × Unit) (HM.call1 Tryz.prog (.agg [.str, .int .i64]) 134 #[.agg #[.string x4.1, .int .i64 x4.2.1], .string x3.1, .int .i64 x3.2.1]) fun x5 =>
  HM.bind (α := Unit) (HM.storeN ⟨x2, 0, none⟩ [.string x5.1, .int .i64 x5.2.1]) fun _ =>
  HM.bind (α := ByteArray × Int × Unit) (HM.loadN [.str, .int .i64] ⟨x2, 0, none⟩) fun x6 =>
  HM.pure ((x6.1, x6.2.1, ()), ())
theorem ref05_number_den (p0 : ByteArray × Int × Unit) (p1 : Int) (p2 : Int) : denFn Tryz.prog [93, 134] 19 [0, 1, 2, 3, 6, 7, 8] [0, 1, 2, 3, 6, 7, 8] Tryz.f131.results.toList [.agg [.str, .int .i64]] (bodyOf Tryz.f131) [Kind.val (.agg [.str, .int .i64]) p0, Kind.val (.one (.int .i64)) p1, Kind.val (.one (.int .i64)) p2] = ref05_number p0 p1 p2 := by kernel_rfl
theorem ref05_number_calls (p0 : ByteArray × Int × Unit) (p1 : Int) (p2 : Int) (h : Heap) (Q : Value → Heap → Prop) (hh : ref05_number p0 p1 p2 h fun x h' => Q (.agg #[.string x.1.1, .int .i64 x.1.2.1]) h') :
    HCalls Tryz.prog 131 #[.agg #[.string p0.1, .int .i64 p0.2.1], .int .i64 p1, .int .i64 p2] h Q :=
  calls_of_eq Tryz.func131 (by kernel_rfl) Tryz.ntmps131 (by kernel_rfl) (CC Tryz.call93 (CC Tryz.call134 CN)) orders (ref05_number_den p0 p1 p2) hh
def ref05_props (p0 : ByteArray × Int × Unit) (p1 : Int) (p2 : Slc) : HM ((ByteArray × Int × Unit) × Unit) :=
  HM.bind (α := Nat) (HM.new (.cells #[.string p0.1, .int .i64 p0.2.1] 209)) fun x1 =>
  HM.bind (α := Nat) (HM.new (.cells #[.string (ByteArray.mk #[]), .int .i64 0] 209)) fun x2 =>
  HM.bind (α := ByteArray × Int × Unit) (HM.callN Tryz.prog [.one .str, .one (.int .i64)] 173 #[.slice p2.a p2.len p2.cap]) fun x3 =>
  HM.bind (α := ByteArray × Int × Unit) (HM.loadN [.str, .int .i64] ⟨x1, 0, none⟩) fun x4 =>
  HM.bind (α := ByteArray × Int × Unit) (HM.call1 Tryz.prog (.agg [.str, .int .i64]) 134 #[.agg #[.string x4.1, .int .i64 x4.2.1], .string x3.1, .int .i64 x3.2.1]) fun x5 =>
  HM.bind (α := Unit) (HM.storeN ⟨x1, 0, none⟩ [.string x5.1, .int .i64 x5.2.1]) fun _ =>
  HM.bind (α := Bool) (HM.call1 Tryz.prog (.one .bool) 174 #[.int .i64 p1, .slice p2.a p2.len p2.cap]) fun x6 =>
  HM.bind (α := Unit) (HM.ite (!x6) (
  HM.bind (α := ByteArray × Int × Unit) (HM.loadN [.str, .int .i64] ⟨x1, 0, none⟩) fun x8 =>
  HM.bind (α := ByteArray × Int × Unit) (HM.call1 Tryz.prog (.agg [.str, .int .i64]) 134 #[.agg #[.string x8.1, .int .i64 x8.2.1], .string (ByteArray.mk #[]), .int .i64 130]) fun x9 =>
  HM.bind (α := Unit) (HM.storeN ⟨x1, 0, none⟩ [.string x9.1, .int .i64 x9.2.1]) fun _ =>
  HM.pure ()) (
  HM.pure ())) fun x7 =>
  HM.bind (α := ByteArray × Int × Unit) (HM.loadN [.str, .int .i64] ⟨x1, 0, none⟩) fun x10 =>
  HM.bind (α := Unit) (HM.storeN ⟨x2, 0, none⟩ [.string x10.1, .int .i64 x10.2.1]) fun _ =>
  HM.bind (α := ByteArray × Int × Unit) (HM.loadN [.str, .int .i64] ⟨x2, 0, none⟩) fun x11 =>
  HM.pure ((x11.1, x11.2.1, ()), ())
theorem ref05_props_den (p0 : ByteArray × Int × Unit) (p1 : Int) (p2 : Slc) : denFn Tryz.prog [173, 134, 174] 27 [0, 1, 2, 3, 6, 7, 8, 9, 23] [0, 1, 2, 3, 6, 7, 8, 9, 23] Tryz.f132.results.toList [.agg [.str, .int .i64]] (bodyOf Tryz.f132) [Kind.val (.agg [.str, .int .i64]) p0, Kind.val (.one (.int .i64)) p1, Kind.val (.one .slc) p2] = ref05_props p0 p1 p2 := by kernel_rfl
theorem ref05_props_calls (p0 : ByteArray × Int × Unit) (p1 : Int) (p2 : Slc) (h : Heap) (Q : Value → Heap → Prop) (hh : ref05_props p0 p1 p2 h fun x h' => Q (.agg #[.string x.1.1, .int .i64 x.1.2.1]) h') :
    HCalls Tryz.prog 132 #[.agg #[.string p0.1, .int .i64 p0.2.1], .int .i64 p1, .slice p2.a p2.len p2.cap] h Q :=
  calls_of_eq Tryz.func132 (by kernel_rfl) Tryz.ntmps132 (by kernel_rfl) (CC Tryz.call173 (CC Tryz.call134 (CC Tryz.call174 CN))) orders (ref05_props_den p0 p1 p2) hh
def ref05_qos (p0 : ByteArray × Int × Unit) (p1 : Int) : HM ((ByteArray × Int × Unit) × Unit) :=
  HM.bind (α := Nat) (HM.new (.cells #[.string p0.1, .int .i64 p0.2.1] 209)) fun x1 =>
  HM.bind (α := Nat) (HM.new (.cells #[.string (ByteArray.mk #[]), .int .i64 0] 209)) fun x2 =>
  HM.bind (α := Bool × Unit) (HM.ite (decide (p1 < (0 : Int))) (
  HM.pure (true, ())) (
  HM.pure (decide (2 < (p1 : Int)), ()))) fun x3 =>
  HM.ite x3.1 (
  HM.bind (α := ByteArray × Int × Unit) (HM.loadN [.str, .int .i64] ⟨x1, 0, none⟩) fun x4 =>
  HM.bind (α := ByteArray × Int × Unit) (HM.call1 Tryz.prog (.agg [.str, .int .i64]) 134 #[.agg #[.string x4.1, .int .i64 x4.2.1], .string (ByteArray.mk #[]), .int .i64 129]) fun x5 =>
  HM.bind (α := Unit) (HM.storeN ⟨x2, 0, none⟩ [.string x5.1, .int .i64 x5.2.1]) fun _ =>
  HM.bind (α := ByteArray × Int × Unit) (HM.loadN [.str, .int .i64] ⟨x2, 0, none⟩) fun x6 =>
  HM.pure ((x6.1, x6.2.1, ()), ())) (
  HM.bind (α := ByteArray × Int × Unit) (HM.loadN [.str, .int .i64] ⟨x1, 0, none⟩) fun x7 =>
  HM.bind (α := Unit) (HM.storeN ⟨x2, 0, none⟩ [.string x7.1, .int .i64 x7.2.1]) fun _ =>
  HM.bind (α := ByteArray × Int × Unit) (HM.loadN [.str, .int .i64] ⟨x2, 0, none⟩) fun x8 =>
  HM.pure ((x8.1, x8.2.1, ()), ()))
theorem ref05_qos_den (p0 : ByteArray × Int × Unit) (p1 : Int) : denFn Tryz.prog [134] 14 [0, 1, 2, 4, 10] [0, 1, 2, 4, 10] Tryz.f133.results.toList [.agg [.str, .int .i64]] (bodyOf Tryz.f133) [Kind.val (.agg [.str, .int .i64]) p0, Kind.val (.one (.int .i64)) p1] = ref05_qos p0 p1 := by kernel_rfl
theorem ref05_qos_calls (p0 : ByteArray × Int × Unit) (p1 : Int) (h : Heap) (Q : Value → Heap → Prop) (hh : ref05_qos p0 p1 h fun x h' => Q (.agg #[.string x.1.1, .int .i64 x.1.2.1]) h') :
    HCalls Tryz.prog 133 #[.agg #[.string p0.1, .int .i64 p0.2.1], .int .i64 p1] h Q :=
  calls_of_eq Tryz.func133 (by kernel_rfl) Tryz.ntmps133 (by kernel_rfl) (CC Tryz.call134 CN) orders (ref05_qos_den p0 p1) hh
def ref05_add (p0 : ByteArray × Int × Unit) (p1 : ByteArray) (p2 : Int) : HM ((ByteArray × Int × Unit) × Unit) :=
  HM.bind (α := Nat) (HM.new (.cells #[.string p0.1, .int .i64 p0.2.1] 209)) fun x1 =>
  HM.bind (α := Nat) (HM.new (.cells #[.string (ByteArray.mk #[]), .int .i64 0] 209)) fun x2 =>
  HM.bind (α := Int) (HM.load1 (.int .i64) (Addr.add ⟨x1, 0, none⟩ 1)) fun x3 =>
  HM.bind (α := Unit) (HM.ite (x3 == 0) (
  HM.bind (α := Unit) (HM.store1 (Addr.add ⟨x1, 0, none⟩ 1) (.int .i64 p2)) fun _ =>
  HM.pure ()) (
  HM.pure ())) fun x4 =>
  HM.bind (α := ByteArray) (HM.load1 .str (Addr.add ⟨x1, 0, none⟩ 0)) fun x5 =>
  HM.req (ByteArray.size x5 + ByteArray.size p1 ≤ 9223372036854775807) <|
  HM.bind (α := Unit) (HM.store1 (Addr.add ⟨x1, 0, none⟩ 0) (.string (x5 ++ p1))) fun _ =>
  HM.bind (α := ByteArray × Int × Unit) (HM.loadN [.str, .int .i64] ⟨x1, 0, none⟩) fun x6 =>
  HM.bind (α := Unit) (HM.storeN ⟨x2, 0, none⟩ [.string x6.1, .int .i64 x6.2.1]) fun _ =>
  HM.bind (α := ByteArray × Int × Unit) (HM.loadN [.str, .int .i64] ⟨x2, 0, none⟩) fun x7 =>
  HM.pure ((x7.1, x7.2.1, ()), ())
theorem ref05_add_den (p0 : ByteArray × Int × Unit) (p1 : ByteArray) (p2 : Int) : denFn Tryz.prog [] 18 [0, 1, 2, 3, 6, 9] [0, 1, 2, 3, 6, 9] Tryz.f134.results.toList [.agg [.str, .int .i64]] (bodyOf Tryz.f134) [Kind.val (.agg [.str, .int .i64]) p0, Kind.val (.one .str) p1, Kind.val (.one (.int .i64)) p2] = ref05_add p0 p1 p2 := by kernel_rfl
theorem ref05_add_calls (p0 : ByteArray × Int × Unit) (p1 : ByteArray) (p2 : Int) (h : Heap) (Q : Value → Heap → Prop) (hh : ref05_add p0 p1 p2 h fun x h' => Q (.agg #[.string x.1.1, .int .i64 x.1.2.1]) h') :
    HCalls Tryz.prog 134 #[.agg #[.string p0.1, .int .i64 p0.2.1], .string p1, .int .i64 p2] h Q :=
  calls_of_eq Tryz.func134 (by kernel_rfl) Tryz.ntmps134 (by kernel_rfl) CN orders (ref05_add_den p0 p1 p2) hh
def ref05_text (p0 : ByteArray × Int × Unit) (p1 : ByteArray) : HM ((ByteArray × Int × Unit) × Unit) :=
  HM.bind (α := Nat) (HM.new (.cells #[.string p0.1, .int .i64 p0.2.1] 209)) fun x1 =>
  HM.bind (α := Nat) (HM.new (.cells #[.string (ByteArray.mk #[]), .int .i64 0] 209)) fun x2 =>
  HM.bind (α := ByteArray × Int × Unit) (HM.callN Tryz.prog [.one .str, .one (.int .i64)] 175 #[.string p1]) fun x3 =>
  HM.bind (α := ByteArray × Int × Unit) (HM.loadN [.str, .int .i64] ⟨x1, 0, none⟩) fun x4 =>
  HM.bind (α := ByteArray × Int × Unit) (HM.call1 Tryz.prog (.agg [.str, .int .i64]) 134 #[.agg #[.string x4.1, .int .i64 x4.2.1], .string x3.1, .int .i64 x3.2.1]) fun x5 =>
  HM.bind (α := Unit) (HM.storeN ⟨x2, 0, none⟩ [.string x5.1, .int .i64 x5.2.1]) fun _ =>
  HM.bind (α := ByteArray × Int × Unit) (HM.loadN [.str, .int .i64] ⟨x2, 0, none⟩) fun x6 =>
  HM.pure ((x6.1, x6.2.1, ()), ())
theorem ref05_text_den (p0 : ByteArray × Int × Unit) (p1 : ByteArray) : denFn Tryz.prog [175, 134] 16 [0, 1, 2, 4, 5, 6] [0, 1, 2, 4, 5, 6] Tryz.f135.results.toList [.agg [.str, .int .i64]] (bodyOf Tryz.f135) [Kind.val (.agg [.str, .int .i64]) p0, Kind.val (.one .str) p1] = ref05_text p0 p1 := by kernel_rfl
theorem ref05_text_calls (p0 : ByteArray × Int × Unit) (p1 : ByteArray) (h : Heap) (Q : Value → Heap → Prop) (hh : ref05_text p0 p1 h fun x h' => Q (.agg #[.string x.1.1, .int .i64 x.1.2.1]) h') :
    HCalls Tryz.prog 135 #[.agg #[.string p0.1, .int .i64 p0.2.1], .string p1] h Q :=
  calls_of_eq Tryz.func135 (by kernel_rfl) Tryz.ntmps135 (by kernel_rfl) (CC Tryz.call175 (CC Tryz.call134 CN)) orders (ref05_text_den p0 p1) hh
def ref05_id (p0 : ByteArray × Int × Unit) (p1 : Int) : HM ((ByteArray × Int × Unit) × Unit) :=
  HM.bind (α := Nat) (HM.new (.cells #[.string p0.1, .int .i64 p0.2.1] 209)) fun x1 =>
  HM.bind (α := Nat) (HM.new (.cells #[.string (ByteArray.mk #[]), .int .i64 0] 209)) fun x2 =>
  HM.bind (α := Bool × Unit) (HM.ite (decide (p1 < (1 : Int))) (
  HM.pure (true, ())) (
  HM.pure (decide (65535 < (p1 : Int)), ()))) fun x3 =>
  HM.ite x3.1 (
  HM.bind (α := ByteArray × Int × Unit) (HM.loadN [.str, .int .i64] ⟨x1, 0, none⟩) fun x4 =>
  HM.bind (α := ByteArray × Int × Unit) (HM.call1 Tryz.prog (.agg [.str, .int .i64]) 134 #[.agg #[.string x4.1, .int .i64 x4.2.1], .string (ByteArray.mk #[]), .int .i64 130]) fun x5 =>
  HM.bind (α := Unit) (HM.storeN ⟨x2, 0, none⟩ [.string x5.1, .int .i64 x5.2.1]) fun _ =>
  HM.bind (α := ByteArray × Int × Unit) (HM.loadN [.str, .int .i64] ⟨x2, 0, none⟩) fun x6 =>
  HM.pure ((x6.1, x6.2.1, ()), ())) (
  HM.bind (α := ByteArray × Int × Unit) (HM.loadN [.str, .int .i64] ⟨x1, 0, none⟩) fun x7 =>
  HM.bind (α := ByteArray × Int × Unit) (HM.call1 Tryz.prog (.agg [.str, .int .i64]) 131 #[.agg #[.string x7.1, .int .i64 x7.2.1], .int .i64 2, .int .i64 p1]) fun x8 =>
  HM.bind (α := Unit) (HM.storeN ⟨x2, 0, none⟩ [.string x8.1, .int .i64 x8.2.1]) fun _ =>
  HM.bind (α := ByteArray × Int × Unit) (HM.loadN [.str, .int .i64] ⟨x2, 0, none⟩) fun x9 =>
  HM.pure ((x9.1, x9.2.1, ()), ()))
theorem ref05_id_den (p0 : ByteArray × Int × Unit) (p1 : Int) : denFn Tryz.prog [134, 131] 16 [0, 1, 2, 4, 10] [0, 1, 2, 4, 10] Tryz.f136.results.toList [.agg [.str, .int .i64]] (bodyOf Tryz.f136) [Kind.val (.agg [.str, .int .i64]) p0, Kind.val (.one (.int .i64)) p1] = ref05_id p0 p1 := by kernel_rfl
theorem ref05_id_calls (p0 : ByteArray × Int × Unit) (p1 : Int) (h : Heap) (Q : Value → Heap → Prop) (hh : ref05_id p0 p1 h fun x h' => Q (.agg #[.string x.1.1, .int .i64 x.1.2.1]) h') :
    HCalls Tryz.prog 136 #[.agg #[.string p0.1, .int .i64 p0.2.1], .int .i64 p1] h Q :=
  calls_of_eq Tryz.func136 (by kernel_rfl) Tryz.ntmps136 (by kernel_rfl) (CC Tryz.call134 (CC Tryz.call131 CN)) orders (ref05_id_den p0 p1) hh
def ref01_most (p0 : Int) : HM (Int × Unit) :=
  HM.ite (p0 == 1) (
  HM.pure (256, ())) (
  HM.ite (p0 == 2) (
  HM.pure (65536, ())) (
  HM.ite (p0 == 4) (
  HM.pure (4294967296, ())) (
  HM.pure (0, ()))))
theorem ref01_most_den (p0 : Int) : denFn Tryz.prog [] 10 [0, 2, 3, 4, 6, 8] [0, 3, 4, 6, 8] Tryz.f139.results.toList [.one (.int .i64)] (bodyOf Tryz.f139) [Kind.val (.one (.int .i64)) p0] = ref01_most p0 := by kernel_rfl
theorem ref01_most_calls (p0 : Int) (h : Heap) (Q : Value → Heap → Prop) (hh : ref01_most p0 h fun x h' => Q (.int .i64 x.1) h') :
    HCalls Tryz.prog 139 #[.int .i64 p0] h Q :=
  calls_of_eq Tryz.func139 (by kernel_rfl) Tryz.ntmps139 (by kernel_rfl) CN orders (ref01_most_den p0) hh
def ref01_Size (p0 : Int) : HM (Int × Unit) :=
  HM.bind (α := Bool × Unit) (HM.ite (decide (p0 < (0 : Int))) (
  HM.pure (true, ())) (
  HM.pure (decide (268435455 < (p0 : Int)), ()))) fun x1 =>
  HM.ite x1.1 (
  HM.pure (0, ())) (
  HM.bind (α := Int × Int × Unit) (HM.loop (σ := Int × Int × Unit) (τ := Int × Int × Unit) (fun x3 =>
  HM.ite (decide (127 < (x3.1 : Int))) (
  HM.req (128 ≠ (0 : Int)) <|
  HM.pure (.inl (IntKind.wrap .i64 (Int.tdiv x3.1 128), IntKind.wrap .i64 (x3.2.1 + 1), ()))) (
  HM.pure (.inr (x3.1, x3.2.1, ())))) (p0, 1, ())) fun x2 =>
  HM.pure (x2.2.1, ()))
theorem ref01_Size_den (p0 : Int) : denFn Tryz.prog [] 17 [0, 2, 3, 9, 11] [0, 3, 9, 11] Tryz.f140.results.toList [.one (.int .i64)] (bodyOf Tryz.f140) [Kind.val (.one (.int .i64)) p0] = ref01_Size p0 := by kernel_rfl
theorem ref01_Size_calls (p0 : Int) (h : Heap) (Q : Value → Heap → Prop) (hh : ref01_Size p0 h fun x h' => Q (.int .i64 x.1) h') :
    HCalls Tryz.prog 140 #[.int .i64 p0] h Q :=
  calls_of_eq Tryz.func140 (by kernel_rfl) Tryz.ntmps140 (by kernel_rfl) CN orders (ref01_Size_den p0) hh
def strings_CutPrefix (p0 : ByteArray) (p1 : ByteArray) : HM (ByteArray × Bool × Unit) :=
  HM.bind (α := ByteArray × Bool × Unit) (HM.callN Tryz.prog [.one .str, .one .bool] 177 #[.string p0, .string p1]) fun x1 =>
  HM.pure (x1.1, x1.2.1, ())
theorem strings_CutPrefix_den (p0 : ByteArray) (p1 : ByteArray) : denFn Tryz.prog [177] 11 [0, 1, 4, 5] [0, 1, 4, 5] Tryz.f141.results.toList [.one .str, .one .bool] (bodyOf Tryz.f141) [Kind.val (.one .str) p0, Kind.val (.one .str) p1] = strings_CutPrefix p0 p1 := by kernel_rfl
theorem strings_CutPrefix_calls (p0 : ByteArray) (p1 : ByteArray) (h : Heap) (Q : Value → Heap → Prop) (hh : strings_CutPrefix p0 p1 h fun x h' => Q (.tuple #[.string x.1, .bool x.2.1]) h') :
    HCalls Tryz.prog 141 #[.string p0, .string p1] h Q :=
  calls_of_eq Tryz.func141 (by kernel_rfl) Tryz.ntmps141 (by kernel_rfl) (CC Tryz.call177 CN) orders (strings_CutPrefix_den p0 p1) hh
def topic_Match (p0 : ByteArray) (p1 : ByteArray) : HM (Bool × Unit) :=
  HM.bind (α := Bool × Unit) (HM.bind (α := Int) (HM.call1 Tryz.prog (.one (.int .u8)) 65 #[.string p0]) fun x1 =>
  HM.ite (!(x1 == 0)) (
  HM.pure (true, ())) (
  HM.bind (α := Int) (HM.call1 Tryz.prog (.one (.int .u8)) 110 #[.string p1]) fun x2 =>
  HM.pure (!(x2 == 0), ()))) fun x3 =>
  HM.ite x3.1 (
  HM.pure (false, ())) (
  HM.bind (α := Bool × Unit) (HM.bind (α := Int) (HM.strIdx p1 0) fun x4 =>
  HM.ite (x4 == 36) (
  HM.bind (α := ByteArray) (HM.substr p0 none (some 1)) fun x5 =>
  HM.ite (decide (x5 = (ByteArray.mk #[43]))) (
  HM.pure (true, ())) (
  HM.bind (α := ByteArray) (HM.substr p0 none (some 1)) fun x6 =>
  HM.pure (decide (x6 = (ByteArray.mk #[35])), ()))) (
  HM.pure (false, ()))) fun x7 =>
  HM.ite x7.1 (
  HM.pure (false, ())) (
  HM.bind (α := Slc) (HM.call1 Tryz.prog (.one .slc) 108 #[.string p0]) fun x8 =>
  HM.bind (α := Slc) (HM.call1 Tryz.prog (.one .slc) 108 #[.string p1]) fun x9 =>
  HM.bind (α := Addr) (HM.idx x8.a x8.len (IntKind.wrap .i64 (((x8.len : Nat) : Int) - 1)) 1) fun x10 =>
  HM.bind (α := ByteArray) (HM.load1 .str x10) fun x11 =>
  HM.bind (α := Slc × Unit) (HM.ite (decide (x11 = (ByteArray.mk #[35]))) (
  HM.bind (α := Slc) (HM.slice x8 none (some (IntKind.wrap .i64 (((x8.len : Nat) : Int) - 1))) none 1) fun x13 =>
  HM.pure (x13, ())) (
  HM.pure (x8, ()))) fun x12 =>
  HM.bind (α := Bool × Unit) (HM.ite (decide (((x9.len : Nat) : Int) < (((x12.1.len : Nat) : Int) : Int))) (
  HM.pure (true, ())) (
  HM.ite (!(decide (x11 = (ByteArray.mk #[35])))) (
  HM.pure (decide (((x12.1.len : Nat) : Int) < (((x9.len : Nat) : Int) : Int)), ())) (
  HM.pure (false, ())))) fun x14 =>
  HM.ite x14.1 (
  HM.pure (false, ())) (
  HM.bind (α := Slc) (HM.slice x9 none (some ((x12.1.len : Nat) : Int)) none 1) fun x15 =>
  HM.bind (α := Bool) (HM.call1 Tryz.prog (.one .bool) 178 #[.slice x12.1.a x12.1.len x12.1.cap, .slice x15.a x15.len x15.cap, .func (.func 179) #[] #[]]) fun x16 =>
  HM.pure (x16, ()))))
theorem topic_Match_den (p0 : ByteArray) (p1 : ByteArray) : denFn Tryz.prog [65, 110, 108, 178] 68 [0, 1, 4, 5, 6, 7, 15, 28, 40, 61] [0, 1, 5, 6, 7, 15, 28, 40, 61] Tryz.f142.results.toList [.one .bool] (bodyOf Tryz.f142) [Kind.val (.one .str) p0, Kind.val (.one .str) p1] = topic_Match p0 p1 := by kernel_rfl
theorem topic_Match_calls (p0 : ByteArray) (p1 : ByteArray) (h : Heap) (Q : Value → Heap → Prop) (hh : topic_Match p0 p1 h fun x h' => Q (.bool x.1) h') :
    HCalls Tryz.prog 142 #[.string p0, .string p1] h Q :=
  calls_of_eq Tryz.func142 (by kernel_rfl) Tryz.ntmps142 (by kernel_rfl) (CC Tryz.call65 (CC Tryz.call110 (CC Tryz.call108 (CC Tryz.call178 CN)))) orders (topic_Match_den p0 p1) hh
def text_Fault (p0 : ByteArray) : HM (Int × Bool × Unit) :=
  HM.bind (α := (Int × Unit) ⊕ (Int × Bool × Unit)) (HM.loop (σ := Int × Unit) (τ := (Int × Unit) ⊕ (Int × Bool × Unit)) (fun x2 =>
  HM.ite (decide (x2.1 < (((ByteArray.size p0 : Nat) : Int) : Int))) (
  HM.bind (α := ByteArray) (HM.substr p0 (some x2.1) none) fun x3 =>
  HM.bind (α := Int) (HM.call1 Tryz.prog (.one (.int .i64)) 195 #[.string x3]) fun x4 =>
  HM.ite (x4 == 0) (
  HM.pure (.inr (.inr (x2.1, true, ())))) (
  HM.pure (.inl (IntKind.wrap .i64 (x2.1 + x4), ())))) (
  HM.pure (.inr (.inl (x2.1, ()))))) (0, ())) (Sum.elim (fun x1 =>
  HM.pure (0, false, ())) HM.pure)
theorem text_Fault_den (p0 : ByteArray) : denFn Tryz.prog [195] 20 [0, 2, 3, 4, 5, 9, 15] [0, 4, 5, 9, 15] Tryz.f157.results.toList [.one (.int .i64), .one .bool] (bodyOf Tryz.f157) [Kind.val (.one .str) p0] = text_Fault p0 := by kernel_rfl
theorem text_Fault_calls (p0 : ByteArray) (h : Heap) (Q : Value → Heap → Prop) (hh : text_Fault p0 h fun x h' => Q (.tuple #[.int .i64 x.1, .bool x.2.1]) h') :
    HCalls Tryz.prog 157 #[.string p0] h Q :=
  calls_of_eq Tryz.func157 (by kernel_rfl) Tryz.ntmps157 (by kernel_rfl) (CC Tryz.call195 CN) orders (text_Fault_den p0) hh
def ref02_Fault (p0 : ByteArray) : HM (Int × Bool × Unit) :=
  HM.bind (α := (Int × Unit) ⊕ (Int × Bool × Unit)) (HM.loop (σ := Int × Unit) (τ := (Int × Unit) ⊕ (Int × Bool × Unit)) (fun x2 =>
  HM.ite (decide (x2.1 < (((ByteArray.size p0 : Nat) : Int) : Int))) (
  HM.bind (α := Int) (HM.call1 Tryz.prog (.one (.int .i64)) 196 #[.string p0, .int .i64 x2.1]) fun x3 =>
  HM.ite (x3 == 0) (
  HM.pure (.inr (.inr (x2.1, true, ())))) (
  HM.pure (.inl (IntKind.wrap .i64 (x2.1 + x3), ())))) (
  HM.pure (.inr (.inl (x2.1, ()))))) (0, ())) (Sum.elim (fun x1 =>
  HM.pure (0, false, ())) HM.pure)
theorem ref02_Fault_den (p0 : ByteArray) : denFn Tryz.prog [196] 19 [0, 2, 3, 4, 5, 9, 14] [0, 4, 5, 9, 14] Tryz.f158.results.toList [.one (.int .i64), .one .bool] (bodyOf Tryz.f158) [Kind.val (.one .str) p0] = ref02_Fault p0 := by kernel_rfl
theorem ref02_Fault_calls (p0 : ByteArray) (h : Heap) (Q : Value → Heap → Prop) (hh : ref02_Fault p0 h fun x h' => Q (.tuple #[.int .i64 x.1, .bool x.2.1]) h') :
    HCalls Tryz.prog 158 #[.string p0] h Q :=
  calls_of_eq Tryz.func158 (by kernel_rfl) Tryz.ntmps158 (by kernel_rfl) (CC Tryz.call196 CN) orders (ref02_Fault_den p0) hh
def ref07_Match (p0 : ByteArray) (p1 : ByteArray) : HM (Bool × Unit) :=
  HM.bind (α := Int) (HM.call1 Tryz.prog (.one (.int .i64)) 69 #[.string p0]) fun x1 =>
  HM.bind (α := Int) (HM.call1 Tryz.prog (.one (.int .i64)) 70 #[.string p1]) fun x2 =>
  HM.bind (α := Bool × Unit) (HM.ite (!(x1 == 0)) (
  HM.pure (true, ())) (
  HM.pure (!(x2 == 0), ()))) fun x3 =>
  HM.ite x3.1 (
  HM.pure (false, ())) (
  HM.bind (α := Bool × Unit) (HM.bind (α := Int) (HM.strIdx p1 0) fun x4 =>
  HM.ite (x4 == 36) (
  HM.bind (α := Int) (HM.strIdx p0 0) fun x5 =>
  HM.ite (x5 == 43) (
  HM.pure (true, ())) (
  HM.bind (α := Int) (HM.strIdx p0 0) fun x6 =>
  HM.pure (x6 == 35, ()))) (
  HM.pure (false, ()))) fun x7 =>
  HM.ite x7.1 (
  HM.pure (false, ())) (
  HM.bind (α := Slc) (HM.call1 Tryz.prog (.one .slc) 112 #[.string p0]) fun x8 =>
  HM.bind (α := Slc) (HM.call1 Tryz.prog (.one .slc) 112 #[.string p1]) fun x9 =>
  HM.bind (α := (Int × Unit) ⊕ (Bool × Unit)) (HM.loop (σ := Int × Unit) (τ := (Int × Unit) ⊕ (Bool × Unit)) (fun x11 =>
  HM.ite (decide (x11.1 < (((x8.len : Nat) : Int) : Int))) (
  HM.bind (α := Addr) (HM.idx x8.a x8.len x11.1 1) fun x12 =>
  HM.bind (α := ByteArray) (HM.load1 .str x12) fun x13 =>
  HM.ite (decide (x13 = (ByteArray.mk #[35]))) (
  HM.pure (.inr (.inr (true, ())))) (
  HM.ite (decide (((x9.len : Nat) : Int) ≤ (x11.1 : Int))) (
  HM.pure (.inr (.inr (false, ())))) (
  HM.bind (α := Bool × Unit) (HM.bind (α := Addr) (HM.idx x8.a x8.len x11.1 1) fun x14 =>
  HM.bind (α := ByteArray) (HM.load1 .str x14) fun x15 =>
  HM.ite (!(decide (x15 = (ByteArray.mk #[43])))) (
  HM.bind (α := Addr) (HM.idx x8.a x8.len x11.1 1) fun x16 =>
  HM.bind (α := ByteArray) (HM.load1 .str x16) fun x17 =>
  HM.bind (α := Addr) (HM.idx x9.a x9.len x11.1 1) fun x18 =>
  HM.bind (α := ByteArray) (HM.load1 .str x18) fun x19 =>
  HM.pure (!(decide (x17 = x19)), ())) (
  HM.pure (false, ()))) fun x20 =>
  HM.ite x20.1 (
  HM.pure (.inr (.inr (false, ())))) (
  HM.pure (.inl (IntKind.wrap .i64 (x11.1 + 1), ())))))) (
  HM.pure (.inr (.inl (x11.1, ()))))) (0, ())) (Sum.elim (fun x10 =>
  HM.pure (((x8.len : Nat) : Int) == ((x9.len : Nat) : Int), ())) HM.pure)))
theorem ref07_Match_den (p0 : ByteArray) (p1 : ByteArray) : denFn Tryz.prog [69, 70, 112] 73 [0, 1, 4, 5, 6, 7, 8, 9, 19, 32, 40, 47, 51, 67] [0, 1, 5, 6, 7, 8, 9, 19, 32, 40, 47, 51, 67] Tryz.f159.results.toList [.one .bool] (bodyOf Tryz.f159) [Kind.val (.one .str) p0, Kind.val (.one .str) p1] = ref07_Match p0 p1 := by kernel_rfl
theorem ref07_Match_calls (p0 : ByteArray) (p1 : ByteArray) (h : Heap) (Q : Value → Heap → Prop) (hh : ref07_Match p0 p1 h fun x h' => Q (.bool x.1) h') :
    HCalls Tryz.prog 159 #[.string p0, .string p1] h Q :=
  calls_of_eq Tryz.func159 (by kernel_rfl) Tryz.ntmps159 (by kernel_rfl) (CC Tryz.call69 (CC Tryz.call70 (CC Tryz.call112 CN))) orders (ref07_Match_den p0 p1) hh
def ids_Pool_Left (p0 : Option Addr) : HM (Int × Unit) :=
  HM.ite (Option.isNone p0) (
  HM.pure (0, ())) (
  HM.bind (α := Addr) (HM.nonnil p0) fun x1 =>
  HM.bind (α := Int) (HM.load1 (.int .i64) (Addr.add x1 0)) fun x2 =>
  HM.bind (α := Addr) (HM.nonnil p0) fun x3 =>
  HM.bind (α := Option Nat) (HM.load1 .map (Addr.add x3 2)) fun x4 =>
  HM.bind (α := Int) (HM.mapLen x4) fun x5 =>
  HM.pure (IntKind.wrap .i64 (x2 - x5), ()))
theorem ids_Pool_Left_den (p0 : Option Addr) : denFn Tryz.prog [] 15 [0, 2, 4] [0, 4] Tryz.f160.results.toList [.one (.int .i64)] (bodyOf Tryz.f160) [Kind.val (.one .ptr) p0] = ids_Pool_Left p0 := by kernel_rfl
theorem ids_Pool_Left_calls (p0 : Option Addr) (h : Heap) (Q : Value → Heap → Prop) (hh : ids_Pool_Left p0 h fun x h' => Q (.int .i64 x.1) h') :
    HCalls Tryz.prog 160 #[.pointer p0] h Q :=
  calls_of_eq Tryz.func160 (by kernel_rfl) Tryz.ntmps160 (by kernel_rfl) CN orders (ids_Pool_Left_den p0) hh
def packet_writer_text (p0 : Option Addr) (p1 : ByteArray) : HM (Unit) :=
  HM.bind (α := ByteArray × Int × Unit) (HM.callN Tryz.prog [.one .str, .one (.int .u8)] 197 #[.string p1]) fun x1 =>
  HM.bind (α := Unit) (HM.callN Tryz.prog [] 164 #[.pointer p0, .string x1.1, .int .u8 x1.2.1]) fun x2 =>
  HM.pure ()
theorem packet_writer_text_den (p0 : Option Addr) (p1 : ByteArray) : denFn Tryz.prog [197, 164] 10 [0, 1] [0, 1] Tryz.f161.results.toList [] (bodyOf Tryz.f161) [Kind.val (.one .ptr) p0, Kind.val (.one .str) p1] = packet_writer_text p0 p1 := by kernel_rfl
theorem packet_writer_text_calls (p0 : Option Addr) (p1 : ByteArray) (h : Heap) (Q : Value → Heap → Prop) (hh : packet_writer_text p0 p1 h fun x h' => Q (.tuple #[]) h') :
    HCalls Tryz.prog 161 #[.pointer p0, .string p1] h Q :=
  calls_of_eq Tryz.func161 (by kernel_rfl) Tryz.ntmps161 (by kernel_rfl) (CC Tryz.call197 (CC Tryz.call164 CN)) orders (packet_writer_text_den p0 p1) hh
def packet_writer_two (p0 : Option Addr) (p1 : Int) : HM (Unit) :=
  HM.bind (α := ByteArray × Int × Unit) (HM.callN Tryz.prog [.one .str, .one (.int .u8)] 88 #[.int .i64 2, .int .i64 p1]) fun x1 =>
  HM.bind (α := Unit) (HM.callN Tryz.prog [] 164 #[.pointer p0, .string x1.1, .int .u8 x1.2.1]) fun x2 =>
  HM.pure ()
theorem packet_writer_two_den (p0 : Option Addr) (p1 : Int) : denFn Tryz.prog [88, 164] 10 [0, 1] [0, 1] Tryz.f162.results.toList [] (bodyOf Tryz.f162) [Kind.val (.one .ptr) p0, Kind.val (.one (.int .i64)) p1] = packet_writer_two p0 p1 := by kernel_rfl
theorem packet_writer_two_calls (p0 : Option Addr) (p1 : Int) (h : Heap) (Q : Value → Heap → Prop) (hh : packet_writer_two p0 p1 h fun x h' => Q (.tuple #[]) h') :
    HCalls Tryz.prog 162 #[.pointer p0, .int .i64 p1] h Q :=
  calls_of_eq Tryz.func162 (by kernel_rfl) Tryz.ntmps162 (by kernel_rfl) (CC Tryz.call88 (CC Tryz.call164 CN)) orders (packet_writer_two_den p0 p1) hh
def packet_writer_part (p0 : Option Addr) (p1 : ByteArray) (p2 : Int) : HM (Unit) :=
  HM.bind (α := Unit) (HM.callN Tryz.prog [] 84 #[.pointer p0, .int .u8 p2]) fun x1 =>
  HM.bind (α := Addr) (HM.nonnil p0) fun x2 =>
  HM.bind (α := Int × Value × Unit) (HM.callN Tryz.prog [.one (.int .i64), .one .any] 100 #[.pointer (some (Addr.add x2 0)), .string p1]) fun x3 =>
  HM.pure ()
theorem packet_writer_part_den (p0 : Option Addr) (p1 : ByteArray) (p2 : Int) : denFn Tryz.prog [84, 100] 14 [0, 1, 2] [0, 1, 2] Tryz.f164.results.toList [] (bodyOf Tryz.f164) [Kind.val (.one .ptr) p0, Kind.val (.one .str) p1, Kind.val (.one (.int .u8)) p2] = packet_writer_part p0 p1 p2 := by kernel_rfl
theorem packet_writer_part_calls (p0 : Option Addr) (p1 : ByteArray) (p2 : Int) (h : Heap) (Q : Value → Heap → Prop) (hh : packet_writer_part p0 p1 p2 h fun x h' => Q (.tuple #[]) h') :
    HCalls Tryz.prog 164 #[.pointer p0, .string p1, .int .u8 p2] h Q :=
  calls_of_eq Tryz.func164 (by kernel_rfl) Tryz.ntmps164 (by kernel_rfl) (CC Tryz.call84 (CC Tryz.call100 CN)) orders (packet_writer_part_den p0 p1 p2) hh
def prop_Put (p0 : Slc) : HM (ByteArray × Int × Unit) :=
  HM.ite (decide (64 < (((p0.len : Nat) : Int) : Int))) (
  HM.pure (ByteArray.mk #[], 149, ())) (
  HM.bind (α := Nat) (HM.new (.cells #[.pointer none, .slice none 0 0] 199)) fun x1 =>
  HM.bind (α := (Int × Unit) ⊕ (ByteArray × Int × Unit)) (HM.loop (σ := Int × Unit) (τ := (Int × Unit) ⊕ (ByteArray × Int × Unit)) (fun x3 =>
  HM.ite (decide (x3.1 < (((p0.len : Nat) : Int) : Int))) (
  HM.bind (α := Addr) (HM.idx p0.a p0.len x3.1 4) fun x4 =>
  HM.bind (α := Int × Int × ByteArray × ByteArray × Unit) (HM.loadN [.int .i64, .int .i64, .str, .str] x4) fun x5 =>
  HM.bind (α := Nat) (HM.new (.cells #[.int .i64 0, .int .i64 0, .string (ByteArray.mk #[]), .string (ByteArray.mk #[])] 44)) fun x6 =>
  HM.bind (α := Unit) (HM.storeN ⟨x6, 0, none⟩ [.int .i64 x5.1, .int .i64 x5.2.1, .string x5.2.2.1, .string x5.2.2.2.1]) fun _ =>
  HM.bind (α := Int) (HM.load1 (.int .i64) (Addr.add ⟨x6, 0, none⟩ 0)) fun x7 =>
  HM.bind (α := Int) (HM.call1 Tryz.prog (.one (.int .i64)) 199 #[.int .i64 x7]) fun x8 =>
  HM.ite (x8 == 0) (
  HM.pure (.inr (.inr (ByteArray.mk #[], 129, ())))) (
  HM.bind (α := Slc) (HM.slice p0 none (some x3.1) none 4) fun x9 =>
  HM.bind (α := Int) (HM.load1 (.int .i64) (Addr.add ⟨x6, 0, none⟩ 0)) fun x10 =>
  HM.bind (α := Bool) (HM.call1 Tryz.prog (.one .bool) 200 #[.slice x9.a x9.len x9.cap, .int .i64 x10]) fun x11 =>
  HM.ite x11 (
  HM.pure (.inr (.inr (ByteArray.mk #[], 130, ())))) (
  HM.bind (α := Int × Int × ByteArray × ByteArray × Unit) (HM.loadN [.int .i64, .int .i64, .str, .str] ⟨x6, 0, none⟩) fun x12 =>
  HM.bind (α := ByteArray × Int × Unit) (HM.callN Tryz.prog [.one .str, .one (.int .u8)] 201 #[.agg #[.int .i64 x12.1, .int .i64 x12.2.1, .string x12.2.2.1, .string x12.2.2.2.1]]) fun x13 =>
  HM.ite (!(x13.2.1 == 0)) (
  HM.pure (.inr (.inr (ByteArray.mk #[], x13.2.1, ())))) (
  HM.bind (α := Int) (HM.load1 (.int .i64) (Addr.add ⟨x6, 0, none⟩ 0)) fun x14 =>
  HM.bind (α := ByteArray × Int × Unit) (HM.callN Tryz.prog [.one .str, .one (.int .u8)] 89 #[.int .i64 x14]) fun x15 =>
  HM.req (ByteArray.size x15.1 + ByteArray.size x13.1 ≤ 9223372036854775807) <|
  HM.bind (α := Int × Value × Unit) (HM.callN Tryz.prog [.one (.int .i64), .one .any] 100 #[.pointer (some ⟨x1, 0, none⟩), .string (x15.1 ++ x13.1)]) fun x16 =>
  HM.pure (.inl (IntKind.wrap .i64 (x3.1 + 1), ())))))) (
  HM.pure (.inr (.inl (x3.1, ()))))) (0, ())) (Sum.elim (fun x2 =>
  HM.bind (α := Int) (HM.call1 Tryz.prog (.one (.int .i64)) 87 #[.pointer (some ⟨x1, 0, none⟩)]) fun x17 =>
  HM.bind (α := ByteArray × Int × Unit) (HM.callN Tryz.prog [.one .str, .one (.int .u8)] 89 #[.int .i64 x17]) fun x18 =>
  HM.ite (!(x18.2.1 == 0)) (
  HM.pure (ByteArray.mk #[], 149, ())) (
  HM.bind (α := ByteArray) (HM.call1 Tryz.prog (.one .str) 90 #[.pointer (some ⟨x1, 0, none⟩)]) fun x19 =>
  HM.req (ByteArray.size x18.1 + ByteArray.size x19 ≤ 9223372036854775807) <|
  HM.pure (x18.1 ++ x19, 0, ()))) HM.pure))
theorem prop_Put_den (p0 : Slc) : denFn Tryz.prog [199, 200, 201, 89, 100, 87, 90] 64 [0, 2, 3, 4, 5, 6, 7, 8, 9, 11, 12, 15, 16, 17, 18, 19, 23, 28, 41, 60] [0, 4, 5, 6, 7, 8, 9, 11, 12, 15, 16, 17, 18, 19, 23, 28, 41, 60] Tryz.f165.results.toList [.one .str, .one (.int .u8)] (bodyOf Tryz.f165) [Kind.val (.one .slc) p0] = prop_Put p0 := by kernel_rfl
theorem prop_Put_calls (p0 : Slc) (h : Heap) (Q : Value → Heap → Prop) (hh : prop_Put p0 h fun x h' => Q (.tuple #[.string x.1, .int .u8 x.2.1]) h') :
    HCalls Tryz.prog 165 #[.slice p0.a p0.len p0.cap] h Q :=
  calls_of_eq Tryz.func165 (by kernel_rfl) Tryz.ntmps165 (by kernel_rfl) (CC Tryz.call199 (CC Tryz.call200 (CC Tryz.call201 (CC Tryz.call89 (CC Tryz.call100 (CC Tryz.call87 (CC Tryz.call90 CN))))))) orders (prop_Put_den p0) hh
def slices_ContainsFunc (p0 : Slc) (p1 : Value) : HM (Bool × Unit) :=
  HM.bind (α := Int) (HM.call1 Tryz.prog (.one (.int .i64)) 202 #[.slice p0.a p0.len p0.cap, p1]) fun x1 =>
  HM.pure (decide (0 ≤ (x1 : Int)), ())
theorem slices_ContainsFunc_den (p0 : Slc) (p1 : Value) : denFn Tryz.prog [202] 9 [0, 1, 4] [0, 1] Tryz.f166.results.toList [.one .bool] (bodyOf Tryz.f166) [Kind.val (.one .slc) p0, Kind.val (.one .any) p1] = slices_ContainsFunc p0 p1 := by kernel_rfl
theorem slices_ContainsFunc_calls (p0 : Slc) (p1 : Value) (h : Heap) (Q : Value → Heap → Prop) (hh : slices_ContainsFunc p0 p1 h fun x h' => Q (.bool x.1) h') :
    HCalls Tryz.prog 166 #[.slice p0.a p0.len p0.cap, p1] h Q :=
  calls_of_eq Tryz.func166 (by kernel_rfl) Tryz.ntmps166 (by kernel_rfl) (CC Tryz.call202 CN) orders (slices_ContainsFunc_den p0 p1) hh
def packet_writer_props_f1 (p0 : Int × Int × ByteArray × ByteArray × Unit) (p1 : Addr) : HM (Bool × Unit) :=
  HM.bind (α := Nat) (HM.new (.cells #[.int .i64 p0.1, .int .i64 p0.2.1, .string p0.2.2.1, .string p0.2.2.2.1] 44)) fun x1 =>
  HM.bind (α := Int) (HM.load1 (.int .i64) p1) fun x2 =>
  HM.bind (α := Int) (HM.load1 (.int .i64) (Addr.add ⟨x1, 0, none⟩ 0)) fun x3 =>
  HM.bind (α := Bool) (HM.call1 Tryz.prog (.one .bool) 168 #[.int .i64 x2, .int .i64 x3]) fun x4 =>
  HM.pure (!x4, ())
theorem packet_writer_props_f1_den (p0 : Int × Int × ByteArray × ByteArray × Unit) (p1 : Addr) : denFn Tryz.prog [168] 9 [0, 1, 2, 3] [0, 1, 2] Tryz.f167.results.toList [.one .bool] (bodyOf Tryz.f167) [Kind.val (.agg [.int .i64, .int .i64, .str, .str]) p0, Value.pointer (some p1)] = packet_writer_props_f1 p0 p1 := by kernel_rfl
theorem packet_writer_props_f1_calls (p0 : Int × Int × ByteArray × ByteArray × Unit) (p1 : Addr) (h : Heap) (Q : Value → Heap → Prop) (hh : packet_writer_props_f1 p0 p1 h fun x h' => Q (.bool x.1) h') :
    HCalls Tryz.prog 167 #[.agg #[.int .i64 p0.1, .int .i64 p0.2.1, .string p0.2.2.1, .string p0.2.2.2.1], .pointer (some p1)] h Q :=
  calls_of_eq Tryz.func167 (by kernel_rfl) Tryz.ntmps167 (by kernel_rfl) (CC Tryz.call168 CN) orders (packet_writer_props_f1_den p0 p1) hh
def packet_Allowed (p0 : Int) (p1 : Int) : HM (Bool × Unit) :=
  HM.bind (α := Slc × Unit) (HM.ite (p0 == 0) (
  HM.bind (α := Nat) (HM.new (.cells #[.int .i64 1, .int .i64 2, .int .i64 3, .int .i64 8, .int .i64 9, .int .i64 24, .int .i64 38] 3)) fun x2 =>
  HM.pure (⟨some ⟨x2, 0, none⟩, 7, 7⟩, ())) (
  HM.bind (α := Slc × Unit) (HM.ite (p0 == 1) (
  HM.bind (α := Nat) (HM.new (.cells #[.int .i64 17, .int .i64 21, .int .i64 22, .int .i64 23, .int .i64 25, .int .i64 33, .int .i64 34, .int .i64 38, .int .i64 39] 3)) fun x4 =>
  HM.pure (⟨some ⟨x4, 0, none⟩, 9, 9⟩, ())) (
  HM.bind (α := Slc × Unit) (HM.ite (p0 == 2) (
  HM.bind (α := Nat) (HM.new (.cells #[.int .i64 17, .int .i64 18, .int .i64 19, .int .i64 21, .int .i64 22, .int .i64 26, .int .i64 28, .int .i64 31, .int .i64 33, .int .i64 34, .int .i64 36, .int .i64 37, .int .i64 38, .int .i64 39, .int .i64 40, .int .i64 41, .int .i64 42] 3)) fun x6 =>
  HM.pure (⟨some ⟨x6, 0, none⟩, 17, 17⟩, ())) (
  HM.bind (α := Slc × Unit) (HM.ite (p0 == 3) (
  HM.bind (α := Nat) (HM.new (.cells #[.int .i64 1, .int .i64 2, .int .i64 3, .int .i64 8, .int .i64 9, .int .i64 11, .int .i64 35, .int .i64 38] 3)) fun x8 =>
  HM.pure (⟨some ⟨x8, 0, none⟩, 8, 8⟩, ())) (
  HM.bind (α := Slc × Unit) (HM.ite (p0 == 8) (
  HM.bind (α := Nat) (HM.new (.cells #[.int .i64 11, .int .i64 38] 3)) fun x10 =>
  HM.pure (⟨some ⟨x10, 0, none⟩, 2, 2⟩, ())) (
  HM.bind (α := Slc × Unit) (HM.ite (p0 == 10) (
  HM.bind (α := Nat) (HM.new (.cells #[.int .i64 38] 3)) fun x12 =>
  HM.pure (⟨some ⟨x12, 0, none⟩, 1, 1⟩, ())) (
  HM.bind (α := Slc × Unit) (HM.ite (p0 == 14) (
  HM.bind (α := Nat) (HM.new (.cells #[.int .i64 17, .int .i64 28, .int .i64 31, .int .i64 38] 3)) fun x14 =>
  HM.pure (⟨some ⟨x14, 0, none⟩, 4, 4⟩, ())) (
  HM.bind (α := Slc × Unit) (HM.ite (p0 == 15) (
  HM.bind (α := Nat) (HM.new (.cells #[.int .i64 21, .int .i64 22, .int .i64 31, .int .i64 38] 3)) fun x16 =>
  HM.pure (⟨some ⟨x16, 0, none⟩, 4, 4⟩, ())) (
  HM.bind (α := Bool × Unit) (HM.ite (p0 == 4) (
  HM.pure (p0 == 4, ())) (
  HM.bind (α := Bool × Unit) (HM.ite (p0 == 5) (
  HM.pure (p0 == 5, ())) (
  HM.bind (α := Bool × Unit) (HM.ite (p0 == 6) (
  HM.pure (p0 == 6, ())) (
  HM.bind (α := Bool × Unit) (HM.ite (p0 == 7) (
  HM.pure (p0 == 7, ())) (
  HM.bind (α := Bool × Unit) (HM.ite (p0 == 9) (
  HM.pure (p0 == 9, ())) (
  HM.pure (p0 == 11, ()))) fun x21 =>
  HM.pure (x21.1, ()))) fun x20 =>
  HM.pure (x20.1, ()))) fun x19 =>
  HM.pure (x19.1, ()))) fun x18 =>
  HM.pure (x18.1, ()))) fun x17 =>
  HM.bind (α := Slc × Unit) (HM.ite x17.1 (
  HM.bind (α := Nat) (HM.new (.cells #[.int .i64 31, .int .i64 38] 3)) fun x23 =>
  HM.pure (⟨some ⟨x23, 0, none⟩, 2, 2⟩, ())) (
  HM.pure (⟨none, 0, 0⟩, ()))) fun x22 =>
  HM.pure (x22.1, ()))) fun x15 =>
  HM.pure (x15.1, ()))) fun x13 =>
  HM.pure (x13.1, ()))) fun x11 =>
  HM.pure (x11.1, ()))) fun x9 =>
  HM.pure (x9.1, ()))) fun x7 =>
  HM.pure (x7.1, ()))) fun x5 =>
  HM.pure (x5.1, ()))) fun x3 =>
  HM.pure (x3.1, ()))) fun x1 =>
  HM.bind (α := Bool) (HM.call1 Tryz.prog (.one .bool) 203 #[.slice x1.1.a x1.1.len x1.1.cap, .int .i64 p1]) fun x24 =>
  HM.pure (x24, ())
theorem packet_Allowed_den (p0 : Int) (p1 : Int) : denFn Tryz.prog [203] 42 [0, 1, 4, 5, 6, 7, 10, 13, 16, 19, 22, 25, 28, 31] [0, 1, 5, 6, 7, 10, 13, 16, 19, 22, 25, 28, 31] Tryz.f168.results.toList [.one .bool] (bodyOf Tryz.f168) [Kind.val (.one (.int .i64)) p0, Kind.val (.one (.int .i64)) p1] = packet_Allowed p0 p1 := by kernel_rfl
theorem packet_Allowed_calls (p0 : Int) (p1 : Int) (h : Heap) (Q : Value → Heap → Prop) (hh : packet_Allowed p0 p1 h fun x h' => Q (.bool x.1) h') :
    HCalls Tryz.prog 168 #[.int .i64 p0, .int .i64 p1] h Q :=
  calls_of_eq Tryz.func168 (by kernel_rfl) Tryz.ntmps168 (by kernel_rfl) (CC Tryz.call203 CN) orders (packet_Allowed_den p0 p1) hh
def ref04_Put (p0 : Slc) : HM (ByteArray × Int × Unit) :=
  HM.ite (decide (64 < (((p0.len : Nat) : Int) : Int))) (
  HM.pure (ByteArray.mk #[], 149, ())) (
  HM.bind (α := (ByteArray × Int × Unit) ⊕ (ByteArray × Int × Unit)) (HM.loop (σ := ByteArray × Int × Unit) (τ := (ByteArray × Int × Unit) ⊕ (ByteArray × Int × Unit)) (fun x2 =>
  HM.ite (decide (x2.2.1 < (((p0.len : Nat) : Int) : Int))) (
  HM.bind (α := Addr) (HM.idx p0.a p0.len x2.2.1 4) fun x3 =>
  HM.bind (α := Int) (HM.load1 (.int .i64) (Addr.add x3 0)) fun x4 =>
  HM.bind (α := Int) (HM.call1 Tryz.prog (.one (.int .i64)) 205 #[.int .i64 x4]) fun x5 =>
  HM.ite (x5 == 0) (
  HM.pure (.inr (.inr (ByteArray.mk #[], 129, ())))) (
  HM.bind (α := Addr) (HM.idx p0.a p0.len x2.2.1 4) fun x6 =>
  HM.bind (α := Int) (HM.load1 (.int .i64) (Addr.add x6 0)) fun x7 =>
  HM.bind (α := Bool) (HM.call1 Tryz.prog (.one .bool) 206 #[.slice p0.a p0.len p0.cap, .int .i64 x2.2.1, .int .i64 x7]) fun x8 =>
  HM.ite x8 (
  HM.pure (.inr (.inr (ByteArray.mk #[], 130, ())))) (
  HM.bind (α := Addr) (HM.idx p0.a p0.len x2.2.1 4) fun x9 =>
  HM.bind (α := Int × Int × ByteArray × ByteArray × Unit) (HM.loadN [.int .i64, .int .i64, .str, .str] x9) fun x10 =>
  HM.bind (α := ByteArray × Int × Unit) (HM.callN Tryz.prog [.one .str, .one (.int .i64)] 207 #[.agg #[.int .i64 x10.1, .int .i64 x10.2.1, .string x10.2.2.1, .string x10.2.2.2.1]]) fun x11 =>
  HM.ite (!(x11.2.1 == 0)) (
  HM.pure (.inr (.inr (ByteArray.mk #[], x11.2.1, ())))) (
  HM.bind (α := Addr) (HM.idx p0.a p0.len x2.2.1 4) fun x12 =>
  HM.bind (α := Int) (HM.load1 (.int .i64) (Addr.add x12 0)) fun x13 =>
  HM.bind (α := ByteArray × Int × Unit) (HM.callN Tryz.prog [.one .str, .one (.int .i64)] 94 #[.int .i64 x13]) fun x14 =>
  HM.req (ByteArray.size x2.1 + ByteArray.size x14.1 ≤ 9223372036854775807) <|
  HM.req (ByteArray.size (x2.1 ++ x14.1) + ByteArray.size x11.1 ≤ 9223372036854775807) <|
  HM.pure (.inl ((x2.1 ++ x14.1) ++ x11.1, IntKind.wrap .i64 (x2.2.1 + 1), ())))))) (
  HM.pure (.inr (.inl (x2.1, x2.2.1, ()))))) (ByteArray.mk #[], 0, ())) (Sum.elim (fun x1 =>
  HM.bind (α := ByteArray × Int × Unit) (HM.callN Tryz.prog [.one .str, .one (.int .i64)] 94 #[.int .i64 ((ByteArray.size x1.1 : Nat) : Int)]) fun x15 =>
  HM.ite (!(x15.2.1 == 0)) (
  HM.pure (ByteArray.mk #[], 149, ())) (
  HM.req (ByteArray.size x15.1 + ByteArray.size x1.1 ≤ 9223372036854775807) <|
  HM.pure (x15.1 ++ x1.1, 0, ()))) HM.pure))
theorem ref04_Put_den (p0 : Slc) : denFn Tryz.prog [205, 206, 207, 94] 76 [0, 2, 3, 4, 5, 6, 7, 8, 9, 10, 12, 13, 16, 20, 30, 39, 49, 72] [0, 4, 5, 6, 7, 8, 9, 10, 12, 13, 16, 20, 30, 39, 49, 72] Tryz.f173.results.toList [.one .str, .one (.int .i64)] (bodyOf Tryz.f173) [Kind.val (.one .slc) p0] = ref04_Put p0 := by kernel_rfl
theorem ref04_Put_calls (p0 : Slc) (h : Heap) (Q : Value → Heap → Prop) (hh : ref04_Put p0 h fun x h' => Q (.tuple #[.string x.1, .int .i64 x.2.1]) h') :
    HCalls Tryz.prog 173 #[.slice p0.a p0.len p0.cap] h Q :=
  calls_of_eq Tryz.func173 (by kernel_rfl) Tryz.ntmps173 (by kernel_rfl) (CC Tryz.call205 (CC Tryz.call206 (CC Tryz.call207 (CC Tryz.call94 CN)))) orders (ref04_Put_den p0) hh
def ref05_all (p0 : Int) (p1 : Slc) : HM (Bool × Unit) :=
  HM.bind (α := (Int × Unit) ⊕ (Bool × Unit)) (HM.loop (σ := Int × Unit) (τ := (Int × Unit) ⊕ (Bool × Unit)) (fun x2 =>
  HM.ite (decide (x2.1 < (((p1.len : Nat) : Int) : Int))) (
  HM.bind (α := Addr) (HM.idx p1.a p1.len x2.1 4) fun x3 =>
  HM.bind (α := Int) (HM.load1 (.int .i64) (Addr.add x3 0)) fun x4 =>
  HM.bind (α := Bool) (HM.call1 Tryz.prog (.one .bool) 208 #[.int .i64 p0, .int .i64 x4]) fun x5 =>
  HM.ite (!x5) (
  HM.pure (.inr (.inr (false, ())))) (
  HM.pure (.inl (IntKind.wrap .i64 (x2.1 + 1), ())))) (
  HM.pure (.inr (.inl (x2.1, ()))))) (0, ())) (Sum.elim (fun x1 =>
  HM.pure (true, ())) HM.pure)
theorem ref05_all_den (p0 : Int) (p1 : Slc) : denFn Tryz.prog [208] 22 [0, 1, 4, 5, 6, 10, 21] [0, 1, 5, 6, 10, 21] Tryz.f174.results.toList [.one .bool] (bodyOf Tryz.f174) [Kind.val (.one (.int .i64)) p0, Kind.val (.one .slc) p1] = ref05_all p0 p1 := by kernel_rfl
theorem ref05_all_calls (p0 : Int) (p1 : Slc) (h : Heap) (Q : Value → Heap → Prop) (hh : ref05_all p0 p1 h fun x h' => Q (.bool x.1) h') :
    HCalls Tryz.prog 174 #[.int .i64 p0, .slice p1.a p1.len p1.cap] h Q :=
  calls_of_eq Tryz.func174 (by kernel_rfl) Tryz.ntmps174 (by kernel_rfl) (CC Tryz.call208 CN) orders (ref05_all_den p0 p1) hh
def ref02_Put (p0 : ByteArray) : HM (ByteArray × Int × Unit) :=
  HM.bind (α := Int × Bool × Unit) (HM.callN Tryz.prog [.one (.int .i64), .one .bool] 158 #[.string p0]) fun x1 =>
  HM.ite x1.2.1 (
  HM.pure (ByteArray.mk #[], 129, ())) (
  HM.bind (α := ByteArray × Int × Unit) (HM.callN Tryz.prog [.one .str, .one (.int .i64)] 204 #[.string p0]) fun x2 =>
  HM.pure (x2.1, x2.2.1, ()))
theorem ref02_Put_den (p0 : ByteArray) : denFn Tryz.prog [158, 204] 16 [0, 2, 3, 5, 11] [0, 5, 11] Tryz.f175.results.toList [.one .str, .one (.int .i64)] (bodyOf Tryz.f175) [Kind.val (.one .str) p0] = ref02_Put p0 := by kernel_rfl
theorem ref02_Put_calls (p0 : ByteArray) (h : Heap) (Q : Value → Heap → Prop) (hh : ref02_Put p0 h fun x h' => Q (.tuple #[.string x.1, .int .i64 x.2.1]) h') :
    HCalls Tryz.prog 175 #[.string p0] h Q :=
  calls_of_eq Tryz.func175 (by kernel_rfl) Tryz.ntmps175 (by kernel_rfl) (CC Tryz.call158 (CC Tryz.call204 CN)) orders (ref02_Put_den p0) hh
def stringslite_CutPrefix (p0 : ByteArray) (p1 : ByteArray) : HM (ByteArray × Bool × Unit) :=
  HM.bind (α := Bool) (HM.call1 Tryz.prog (.one .bool) 209 #[.string p0, .string p1]) fun x1 =>
  HM.ite (!x1) (
  HM.pure (p0, false, ())) (
  HM.bind (α := ByteArray) (HM.substr p0 (some ((ByteArray.size p1 : Nat) : Int)) none) fun x2 =>
  HM.pure (x2, true, ()))
theorem stringslite_CutPrefix_den (p0 : ByteArray) (p1 : ByteArray) : denFn Tryz.prog [209] 15 [0, 1, 4, 5, 9] [0, 1, 4, 5, 9] Tryz.f177.results.toList [.one .str, .one .bool] (bodyOf Tryz.f177) [Kind.val (.one .str) p0, Kind.val (.one .str) p1] = stringslite_CutPrefix p0 p1 := by kernel_rfl
theorem stringslite_CutPrefix_calls (p0 : ByteArray) (p1 : ByteArray) (h : Heap) (Q : Value → Heap → Prop) (hh : stringslite_CutPrefix p0 p1 h fun x h' => Q (.tuple #[.string x.1, .bool x.2.1]) h') :
    HCalls Tryz.prog 177 #[.string p0, .string p1] h Q :=
  calls_of_eq Tryz.func177 (by kernel_rfl) Tryz.ntmps177 (by kernel_rfl) (CC Tryz.call209 CN) orders (stringslite_CutPrefix_den p0 p1) hh
def slices_EqualFunc (p0 : Slc) (p1 : Slc) (p2 : Value) : HM (Bool × Unit) :=
  HM.ite (!(((p0.len : Nat) : Int) == ((p1.len : Nat) : Int))) (
  HM.pure (false, ())) (
  HM.bind (α := (Int × Unit) ⊕ (Bool × Unit)) (HM.loop (σ := Int × Unit) (τ := (Int × Unit) ⊕ (Bool × Unit)) (fun x2 =>
  HM.ite (decide (x2.1 < (((p0.len : Nat) : Int) : Int))) (
  HM.bind (α := Addr) (HM.idx p0.a p0.len x2.1 1) fun x3 =>
  HM.bind (α := ByteArray) (HM.load1 .str x3) fun x4 =>
  HM.bind (α := Addr) (HM.idx p1.a p1.len x2.1 1) fun x5 =>
  HM.bind (α := ByteArray) (HM.load1 .str x5) fun x6 =>
  HM.bind (α := Bool) (HM.callV1 Tryz.prog (.one .bool) p2 #[.string x4, .string x6]) fun x7 =>
  HM.ite (!x7) (
  HM.pure (.inr (.inr (false, ())))) (
  HM.pure (.inl (IntKind.wrap .i64 (x2.1 + 1), ())))) (
  HM.pure (.inr (.inl (x2.1, ()))))) (0, ())) (Sum.elim (fun x1 =>
  HM.pure (true, ())) HM.pure))
theorem slices_EqualFunc_den (p0 : Slc) (p1 : Slc) (p2 : Value) : denFn Tryz.prog [] 32 [0, 1, 2, 6, 7, 8, 9, 14, 15, 16, 17, 18, 30] [0, 1, 2, 7, 8, 9, 14, 15, 16, 17, 18, 30] Tryz.f178.results.toList [.one .bool] (bodyOf Tryz.f178) [Kind.val (.one .slc) p0, Kind.val (.one .slc) p1, Kind.val (.one .any) p2] = slices_EqualFunc p0 p1 p2 := by kernel_rfl
theorem slices_EqualFunc_calls (p0 : Slc) (p1 : Slc) (p2 : Value) (h : Heap) (Q : Value → Heap → Prop) (hh : slices_EqualFunc p0 p1 p2 h fun x h' => Q (.bool x.1) h') :
    HCalls Tryz.prog 178 #[.slice p0.a p0.len p0.cap, .slice p1.a p1.len p1.cap, p2] h Q :=
  calls_of_eq Tryz.func178 (by kernel_rfl) Tryz.ntmps178 (by kernel_rfl) CN orders (slices_EqualFunc_den p0 p1 p2) hh
def topic_Match_f1 (p0 : ByteArray) (p1 : ByteArray) : HM (Bool × Unit) :=
  HM.bind (α := Bool × Unit) (HM.ite (decide (p0 = (ByteArray.mk #[43]))) (
  HM.pure (true, ())) (
  HM.pure (decide (p0 = p1), ()))) fun x1 =>
  HM.pure (x1.1, ())
theorem topic_Match_f1_den (p0 : ByteArray) (p1 : ByteArray) : denFn Tryz.prog [] 12 [0, 1, 4] [0, 1] Tryz.f179.results.toList [.one .bool] (bodyOf Tryz.f179) [Kind.val (.one .str) p0, Kind.val (.one .str) p1] = topic_Match_f1 p0 p1 := by kernel_rfl
theorem topic_Match_f1_calls (p0 : ByteArray) (p1 : ByteArray) (h : Heap) (Q : Value → Heap → Prop) (hh : topic_Match_f1 p0 p1 h fun x h' => Q (.bool x.1) h') :
    HCalls Tryz.prog 179 #[.string p0, .string p1] h Q :=
  calls_of_eq Tryz.func179 (by kernel_rfl) Tryz.ntmps179 (by kernel_rfl) CN orders (topic_Match_f1_den p0 p1) hh
def text_next (p0 : ByteArray) : HM (Int × Unit) :=
  HM.bind (α := Int × Int × Unit) (HM.callN Tryz.prog [.one (.int .i32), .one (.int .i64)] 188 #[.string p0]) fun x1 =>
  HM.bind (α := Bool × Unit) (HM.ite (x1.1 == 0) (
  HM.pure (true, ())) (
  HM.ite (x1.1 == 65533) (
  HM.pure (decide (x1.2.1 < (2 : Int)), ())) (
  HM.pure (false, ())))) fun x2 =>
  HM.ite x2.1 (
  HM.pure (0, ())) (
  HM.pure (x1.2.1, ()))
theorem text_next_den (p0 : ByteArray) : denFn Tryz.prog [188] 21 [0, 2, 3, 4, 19] [0, 3, 4, 19] Tryz.f195.results.toList [.one (.int .i64)] (bodyOf Tryz.f195) [Kind.val (.one .str) p0] = text_next p0 := by kernel_rfl
theorem text_next_calls (p0 : ByteArray) (h : Heap) (Q : Value → Heap → Prop) (hh : text_next p0 h fun x h' => Q (.int .i64 x.1) h') :
    HCalls Tryz.prog 195 #[.string p0] h Q :=
  calls_of_eq Tryz.func195 (by kernel_rfl) Tryz.ntmps195 (by kernel_rfl) (CC Tryz.call188 CN) orders (text_next_den p0) hh
def ref02_Char (p0 : ByteArray) (p1 : Int) : HM (Int × Unit) :=
  HM.bind (α := Int) (HM.strIdx p0 p1) fun x1 =>
  HM.bind (α := Bool × Unit) (HM.ite (decide (1 ≤ ((IntKind.wrap .i64 x1) : Int))) (
  HM.pure (decide ((IntKind.wrap .i64 x1) ≤ (127 : Int)), ())) (
  HM.pure (false, ()))) fun x2 =>
  HM.ite x2.1 (
  HM.pure (1, ())) (
  HM.bind (α := Bool) (HM.call1 Tryz.prog (.one .bool) 217 #[.string p0, .int .i64 (IntKind.wrap .i64 (p1 + 1)), .int .i64 128, .int .i64 191]) fun x3 =>
  HM.bind (α := Bool) (HM.call1 Tryz.prog (.one .bool) 217 #[.string p0, .int .i64 (IntKind.wrap .i64 (p1 + 2)), .int .i64 128, .int .i64 191]) fun x4 =>
  HM.bind (α := Bool) (HM.call1 Tryz.prog (.one .bool) 217 #[.string p0, .int .i64 (IntKind.wrap .i64 (p1 + 3)), .int .i64 128, .int .i64 191]) fun x5 =>
  HM.bind (α := Bool × Unit) (HM.ite (decide (194 ≤ ((IntKind.wrap .i64 x1) : Int))) (
  HM.ite (decide ((IntKind.wrap .i64 x1) ≤ (223 : Int))) (
  HM.pure (x3, ())) (
  HM.pure (false, ()))) (
  HM.pure (false, ()))) fun x6 =>
  HM.ite x6.1 (
  HM.pure (2, ())) (
  HM.bind (α := Bool × Unit) (HM.ite (decide (224 ≤ ((IntKind.wrap .i64 x1) : Int))) (
  HM.ite (decide ((IntKind.wrap .i64 x1) ≤ (239 : Int))) (
  HM.ite x3 (
  HM.pure (x4, ())) (
  HM.pure (false, ()))) (
  HM.pure (false, ()))) (
  HM.pure (false, ()))) fun x7 =>
  HM.ite x7.1 (
  HM.bind (α := Bool) (HM.call1 Tryz.prog (.one .bool) 217 #[.string p0, .int .i64 (IntKind.wrap .i64 (p1 + 1)), .int .i64 160, .int .i64 191]) fun x8 =>
  HM.bind (α := Bool) (HM.call1 Tryz.prog (.one .bool) 217 #[.string p0, .int .i64 (IntKind.wrap .i64 (p1 + 1)), .int .i64 128, .int .i64 159]) fun x9 =>
  HM.bind (α := Bool × Unit) (HM.ite ((IntKind.wrap .i64 x1) == 224) (
  HM.ite (!x8) (
  HM.pure (true, ())) (
  HM.ite ((IntKind.wrap .i64 x1) == 237) (
  HM.pure (!x9, ())) (
  HM.pure (false, ())))) (
  HM.ite ((IntKind.wrap .i64 x1) == 237) (
  HM.pure (!x9, ())) (
  HM.pure (false, ())))) fun x10 =>
  HM.ite x10.1 (
  HM.pure (0, ())) (
  HM.pure (3, ()))) (
  HM.bind (α := Bool × Unit) (HM.ite (decide (240 ≤ ((IntKind.wrap .i64 x1) : Int))) (
  HM.ite (decide ((IntKind.wrap .i64 x1) ≤ (244 : Int))) (
  HM.ite x3 (
  HM.ite x4 (
  HM.pure (x5, ())) (
  HM.pure (false, ()))) (
  HM.pure (false, ()))) (
  HM.pure (false, ()))) (
  HM.pure (false, ()))) fun x11 =>
  HM.ite x11.1 (
  HM.bind (α := Bool) (HM.call1 Tryz.prog (.one .bool) 217 #[.string p0, .int .i64 (IntKind.wrap .i64 (p1 + 1)), .int .i64 144, .int .i64 191]) fun x12 =>
  HM.bind (α := Bool) (HM.call1 Tryz.prog (.one .bool) 217 #[.string p0, .int .i64 (IntKind.wrap .i64 (p1 + 1)), .int .i64 128, .int .i64 143]) fun x13 =>
  HM.bind (α := Bool × Unit) (HM.ite ((IntKind.wrap .i64 x1) == 240) (
  HM.ite (!x12) (
  HM.pure (true, ())) (
  HM.ite ((IntKind.wrap .i64 x1) == 244) (
  HM.pure (!x13, ())) (
  HM.pure (false, ())))) (
  HM.ite ((IntKind.wrap .i64 x1) == 244) (
  HM.pure (!x13, ())) (
  HM.pure (false, ())))) fun x14 =>
  HM.ite x14.1 (
  HM.pure (0, ())) (
  HM.pure (4, ()))) (
  HM.pure (0, ())))))
theorem ref02_Char_den (p0 : ByteArray) (p1 : Int) : denFn Tryz.prog [217] 115 [0, 1, 4, 5, 6, 7, 8, 9, 10, 11, 12, 22, 43, 55, 77, 92, 114] [0, 1, 5, 6, 7, 8, 9, 10, 11, 12, 22, 43, 55, 77, 92, 114] Tryz.f196.results.toList [.one (.int .i64)] (bodyOf Tryz.f196) [Kind.val (.one .str) p0, Kind.val (.one (.int .i64)) p1] = ref02_Char p0 p1 := by kernel_rfl
theorem ref02_Char_calls (p0 : ByteArray) (p1 : Int) (h : Heap) (Q : Value → Heap → Prop) (hh : ref02_Char p0 p1 h fun x h' => Q (.int .i64 x.1) h') :
    HCalls Tryz.prog 196 #[.string p0, .int .i64 p1] h Q :=
  calls_of_eq Tryz.func196 (by kernel_rfl) Tryz.ntmps196 (by kernel_rfl) (CC Tryz.call217 CN) orders (ref02_Char_den p0 p1) hh
def text_Put (p0 : ByteArray) : HM (ByteArray × Int × Unit) :=
  HM.bind (α := Int × Bool × Unit) (HM.callN Tryz.prog [.one (.int .i64), .one .bool] 157 #[.string p0]) fun x1 =>
  HM.ite x1.2.1 (
  HM.pure (ByteArray.mk #[], 129, ())) (
  HM.bind (α := ByteArray × Int × Unit) (HM.callN Tryz.prog [.one .str, .one (.int .u8)] 198 #[.string p0]) fun x2 =>
  HM.pure (x2.1, x2.2.1, ()))
theorem text_Put_den (p0 : ByteArray) : denFn Tryz.prog [157, 198] 16 [0, 2, 3, 5, 11] [0, 5, 11] Tryz.f197.results.toList [.one .str, .one (.int .u8)] (bodyOf Tryz.f197) [Kind.val (.one .str) p0] = text_Put p0 := by kernel_rfl
theorem text_Put_calls (p0 : ByteArray) (h : Heap) (Q : Value → Heap → Prop) (hh : text_Put p0 h fun x h' => Q (.tuple #[.string x.1, .int .u8 x.2.1]) h') :
    HCalls Tryz.prog 197 #[.string p0] h Q :=
  calls_of_eq Tryz.func197 (by kernel_rfl) Tryz.ntmps197 (by kernel_rfl) (CC Tryz.call157 (CC Tryz.call198 CN)) orders (text_Put_den p0) hh
def varint_Data (p0 : ByteArray) : HM (ByteArray × Int × Unit) :=
  HM.ite (decide (65535 < (((ByteArray.size p0 : Nat) : Int) : Int))) (
  HM.pure (ByteArray.mk #[], 149, ())) (
  HM.bind (α := ByteArray × Int × Unit) (HM.callN Tryz.prog [.one .str, .one (.int .u8)] 88 #[.int .i64 2, .int .i64 ((ByteArray.size p0 : Nat) : Int)]) fun x1 =>
  HM.req (ByteArray.size x1.1 + ByteArray.size p0 ≤ 9223372036854775807) <|
  HM.pure (x1.1 ++ p0, 0, ()))
theorem varint_Data_den (p0 : ByteArray) : denFn Tryz.prog [88] 18 [0, 2, 3, 4, 8] [0, 4, 8] Tryz.f198.results.toList [.one .str, .one (.int .u8)] (bodyOf Tryz.f198) [Kind.val (.one .str) p0] = varint_Data p0 := by kernel_rfl
theorem varint_Data_calls (p0 : ByteArray) (h : Heap) (Q : Value → Heap → Prop) (hh : varint_Data p0 h fun x h' => Q (.tuple #[.string x.1, .int .u8 x.2.1]) h') :
    HCalls Tryz.prog 198 #[.string p0] h Q :=
  calls_of_eq Tryz.func198 (by kernel_rfl) Tryz.ntmps198 (by kernel_rfl) (CC Tryz.call88 CN) orders (varint_Data_den p0) hh
def prop_KindOf (p0 : Int) : HM (Int × Unit) :=
  HM.bind (α := Bool × Unit) (HM.ite (p0 == 1) (
  HM.pure (p0 == 1, ())) (
  HM.bind (α := Bool × Unit) (HM.ite (p0 == 23) (
  HM.pure (p0 == 23, ())) (
  HM.bind (α := Bool × Unit) (HM.ite (p0 == 25) (
  HM.pure (p0 == 25, ())) (
  HM.bind (α := Bool × Unit) (HM.ite (p0 == 36) (
  HM.pure (p0 == 36, ())) (
  HM.bind (α := Bool × Unit) (HM.ite (p0 == 37) (
  HM.pure (p0 == 37, ())) (
  HM.bind (α := Bool × Unit) (HM.ite (p0 == 40) (
  HM.pure (p0 == 40, ())) (
  HM.bind (α := Bool × Unit) (HM.ite (p0 == 41) (
  HM.pure (p0 == 41, ())) (
  HM.pure (p0 == 42, ()))) fun x7 =>
  HM.pure (x7.1, ()))) fun x6 =>
  HM.pure (x6.1, ()))) fun x5 =>
  HM.pure (x5.1, ()))) fun x4 =>
  HM.pure (x4.1, ()))) fun x3 =>
  HM.pure (x3.1, ()))) fun x2 =>
  HM.pure (x2.1, ()))) fun x1 =>
  HM.ite x1.1 (
  HM.pure (1, ())) (
  HM.bind (α := Bool × Unit) (HM.ite (p0 == 19) (
  HM.pure (p0 == 19, ())) (
  HM.bind (α := Bool × Unit) (HM.ite (p0 == 33) (
  HM.pure (p0 == 33, ())) (
  HM.bind (α := Bool × Unit) (HM.ite (p0 == 34) (
  HM.pure (p0 == 34, ())) (
  HM.pure (p0 == 35, ()))) fun x10 =>
  HM.pure (x10.1, ()))) fun x9 =>
  HM.pure (x9.1, ()))) fun x8 =>
  HM.ite x8.1 (
  HM.pure (2, ())) (
  HM.bind (α := Bool × Unit) (HM.ite (p0 == 2) (
  HM.pure (p0 == 2, ())) (
  HM.bind (α := Bool × Unit) (HM.ite (p0 == 17) (
  HM.pure (p0 == 17, ())) (
  HM.bind (α := Bool × Unit) (HM.ite (p0 == 24) (
  HM.pure (p0 == 24, ())) (
  HM.pure (p0 == 39, ()))) fun x13 =>
  HM.pure (x13.1, ()))) fun x12 =>
  HM.pure (x12.1, ()))) fun x11 =>
  HM.ite x11.1 (
  HM.pure (3, ())) (
  HM.ite (p0 == 11) (
  HM.pure (4, ())) (
  HM.bind (α := Bool × Unit) (HM.ite (p0 == 9) (
  HM.pure (p0 == 9, ())) (
  HM.pure (p0 == 22, ()))) fun x14 =>
  HM.ite x14.1 (
  HM.pure (5, ())) (
  HM.bind (α := Bool × Unit) (HM.ite (p0 == 3) (
  HM.pure (p0 == 3, ())) (
  HM.bind (α := Bool × Unit) (HM.ite (p0 == 8) (
  HM.pure (p0 == 8, ())) (
  HM.bind (α := Bool × Unit) (HM.ite (p0 == 18) (
  HM.pure (p0 == 18, ())) (
  HM.bind (α := Bool × Unit) (HM.ite (p0 == 21) (
  HM.pure (p0 == 21, ())) (
  HM.bind (α := Bool × Unit) (HM.ite (p0 == 26) (
  HM.pure (p0 == 26, ())) (
  HM.bind (α := Bool × Unit) (HM.ite (p0 == 28) (
  HM.pure (p0 == 28, ())) (
  HM.pure (p0 == 31, ()))) fun x20 =>
  HM.pure (x20.1, ()))) fun x19 =>
  HM.pure (x19.1, ()))) fun x18 =>
  HM.pure (x18.1, ()))) fun x17 =>
  HM.pure (x17.1, ()))) fun x16 =>
  HM.pure (x16.1, ()))) fun x15 =>
  HM.ite x15.1 (
  HM.pure (6, ())) (
  HM.ite (p0 == 38) (
  HM.pure (7, ())) (
  HM.pure (0, ()))))))))
theorem prop_KindOf_den (p0 : Int) : denFn Tryz.prog [] 38 [0, 2, 3, 4, 13, 18, 23, 25, 28, 36] [0, 3, 4, 13, 18, 23, 25, 28, 36] Tryz.f199.results.toList [.one (.int .i64)] (bodyOf Tryz.f199) [Kind.val (.one (.int .i64)) p0] = prop_KindOf p0 := by kernel_rfl
theorem prop_KindOf_calls (p0 : Int) (h : Heap) (Q : Value → Heap → Prop) (hh : prop_KindOf p0 h fun x h' => Q (.int .i64 x.1) h') :
    HCalls Tryz.prog 199 #[.int .i64 p0] h Q :=
  calls_of_eq Tryz.func199 (by kernel_rfl) Tryz.ntmps199 (by kernel_rfl) CN orders (prop_KindOf_den p0) hh
def prop_has (p0 : Slc) (p1 : Int) : HM (Bool × Unit) :=
  HM.bind (α := (Int × Int × ByteArray × ByteArray × Unit) × Bool × Unit) (HM.callN Tryz.prog [.agg [.int .i64, .int .i64, .str, .str], .one .bool] 218 #[.slice p0.a p0.len p0.cap, .int .i64 p1]) fun x1 =>
  HM.bind (α := Nat) (HM.new (.cells #[.int .i64 0, .int .i64 0, .string (ByteArray.mk #[]), .string (ByteArray.mk #[])] 44)) fun x2 =>
  HM.bind (α := Unit) (HM.storeN ⟨x2, 0, none⟩ [.int .i64 x1.1.1, .int .i64 x1.1.2.1, .string x1.1.2.2.1, .string x1.1.2.2.2.1]) fun _ =>
  HM.bind (α := Bool × Unit) (HM.ite x1.2.1 (
  HM.pure (!(p1 == 38), ())) (
  HM.pure (false, ()))) fun x3 =>
  HM.pure (x3.1, ())
theorem prop_has_den (p0 : Slc) (p1 : Int) : denFn Tryz.prog [218] 18 [0, 1, 4, 6] [0, 1, 6] Tryz.f200.results.toList [.one .bool] (bodyOf Tryz.f200) [Kind.val (.one .slc) p0, Kind.val (.one (.int .i64)) p1] = prop_has p0 p1 := by kernel_rfl
theorem prop_has_calls (p0 : Slc) (p1 : Int) (h : Heap) (Q : Value → Heap → Prop) (hh : prop_has p0 p1 h fun x h' => Q (.bool x.1) h') :
    HCalls Tryz.prog 200 #[.slice p0.a p0.len p0.cap, .int .i64 p1] h Q :=
  calls_of_eq Tryz.func200 (by kernel_rfl) Tryz.ntmps200 (by kernel_rfl) (CC Tryz.call218 CN) orders (prop_has_den p0 p1) hh
def prop_Property_value (p0 : Int × Int × ByteArray × ByteArray × Unit) : HM (ByteArray × Int × Unit) :=
  HM.bind (α := Nat) (HM.new (.cells #[.int .i64 p0.1, .int .i64 p0.2.1, .string p0.2.2.1, .string p0.2.2.2.1] 44)) fun x1 =>
  HM.bind (α := Int) (HM.load1 (.int .i64) (Addr.add ⟨x1, 0, none⟩ 0)) fun x2 =>
  HM.bind (α := Int) (HM.call1 Tryz.prog (.one (.int .i64)) 199 #[.int .i64 x2]) fun x3 =>
  HM.ite (x3 == 4) (
  HM.bind (α := Int) (HM.load1 (.int .i64) (Addr.add ⟨x1, 0, none⟩ 1)) fun x4 =>
  HM.bind (α := ByteArray × Int × Unit) (HM.callN Tryz.prog [.one .str, .one (.int .u8)] 89 #[.int .i64 x4]) fun x5 =>
  HM.pure (x5.1, x5.2.1, ())) (
  HM.ite (x3 == 5) (
  HM.bind (α := ByteArray) (HM.load1 .str (Addr.add ⟨x1, 0, none⟩ 2)) fun x6 =>
  HM.bind (α := ByteArray × Int × Unit) (HM.callN Tryz.prog [.one .str, .one (.int .u8)] 198 #[.string x6]) fun x7 =>
  HM.pure (x7.1, x7.2.1, ())) (
  HM.ite (x3 == 6) (
  HM.bind (α := ByteArray) (HM.load1 .str (Addr.add ⟨x1, 0, none⟩ 2)) fun x8 =>
  HM.bind (α := ByteArray × Int × Unit) (HM.callN Tryz.prog [.one .str, .one (.int .u8)] 197 #[.string x8]) fun x9 =>
  HM.pure (x9.1, x9.2.1, ())) (
  HM.ite (x3 == 7) (
  HM.bind (α := ByteArray) (HM.load1 .str (Addr.add ⟨x1, 0, none⟩ 2)) fun x10 =>
  HM.bind (α := ByteArray × Int × Unit) (HM.callN Tryz.prog [.one .str, .one (.int .u8)] 197 #[.string x10]) fun x11 =>
  HM.ite (!(x11.2.1 == 0)) (
  HM.pure (ByteArray.mk #[], x11.2.1, ())) (
  HM.bind (α := ByteArray) (HM.load1 .str (Addr.add ⟨x1, 0, none⟩ 3)) fun x12 =>
  HM.bind (α := ByteArray × Int × Unit) (HM.callN Tryz.prog [.one .str, .one (.int .u8)] 197 #[.string x12]) fun x13 =>
  HM.req (ByteArray.size x11.1 + ByteArray.size x13.1 ≤ 9223372036854775807) <|
  HM.pure (x11.1 ++ x13.1, x13.2.1, ()))) (
  HM.bind (α := Int) (HM.load1 (.int .i64) (Addr.add ⟨x1, 0, none⟩ 1)) fun x14 =>
  HM.bind (α := Int) (HM.call1 Tryz.prog (.one (.int .i64)) 219 #[.int .i64 x3]) fun x15 =>
  HM.bind (α := Int) (HM.load1 (.int .i64) (Addr.add ⟨x1, 0, none⟩ 1)) fun x16 =>
  HM.req ((.int .i64 x16 : Value) = .int .i64 x14) <|
  HM.bind (α := ByteArray × Int × Unit) (HM.callN Tryz.prog [.one .str, .one (.int .u8)] 88 #[.int .i64 x15, .int .i64 x14]) fun x17 =>
  HM.pure (x17.1, x17.2.1, ())))))
theorem prop_Property_value_den (p0 : Int × Int × ByteArray × ByteArray × Unit) : denFn Tryz.prog [199, 89, 198, 197, 219, 88] 61 [0, 1, 2, 3, 4, 5, 6, 7, 11, 19, 26, 33, 40, 49] [0, 1, 4, 5, 6, 7, 11, 19, 26, 33, 40, 49] Tryz.f201.results.toList [.one .str, .one (.int .u8)] (bodyOf Tryz.f201) [Kind.val (.agg [.int .i64, .int .i64, .str, .str]) p0] = prop_Property_value p0 := by kernel_rfl
theorem prop_Property_value_calls (p0 : Int × Int × ByteArray × ByteArray × Unit) (h : Heap) (Q : Value → Heap → Prop) (hh : prop_Property_value p0 h fun x h' => Q (.tuple #[.string x.1, .int .u8 x.2.1]) h') :
    HCalls Tryz.prog 201 #[.agg #[.int .i64 p0.1, .int .i64 p0.2.1, .string p0.2.2.1, .string p0.2.2.2.1]] h Q :=
  calls_of_eq Tryz.func201 (by kernel_rfl) Tryz.ntmps201 (by kernel_rfl) (CC Tryz.call199 (CC Tryz.call89 (CC Tryz.call198 (CC Tryz.call197 (CC Tryz.call219 (CC Tryz.call88 CN)))))) orders (prop_Property_value_den p0) hh
def slices_IndexFunc_Property (p0 : Slc) (p1 : Value) : HM (Int × Unit) :=
  HM.bind (α := (Int × Unit) ⊕ (Int × Unit)) (HM.loop (σ := Int × Unit) (τ := (Int × Unit) ⊕ (Int × Unit)) (fun x2 =>
  HM.ite (decide (x2.1 < (((p0.len : Nat) : Int) : Int))) (
  HM.bind (α := Addr) (HM.idx p0.a p0.len x2.1 4) fun x3 =>
  HM.bind (α := Int × Int × ByteArray × ByteArray × Unit) (HM.loadN [.int .i64, .int .i64, .str, .str] x3) fun x4 =>
  HM.bind (α := Bool) (HM.callV1 Tryz.prog (.one .bool) p1 #[.agg #[.int .i64 x4.1, .int .i64 x4.2.1, .string x4.2.2.1, .string x4.2.2.2.1]]) fun x5 =>
  HM.ite x5 (
  HM.pure (.inr (.inr (x2.1, ())))) (
  HM.pure (.inl (IntKind.wrap .i64 (x2.1 + 1), ())))) (
  HM.pure (.inr (.inl (x2.1, ()))))) (0, ())) (Sum.elim (fun x1 =>
  HM.pure ((-1), ())) HM.pure)
theorem slices_IndexFunc_Property_den (p0 : Slc) (p1 : Value) : denFn Tryz.prog [] 19 [0, 1, 4, 5, 7, 8, 9, 16] [0, 1, 5, 7, 8, 9, 16] Tryz.f202.results.toList [.one (.int .i64)] (bodyOf Tryz.f202) [Kind.val (.one .slc) p0, Kind.val (.one .any) p1] = slices_IndexFunc_Property p0 p1 := by kernel_rfl
theorem slices_IndexFunc_Property_calls (p0 : Slc) (p1 : Value) (h : Heap) (Q : Value → Heap → Prop) (hh : slices_IndexFunc_Property p0 p1 h fun x h' => Q (.int .i64 x.1) h') :
    HCalls Tryz.prog 202 #[.slice p0.a p0.len p0.cap, p1] h Q :=
  calls_of_eq Tryz.func202 (by kernel_rfl) Tryz.ntmps202 (by kernel_rfl) CN orders (slices_IndexFunc_Property_den p0 p1) hh
def slices_Contains (p0 : Slc) (p1 : Int) : HM (Bool × Unit) :=
  HM.bind (α := Int) (HM.call1 Tryz.prog (.one (.int .i64)) 220 #[.slice p0.a p0.len p0.cap, .int .i64 p1]) fun x1 =>
  HM.pure (decide (0 ≤ (x1 : Int)), ())
theorem slices_Contains_den (p0 : Slc) (p1 : Int) : denFn Tryz.prog [220] 9 [0, 1, 4] [0, 1] Tryz.f203.results.toList [.one .bool] (bodyOf Tryz.f203) [Kind.val (.one .slc) p0, Kind.val (.one (.int .i64)) p1] = slices_Contains p0 p1 := by kernel_rfl
theorem slices_Contains_calls (p0 : Slc) (p1 : Int) (h : Heap) (Q : Value → Heap → Prop) (hh : slices_Contains p0 p1 h fun x h' => Q (.bool x.1) h') :
    HCalls Tryz.prog 203 #[.slice p0.a p0.len p0.cap, .int .i64 p1] h Q :=
  calls_of_eq Tryz.func203 (by kernel_rfl) Tryz.ntmps203 (by kernel_rfl) (CC Tryz.call220 CN) orders (slices_Contains_den p0 p1) hh
def ref01_Data (p0 : ByteArray) : HM (ByteArray × Int × Unit) :=
  HM.ite (decide (65535 < (((ByteArray.size p0 : Nat) : Int) : Int))) (
  HM.pure (ByteArray.mk #[], 149, ())) (
  HM.bind (α := ByteArray × Int × Unit) (HM.callN Tryz.prog [.one .str, .one (.int .i64)] 93 #[.int .i64 2, .int .i64 ((ByteArray.size p0 : Nat) : Int)]) fun x1 =>
  HM.req (ByteArray.size x1.1 + ByteArray.size p0 ≤ 9223372036854775807) <|
  HM.pure (x1.1 ++ p0, 0, ()))
theorem ref01_Data_den (p0 : ByteArray) : denFn Tryz.prog [93] 18 [0, 2, 3, 4, 8] [0, 4, 8] Tryz.f204.results.toList [.one .str, .one (.int .i64)] (bodyOf Tryz.f204) [Kind.val (.one .str) p0] = ref01_Data p0 := by kernel_rfl
theorem ref01_Data_calls (p0 : ByteArray) (h : Heap) (Q : Value → Heap → Prop) (hh : ref01_Data p0 h fun x h' => Q (.tuple #[.string x.1, .int .i64 x.2.1]) h') :
    HCalls Tryz.prog 204 #[.string p0] h Q :=
  calls_of_eq Tryz.func204 (by kernel_rfl) Tryz.ntmps204 (by kernel_rfl) (CC Tryz.call93 CN) orders (ref01_Data_den p0) hh
def ref04_KindOf (p0 : Int) : HM (Int × Unit) :=
  HM.bind (α := Nat) (HM.new (.cells #[.int .i64 1, .int .i64 23, .int .i64 25, .int .i64 36, .int .i64 37, .int .i64 40, .int .i64 41, .int .i64 42] 3)) fun x1 =>
  HM.bind (α := Bool) (HM.call1 Tryz.prog (.one .bool) 221 #[.int .i64 p0, .slice (some ⟨x1, 0, none⟩) 8 8]) fun x2 =>
  HM.bind (α := Nat) (HM.new (.cells #[.int .i64 19, .int .i64 33, .int .i64 34, .int .i64 35] 3)) fun x3 =>
  HM.bind (α := Bool) (HM.call1 Tryz.prog (.one .bool) 221 #[.int .i64 p0, .slice (some ⟨x3, 0, none⟩) 4 4]) fun x4 =>
  HM.bind (α := Nat) (HM.new (.cells #[.int .i64 2, .int .i64 17, .int .i64 24, .int .i64 39] 3)) fun x5 =>
  HM.bind (α := Bool) (HM.call1 Tryz.prog (.one .bool) 221 #[.int .i64 p0, .slice (some ⟨x5, 0, none⟩) 4 4]) fun x6 =>
  HM.bind (α := Nat) (HM.new (.cells #[.int .i64 9, .int .i64 22] 3)) fun x7 =>
  HM.bind (α := Bool) (HM.call1 Tryz.prog (.one .bool) 221 #[.int .i64 p0, .slice (some ⟨x7, 0, none⟩) 2 2]) fun x8 =>
  HM.bind (α := Nat) (HM.new (.cells #[.int .i64 3, .int .i64 8, .int .i64 18, .int .i64 21, .int .i64 26, .int .i64 28, .int .i64 31] 3)) fun x9 =>
  HM.bind (α := Bool) (HM.call1 Tryz.prog (.one .bool) 221 #[.int .i64 p0, .slice (some ⟨x9, 0, none⟩) 7 7]) fun x10 =>
  HM.ite x2 (
  HM.pure (1, ())) (
  HM.ite x4 (
  HM.pure (2, ())) (
  HM.ite x6 (
  HM.pure (3, ())) (
  HM.ite (p0 == 11) (
  HM.pure (4, ())) (
  HM.ite x8 (
  HM.pure (5, ())) (
  HM.ite x10 (
  HM.pure (6, ())) (
  HM.ite (p0 == 38) (
  HM.pure (7, ())) (
  HM.pure (0, ()))))))))
theorem ref04_KindOf_den (p0 : Int) : denFn Tryz.prog [221] 32 [0, 2, 3, 4, 5, 6, 7, 23, 24, 25, 27, 28, 29, 31] [0, 3, 4, 5, 6, 7, 23, 24, 25, 27, 28, 29, 31] Tryz.f205.results.toList [.one (.int .i64)] (bodyOf Tryz.f205) [Kind.val (.one (.int .i64)) p0] = ref04_KindOf p0 := by kernel_rfl
theorem ref04_KindOf_calls (p0 : Int) (h : Heap) (Q : Value → Heap → Prop) (hh : ref04_KindOf p0 h fun x h' => Q (.int .i64 x.1) h') :
    HCalls Tryz.prog 205 #[.int .i64 p0] h Q :=
  calls_of_eq Tryz.func205 (by kernel_rfl) Tryz.ntmps205 (by kernel_rfl) (CC Tryz.call221 CN) orders (ref04_KindOf_den p0) hh
def ref04_twice (p0 : Slc) (p1 : Int) (p2 : Int) : HM (Bool × Unit) :=
  HM.ite (p2 == 38) (
  HM.pure (false, ())) (
  HM.bind (α := (Int × Unit) ⊕ (Bool × Unit)) (HM.loop (σ := Int × Unit) (τ := (Int × Unit) ⊕ (Bool × Unit)) (fun x2 =>
  HM.ite (decide (x2.1 < (p1 : Int))) (
  HM.bind (α := Addr) (HM.idx p0.a p0.len x2.1 4) fun x3 =>
  HM.bind (α := Int) (HM.load1 (.int .i64) (Addr.add x3 0)) fun x4 =>
  HM.ite (x4 == p2) (
  HM.pure (.inr (.inr (true, ())))) (
  HM.pure (.inl (IntKind.wrap .i64 (x2.1 + 1), ())))) (
  HM.pure (.inr (.inl (x2.1, ()))))) (0, ())) (Sum.elim (fun x1 =>
  HM.pure (false, ())) HM.pure))
theorem ref04_twice_den (p0 : Slc) (p1 : Int) (p2 : Int) : denFn Tryz.prog [] 22 [0, 1, 2, 6, 7, 9, 12, 21] [0, 1, 2, 7, 9, 12, 21] Tryz.f206.results.toList [.one .bool] (bodyOf Tryz.f206) [Kind.val (.one .slc) p0, Kind.val (.one (.int .i64)) p1, Kind.val (.one (.int .i64)) p2] = ref04_twice p0 p1 p2 := by kernel_rfl
theorem ref04_twice_calls (p0 : Slc) (p1 : Int) (p2 : Int) (h : Heap) (Q : Value → Heap → Prop) (hh : ref04_twice p0 p1 p2 h fun x h' => Q (.bool x.1) h') :
    HCalls Tryz.prog 206 #[.slice p0.a p0.len p0.cap, .int .i64 p1, .int .i64 p2] h Q :=
  calls_of_eq Tryz.func206 (by kernel_rfl) Tryz.ntmps206 (by kernel_rfl) CN orders (ref04_twice_den p0 p1 p2) hh
def ref04_value (p0 : Int × Int × ByteArray × ByteArray × Unit) : HM (ByteArray × Int × Unit) :=
  HM.bind (α := Nat) (HM.new (.cells #[.int .i64 p0.1, .int .i64 p0.2.1, .string p0.2.2.1, .string p0.2.2.2.1] 45)) fun x1 =>
  HM.bind (α := Int) (HM.load1 (.int .i64) (Addr.add ⟨x1, 0, none⟩ 0)) fun x2 =>
  HM.bind (α := Int) (HM.call1 Tryz.prog (.one (.int .i64)) 205 #[.int .i64 x2]) fun x3 =>
  HM.ite (x3 == 4) (
  HM.bind (α := Int) (HM.load1 (.int .i64) (Addr.add ⟨x1, 0, none⟩ 1)) fun x4 =>
  HM.bind (α := ByteArray × Int × Unit) (HM.callN Tryz.prog [.one .str, .one (.int .i64)] 94 #[.int .i64 x4]) fun x5 =>
  HM.pure (x5.1, x5.2.1, ())) (
  HM.ite (x3 == 5) (
  HM.bind (α := ByteArray) (HM.load1 .str (Addr.add ⟨x1, 0, none⟩ 2)) fun x6 =>
  HM.bind (α := ByteArray × Int × Unit) (HM.callN Tryz.prog [.one .str, .one (.int .i64)] 204 #[.string x6]) fun x7 =>
  HM.pure (x7.1, x7.2.1, ())) (
  HM.ite (x3 == 6) (
  HM.bind (α := ByteArray) (HM.load1 .str (Addr.add ⟨x1, 0, none⟩ 2)) fun x8 =>
  HM.bind (α := ByteArray × Int × Unit) (HM.callN Tryz.prog [.one .str, .one (.int .i64)] 175 #[.string x8]) fun x9 =>
  HM.pure (x9.1, x9.2.1, ())) (
  HM.ite (x3 == 7) (
  HM.bind (α := ByteArray) (HM.load1 .str (Addr.add ⟨x1, 0, none⟩ 2)) fun x10 =>
  HM.bind (α := ByteArray × Int × Unit) (HM.callN Tryz.prog [.one .str, .one (.int .i64)] 175 #[.string x10]) fun x11 =>
  HM.ite (!(x11.2.1 == 0)) (
  HM.pure (ByteArray.mk #[], x11.2.1, ())) (
  HM.bind (α := ByteArray) (HM.load1 .str (Addr.add ⟨x1, 0, none⟩ 3)) fun x12 =>
  HM.bind (α := ByteArray × Int × Unit) (HM.callN Tryz.prog [.one .str, .one (.int .i64)] 175 #[.string x12]) fun x13 =>
  HM.ite (!(x13.2.1 == 0)) (
  HM.pure (ByteArray.mk #[], x13.2.1, ())) (
  HM.req (ByteArray.size x11.1 + ByteArray.size x13.1 ≤ 9223372036854775807) <|
  HM.pure (x11.1 ++ x13.1, 0, ())))) (
  HM.bind (α := Int) (HM.call1 Tryz.prog (.one (.int .i64)) 222 #[.int .i64 x3]) fun x14 =>
  HM.bind (α := Int) (HM.load1 (.int .i64) (Addr.add ⟨x1, 0, none⟩ 1)) fun x15 =>
  HM.bind (α := ByteArray × Int × Unit) (HM.callN Tryz.prog [.one .str, .one (.int .i64)] 93 #[.int .i64 x14, .int .i64 x15]) fun x16 =>
  HM.pure (x16.1, x16.2.1, ())))))
theorem ref04_value_den (p0 : Int × Int × ByteArray × ByteArray × Unit) : denFn Tryz.prog [205, 94, 204, 175, 222, 93] 66 [0, 1, 2, 3, 4, 5, 6, 7, 8, 9, 13, 14, 21, 28, 35, 44, 53] [0, 1, 4, 5, 6, 7, 8, 9, 13, 14, 21, 28, 35, 44, 53] Tryz.f207.results.toList [.one .str, .one (.int .i64)] (bodyOf Tryz.f207) [Kind.val (.agg [.int .i64, .int .i64, .str, .str]) p0] = ref04_value p0 := by kernel_rfl
theorem ref04_value_calls (p0 : Int × Int × ByteArray × ByteArray × Unit) (h : Heap) (Q : Value → Heap → Prop) (hh : ref04_value p0 h fun x h' => Q (.tuple #[.string x.1, .int .i64 x.2.1]) h') :
    HCalls Tryz.prog 207 #[.agg #[.int .i64 p0.1, .int .i64 p0.2.1, .string p0.2.2.1, .string p0.2.2.2.1]] h Q :=
  calls_of_eq Tryz.func207 (by kernel_rfl) Tryz.ntmps207 (by kernel_rfl) (CC Tryz.call205 (CC Tryz.call94 (CC Tryz.call204 (CC Tryz.call175 (CC Tryz.call222 (CC Tryz.call93 CN)))))) orders (ref04_value_den p0) hh
def ref05_Allowed (p0 : Int) (p1 : Int) : HM (Bool × Unit) :=
  HM.ite (p0 == 0) (
  HM.bind (α := Nat) (HM.new (.cells #[.int .i64 1, .int .i64 2, .int .i64 3, .int .i64 8, .int .i64 9, .int .i64 24, .int .i64 38] 3)) fun x1 =>
  HM.bind (α := Bool) (HM.call1 Tryz.prog (.one .bool) 223 #[.int .i64 p1, .slice (some ⟨x1, 0, none⟩) 7 7]) fun x2 =>
  HM.pure (x2, ())) (
  HM.ite (p0 == 1) (
  HM.bind (α := Nat) (HM.new (.cells #[.int .i64 17, .int .i64 21, .int .i64 22, .int .i64 23, .int .i64 25, .int .i64 33, .int .i64 34, .int .i64 38, .int .i64 39] 3)) fun x3 =>
  HM.bind (α := Bool) (HM.call1 Tryz.prog (.one .bool) 223 #[.int .i64 p1, .slice (some ⟨x3, 0, none⟩) 9 9]) fun x4 =>
  HM.pure (x4, ())) (
  HM.ite (p0 == 2) (
  HM.bind (α := Bool × Unit) (HM.bind (α := Nat) (HM.new (.cells #[.int .i64 17, .int .i64 18, .int .i64 19, .int .i64 21, .int .i64 22, .int .i64 26, .int .i64 28, .int .i64 31, .int .i64 33, .int .i64 34] 3)) fun x5 =>
  HM.bind (α := Bool) (HM.call1 Tryz.prog (.one .bool) 223 #[.int .i64 p1, .slice (some ⟨x5, 0, none⟩) 10 10]) fun x6 =>
  HM.ite x6 (
  HM.pure (true, ())) (
  HM.ite (decide (36 ≤ (p1 : Int))) (
  HM.pure (decide (p1 ≤ (42 : Int)), ())) (
  HM.pure (false, ())))) fun x7 =>
  HM.pure (x7.1, ())) (
  HM.ite (p0 == 3) (
  HM.bind (α := Nat) (HM.new (.cells #[.int .i64 1, .int .i64 2, .int .i64 3, .int .i64 8, .int .i64 9, .int .i64 11, .int .i64 35, .int .i64 38] 3)) fun x8 =>
  HM.bind (α := Bool) (HM.call1 Tryz.prog (.one .bool) 223 #[.int .i64 p1, .slice (some ⟨x8, 0, none⟩) 8 8]) fun x9 =>
  HM.pure (x9, ())) (
  HM.bind (α := Bool × Unit) (HM.ite (p0 == 4) (
  HM.pure (p0 == 4, ())) (
  HM.bind (α := Bool × Unit) (HM.ite (p0 == 5) (
  HM.pure (p0 == 5, ())) (
  HM.bind (α := Bool × Unit) (HM.ite (p0 == 6) (
  HM.pure (p0 == 6, ())) (
  HM.bind (α := Bool × Unit) (HM.ite (p0 == 7) (
  HM.pure (p0 == 7, ())) (
  HM.bind (α := Bool × Unit) (HM.ite (p0 == 9) (
  HM.pure (p0 == 9, ())) (
  HM.pure (p0 == 11, ()))) fun x14 =>
  HM.pure (x14.1, ()))) fun x13 =>
  HM.pure (x13.1, ()))) fun x12 =>
  HM.pure (x12.1, ()))) fun x11 =>
  HM.pure (x11.1, ()))) fun x10 =>
  HM.ite x10.1 (
  HM.bind (α := Bool × Unit) (HM.ite (p1 == 31) (
  HM.pure (true, ())) (
  HM.pure (p1 == 38, ()))) fun x15 =>
  HM.pure (x15.1, ())) (
  HM.ite (p0 == 8) (
  HM.bind (α := Bool × Unit) (HM.ite (p1 == 11) (
  HM.pure (true, ())) (
  HM.pure (p1 == 38, ()))) fun x16 =>
  HM.pure (x16.1, ())) (
  HM.ite (p0 == 10) (
  HM.pure (p1 == 38, ())) (
  HM.ite (p0 == 14) (
  HM.bind (α := Nat) (HM.new (.cells #[.int .i64 17, .int .i64 28, .int .i64 31, .int .i64 38] 3)) fun x17 =>
  HM.bind (α := Bool) (HM.call1 Tryz.prog (.one .bool) 223 #[.int .i64 p1, .slice (some ⟨x17, 0, none⟩) 4 4]) fun x18 =>
  HM.pure (x18, ())) (
  HM.ite (p0 == 15) (
  HM.bind (α := Nat) (HM.new (.cells #[.int .i64 21, .int .i64 22, .int .i64 31, .int .i64 38] 3)) fun x19 =>
  HM.bind (α := Bool) (HM.call1 Tryz.prog (.one .bool) 223 #[.int .i64 p1, .slice (some ⟨x19, 0, none⟩) 4 4]) fun x20 =>
  HM.pure (x20, ())) (
  HM.pure (false, ()))))))))))
theorem ref05_Allowed_den (p0 : Int) (p1 : Int) : denFn Tryz.prog [223] 69 [0, 1, 4, 5, 6, 11, 16, 29, 34, 47, 55, 59, 64] [0, 1, 5, 6, 11, 16, 29, 34, 47, 55, 59, 64] Tryz.f208.results.toList [.one .bool] (bodyOf Tryz.f208) [Kind.val (.one (.int .i64)) p0, Kind.val (.one (.int .i64)) p1] = ref05_Allowed p0 p1 := by kernel_rfl
theorem ref05_Allowed_calls (p0 : Int) (p1 : Int) (h : Heap) (Q : Value → Heap → Prop) (hh : ref05_Allowed p0 p1 h fun x h' => Q (.bool x.1) h') :
    HCalls Tryz.prog 208 #[.int .i64 p0, .int .i64 p1] h Q :=
  calls_of_eq Tryz.func208 (by kernel_rfl) Tryz.ntmps208 (by kernel_rfl) (CC Tryz.call223 CN) orders (ref05_Allowed_den p0 p1) hh
def stringslite_HasPrefix (p0 : ByteArray) (p1 : ByteArray) : HM (Bool × Unit) :=
  HM.bind (α := Bool × Unit) (HM.ite (decide (((ByteArray.size p1 : Nat) : Int) ≤ (((ByteArray.size p0 : Nat) : Int) : Int))) (
  HM.bind (α := ByteArray) (HM.substr p0 none (some ((ByteArray.size p1 : Nat) : Int))) fun x1 =>
  HM.pure (decide (x1 = p1), ())) (
  HM.pure (false, ()))) fun x2 =>
  HM.pure (x2.1, ())
theorem stringslite_HasPrefix_den (p0 : ByteArray) (p1 : ByteArray) : denFn Tryz.prog [] 18 [0, 1, 4] [0, 1] Tryz.f209.results.toList [.one .bool] (bodyOf Tryz.f209) [Kind.val (.one .str) p0, Kind.val (.one .str) p1] = stringslite_HasPrefix p0 p1 := by kernel_rfl
theorem stringslite_HasPrefix_calls (p0 : ByteArray) (p1 : ByteArray) (h : Heap) (Q : Value → Heap → Prop) (hh : stringslite_HasPrefix p0 p1 h fun x h' => Q (.bool x.1) h') :
    HCalls Tryz.prog 209 #[.string p0, .string p1] h Q :=
  calls_of_eq Tryz.func209 (by kernel_rfl) Tryz.ntmps209 (by kernel_rfl) CN orders (stringslite_HasPrefix_den p0 p1) hh
def ref02_tail (p0 : ByteArray) (p1 : Int) (p2 : Int) (p3 : Int) : HM (Bool × Unit) :=
  HM.bind (α := Bool × Unit) (HM.ite (decide (p1 < (((ByteArray.size p0 : Nat) : Int) : Int))) (
  HM.bind (α := Int) (HM.strIdx p0 p1) fun x1 =>
  HM.ite (decide (p2 ≤ ((IntKind.wrap .i64 x1) : Int))) (
  HM.bind (α := Int) (HM.strIdx p0 p1) fun x2 =>
  HM.pure (decide ((IntKind.wrap .i64 x2) ≤ (p3 : Int)), ())) (
  HM.pure (false, ()))) (
  HM.pure (false, ()))) fun x3 =>
  HM.pure (x3.1, ())
theorem ref02_tail_den (p0 : ByteArray) (p1 : Int) (p2 : Int) (p3 : Int) : denFn Tryz.prog [] 29 [0, 1, 2, 3, 8] [0, 1, 2, 3] Tryz.f217.results.toList [.one .bool] (bodyOf Tryz.f217) [Kind.val (.one .str) p0, Kind.val (.one (.int .i64)) p1, Kind.val (.one (.int .i64)) p2, Kind.val (.one (.int .i64)) p3] = ref02_tail p0 p1 p2 p3 := by kernel_rfl
theorem ref02_tail_calls (p0 : ByteArray) (p1 : Int) (p2 : Int) (p3 : Int) (h : Heap) (Q : Value → Heap → Prop) (hh : ref02_tail p0 p1 p2 p3 h fun x h' => Q (.bool x.1) h') :
    HCalls Tryz.prog 217 #[.string p0, .int .i64 p1, .int .i64 p2, .int .i64 p3] h Q :=
  calls_of_eq Tryz.func217 (by kernel_rfl) Tryz.ntmps217 (by kernel_rfl) CN orders (ref02_tail_den p0 p1 p2 p3) hh
def prop_Find (p0 : Slc) (p1 : Int) : HM ((Int × Int × ByteArray × ByteArray × Unit) × Bool × Unit) :=
  HM.bind (α := Nat) (HM.new (.cells #[.int .i64 p1] 3)) fun x1 =>
  HM.bind (α := Nat) (HM.new (.cells #[.int .i64 0, .int .i64 0, .string (ByteArray.mk #[]), .string (ByteArray.mk #[])] 44)) fun x2 =>
  HM.bind (α := Int) (HM.call1 Tryz.prog (.one (.int .i64)) 202 #[.slice p0.a p0.len p0.cap, .func (.func 226) #[] #[.pointer (some ⟨x1, 0, none⟩)]]) fun x3 =>
  HM.ite (decide (x3 < (0 : Int))) (
  HM.bind (α := Unit) (HM.storeN ⟨x2, 0, none⟩ [.int .i64 0, .int .i64 0, .string (ByteArray.mk #[]), .string (ByteArray.mk #[])]) fun _ =>
  HM.bind (α := Int × Int × ByteArray × ByteArray × Unit) (HM.loadN [.int .i64, .int .i64, .str, .str] ⟨x2, 0, none⟩) fun x4 =>
  HM.pure ((x4.1, x4.2.1, x4.2.2.1, x4.2.2.2.1, ()), false, ())) (
  HM.bind (α := Addr) (HM.idx p0.a p0.len x3 4) fun x5 =>
  HM.bind (α := Int × Int × ByteArray × ByteArray × Unit) (HM.loadN [.int .i64, .int .i64, .str, .str] x5) fun x6 =>
  HM.bind (α := Unit) (HM.storeN ⟨x2, 0, none⟩ [.int .i64 x6.1, .int .i64 x6.2.1, .string x6.2.2.1, .string x6.2.2.2.1]) fun _ =>
  HM.bind (α := Int × Int × ByteArray × ByteArray × Unit) (HM.loadN [.int .i64, .int .i64, .str, .str] ⟨x2, 0, none⟩) fun x7 =>
  HM.pure ((x7.1, x7.2.1, x7.2.2.1, x7.2.2.2.1, ()), true, ()))
theorem prop_Find_den (p0 : Slc) (p1 : Int) : denFn Tryz.prog [202] 17 [0, 1, 3, 4, 5, 6, 11] [0, 1, 3, 4, 6, 11] Tryz.f218.results.toList [.agg [.int .i64, .int .i64, .str, .str], .one .bool] (bodyOf Tryz.f218) [Kind.val (.one .slc) p0, Kind.val (.one (.int .i64)) p1] = prop_Find p0 p1 := by kernel_rfl
theorem prop_Find_calls (p0 : Slc) (p1 : Int) (h : Heap) (Q : Value → Heap → Prop) (hh : prop_Find p0 p1 h fun x h' => Q (.tuple #[.agg #[.int .i64 x.1.1, .int .i64 x.1.2.1, .string x.1.2.2.1, .string x.1.2.2.2.1], .bool x.2.1]) h') :
    HCalls Tryz.prog 218 #[.slice p0.a p0.len p0.cap, .int .i64 p1] h Q :=
  calls_of_eq Tryz.func218 (by kernel_rfl) Tryz.ntmps218 (by kernel_rfl) (CC Tryz.call202 CN) orders (prop_Find_den p0 p1) hh
def slices_Index (p0 : Slc) (p1 : Int) : HM (Int × Unit) :=
  HM.bind (α := (Int × Unit) ⊕ (Int × Unit)) (HM.loop (σ := Int × Unit) (τ := (Int × Unit) ⊕ (Int × Unit)) (fun x2 =>
  HM.ite (decide (x2.1 < (((p0.len : Nat) : Int) : Int))) (
  HM.bind (α := Addr) (HM.idx p0.a p0.len x2.1 1) fun x3 =>
  HM.bind (α := Int) (HM.load1 (.int .i64) x3) fun x4 =>
  HM.ite (p1 == x4) (
  HM.pure (.inr (.inr (x2.1, ())))) (
  HM.pure (.inl (IntKind.wrap .i64 (x2.1 + 1), ())))) (
  HM.pure (.inr (.inl (x2.1, ()))))) (0, ())) (Sum.elim (fun x1 =>
  HM.pure ((-1), ())) HM.pure)
theorem slices_Index_den (p0 : Slc) (p1 : Int) : denFn Tryz.prog [] 19 [0, 1, 4, 5, 7, 8, 9, 16] [0, 1, 5, 7, 8, 9, 16] Tryz.f220.results.toList [.one (.int .i64)] (bodyOf Tryz.f220) [Kind.val (.one .slc) p0, Kind.val (.one (.int .i64)) p1] = slices_Index p0 p1 := by kernel_rfl
theorem slices_Index_calls (p0 : Slc) (p1 : Int) (h : Heap) (Q : Value → Heap → Prop) (hh : slices_Index p0 p1 h fun x h' => Q (.int .i64 x.1) h') :
    HCalls Tryz.prog 220 #[.slice p0.a p0.len p0.cap, .int .i64 p1] h Q :=
  calls_of_eq Tryz.func220 (by kernel_rfl) Tryz.ntmps220 (by kernel_rfl) CN orders (slices_Index_den p0 p1) hh
def ref04_in (p0 : Int) (p1 : Slc) : HM (Bool × Unit) :=
  HM.bind (α := (Int × Unit) ⊕ (Bool × Unit)) (HM.loop (σ := Int × Unit) (τ := (Int × Unit) ⊕ (Bool × Unit)) (fun x2 =>
  HM.ite (decide (x2.1 < (((p1.len : Nat) : Int) : Int))) (
  HM.bind (α := Addr) (HM.idx p1.a p1.len x2.1 1) fun x3 =>
  HM.bind (α := Int) (HM.load1 (.int .i64) x3) fun x4 =>
  HM.ite (x4 == p0) (
  HM.pure (.inr (.inr (true, ())))) (
  HM.pure (.inl (IntKind.wrap .i64 (x2.1 + 1), ())))) (
  HM.pure (.inr (.inl (x2.1, ()))))) (0, ())) (Sum.elim (fun x1 =>
  HM.pure (false, ())) HM.pure)
theorem ref04_in_den (p0 : Int) (p1 : Slc) : denFn Tryz.prog [] 18 [0, 1, 4, 5, 9, 17] [0, 1, 5, 9, 17] Tryz.f221.results.toList [.one .bool] (bodyOf Tryz.f221) [Kind.val (.one (.int .i64)) p0, Kind.val (.one .slc) p1] = ref04_in p0 p1 := by kernel_rfl
theorem ref04_in_calls (p0 : Int) (p1 : Slc) (h : Heap) (Q : Value → Heap → Prop) (hh : ref04_in p0 p1 h fun x h' => Q (.bool x.1) h') :
    HCalls Tryz.prog 221 #[.int .i64 p0, .slice p1.a p1.len p1.cap] h Q :=
  calls_of_eq Tryz.func221 (by kernel_rfl) Tryz.ntmps221 (by kernel_rfl) CN orders (ref04_in_den p0 p1) hh
def ref05_in (p0 : Int) (p1 : Slc) : HM (Bool × Unit) :=
  HM.bind (α := (Int × Unit) ⊕ (Bool × Unit)) (HM.loop (σ := Int × Unit) (τ := (Int × Unit) ⊕ (Bool × Unit)) (fun x2 =>
  HM.ite (decide (x2.1 < (((p1.len : Nat) : Int) : Int))) (
  HM.bind (α := Addr) (HM.idx p1.a p1.len x2.1 1) fun x3 =>
  HM.bind (α := Int) (HM.load1 (.int .i64) x3) fun x4 =>
  HM.ite (x4 == p0) (
  HM.pure (.inr (.inr (true, ())))) (
  HM.pure (.inl (IntKind.wrap .i64 (x2.1 + 1), ())))) (
  HM.pure (.inr (.inl (x2.1, ()))))) (0, ())) (Sum.elim (fun x1 =>
  HM.pure (false, ())) HM.pure)
theorem ref05_in_den (p0 : Int) (p1 : Slc) : denFn Tryz.prog [] 18 [0, 1, 4, 5, 9, 17] [0, 1, 5, 9, 17] Tryz.f223.results.toList [.one .bool] (bodyOf Tryz.f223) [Kind.val (.one (.int .i64)) p0, Kind.val (.one .slc) p1] = ref05_in p0 p1 := by kernel_rfl
theorem ref05_in_calls (p0 : Int) (p1 : Slc) (h : Heap) (Q : Value → Heap → Prop) (hh : ref05_in p0 p1 h fun x h' => Q (.bool x.1) h') :
    HCalls Tryz.prog 223 #[.int .i64 p0, .slice p1.a p1.len p1.cap] h Q :=
  calls_of_eq Tryz.func223 (by kernel_rfl) Tryz.ntmps223 (by kernel_rfl) CN orders (ref05_in_den p0 p1) hh
end Go.Proofs.YtfhalebbcbgbdaaGreatDoor
namespace Go.Proofs.YtfhalebbcbgbdaaGreatDoor
open Go.H Go.Proofs
set_option linter.unusedVariables false
set_option linter.unusedSimpArgs false
set_option maxRecDepth 100000
set_option maxHeartbeats 4000000
def strings_Builder_WriteString (p0 : Option Addr) (p1 : ByteArray) : HM (Int × Value × Unit) :=
  HM.bind (α := Unit) (HM.callN Tryz.prog [] 143 #[.pointer p0]) fun x1 =>
  HM.bind (α := Addr) (HM.nonnil p0) fun x2 =>
  HM.bind (α := Slc) (HM.load1 .slc (Addr.add x2 1)) fun x3 =>
  HM.bind (α := Slc) (HM.append 5 1 1 #[.int .u8 0] x3 (ByteArray.size p1) (srcStr p1)) fun x4 =>
  HM.bind (α := Addr) (HM.nonnil p0) fun x5 =>
  HM.bind (α := Unit) (HM.store1 (Addr.add x5 1) (.slice x4.a x4.len x4.cap)) fun _ =>
  HM.pure (((ByteArray.size p1 : Nat) : Int), .nilIface, ())
theorem strings_Builder_WriteString_den (p0 : Option Addr) (p1 : ByteArray) : denFn Tryz.prog [143] 19 [0, 1, 4, 5] [0, 1] Tryz.f100.results.toList [.one (.int .i64), .one .any] (bodyOf Tryz.f100) [Kind.val (.one .ptr) p0, Kind.val (.one .str) p1] = strings_Builder_WriteString p0 p1 := by kernel_rfl
theorem strings_Builder_WriteString_calls (p0 : Option Addr) (p1 : ByteArray) (h : Heap) (Q : Value → Heap → Prop) (hh : strings_Builder_WriteString p0 p1 h fun x h' => Q (.tuple #[.int .i64 x.1, x.2.1]) h') :
    HCalls Tryz.prog 100 #[.pointer p0, .string p1] h Q :=
  calls_of_eq Tryz.func100 (by kernel_rfl) Tryz.ntmps100 (by kernel_rfl) (CC Tryz.call143 CN) orders (strings_Builder_WriteString_den p0 p1) hh
def strings_Builder_Len (p0 : Option Addr) : HM (Int × Unit) :=
  HM.bind (α := Addr) (HM.nonnil p0) fun x1 =>
  HM.bind (α := Slc) (HM.load1 .slc (Addr.add x1 1)) fun x2 =>
  HM.pure (((x2.len : Nat) : Int), ())
theorem strings_Builder_Len_den (p0 : Option Addr) : denFn Tryz.prog [] 8 [0, 2] [0] Tryz.f87.results.toList [.one (.int .i64)] (bodyOf Tryz.f87) [Kind.val (.one .ptr) p0] = strings_Builder_Len p0 := by kernel_rfl
theorem strings_Builder_Len_calls (p0 : Option Addr) (h : Heap) (Q : Value → Heap → Prop) (hh : strings_Builder_Len p0 h fun x h' => Q (.int .i64 x.1) h') :
    HCalls Tryz.prog 87 #[.pointer p0] h Q :=
  calls_of_eq Tryz.func87 (by kernel_rfl) Tryz.ntmps87 (by kernel_rfl) CN orders (strings_Builder_Len_den p0) hh
end Go.Proofs.YtfhalebbcbgbdaaGreatDoor
namespace Go.Proofs.YtfhalebbcbgbdaaGreatDoor
set_option linter.unusedSimpArgs false
open Go.H Go.Proofs
set_option linter.unusedVariables false
set_option synthInstance.maxSize 100000
set_option synthInstance.maxHeartbeats 400000
structure PoolS where
  most : Int
  taken : Int
  used : List Int
structure PoolS.ok (s : PoolS) : Prop where
  most1 : 1 ≤ s.most
  most64 : s.most ≤ 64
  taken0 : 0 ≤ s.taken
  taken1 : s.taken ≤ 65535
  len : (s.used.length : Int) ≤ s.most
  nodup : s.used.Nodup
  range : ∀ k ∈ s.used, 1 ≤ k ∧ k ≤ 65535
def nxt (t : Int) : Int := t % 65535 + 1
inductive Reach (used : List Int) : Nat → Int → Int → Prop
  | here {t : Int} : nxt t ∉ used → Reach used 0 t (nxt t)
  | on {n : Nat} {t u : Int} : nxt t ∈ used → Reach used n (nxt t) u → Reach used (n + 1) t u
def asMap (l : List Int) : List (Int × Bool) := l.map fun k => (k, true)
theorem mget_asMap (l : List Int) (k : Int) : mget (asMap l) k = if k ∈ l then some true else none := by
  induction l with
  | nil => rfl
  | cons a l ih =>
    simp only [asMap, List.map_cons] at ih ⊢
    rw [mget_cons, ih]
    by_cases h : a = k
    · simp [h]
    · simp [h, Ne.symm h]
theorem mset_asMap (l : List Int) (k : Int) (h : k ∉ l) : mset (asMap l) k true = asMap (l ++ [k]) := by
  rw [mset_none _ _ _ (by rw [mget_asMap, if_neg h])]
  simp [asMap]
theorem mdel_asMap (l : List Int) (k : Int) : mdel (asMap l) k = asMap (l.erase k) := by
  induction l with
  | nil => rfl
  | cons a l ih =>
    simp only [asMap, List.map_cons, mdel] at ih ⊢
    by_cases h : a = k
    · simp [h]
    · rw [if_neg h, ih, List.erase_cons_tail (by simpa using h)]
      simp
def poolA (b : Nat) (s : PoolS) : Asn := exA fun m => star (pr s.ok) (star (cells b #[.int .i64 s.most, .int .i64 s.taken, .map (some m)]) (mapA (fun n : Int => .int .i64 n) (Kind.val (.one .bool)) m (asMap s.used)))
theorem poolA_iff {h : Heap} {b : Nat} {s : PoolS} {R : List Asn} : sat h (poolA b s :: R) ↔
    ∃ m, s.ok ∧ sat h (cells b #[.int .i64 s.most, .int .i64 s.taken, .map (some m)] :: mapA (fun n : Int => .int .i64 n) (Kind.val (.one .bool)) m (asMap s.used) :: R) := by
  unfold poolA
  rw [sat.ex_iff]
  constructor
  · rintro ⟨m, hs⟩
    rw [sat.star_iff, sat.pr_iff, sat.star_iff] at hs
    exact ⟨m, hs⟩
  · rintro ⟨m, h1, hs⟩
    exact ⟨m, by rw [sat.star_iff, sat.pr_iff, sat.star_iff]; exact ⟨h1, hs⟩⟩
abbrev kI := key_int .i64
abbrev at0 (b : Nat) : Value := .pointer (some ⟨b, 0, none⟩)
theorem New_spec {h : Heap} {R : List Asn} (hs : sat h R) (most : Int) {Q : Value → Heap → Prop}
    (hq : ∀ b h', sat h' (poolA b ⟨max 1 (min most 64), 0, []⟩ :: R) → Q (at0 b) h') : HCalls Tryz.prog 67 #[.int .i64 most] h Q := by
  refine ids_New_calls most h Q ?_
  unfold ids_New
  simp only [HM.bind_apply]
  refine new_map (ek := fun n : Int => Value.int .i64 n) (ev := Kind.val (.one .bool)) hs fun m h1 hs1 => ?_
  refine new_cells hs1 fun b h2 hs2 => ?_
  simp only [HM.pure_apply]
  refine hq b h2 (poolA_iff.2 ⟨m, ⟨?_, ?_, ?_, ?_, ?_, ?_, ?_⟩, ?_⟩)
  all_goals try (simp; done)
  all_goals try (simp; omega)
  have e : (if 1 < (if 64 < most then (64 : Int) else most) then (if 64 < most then 64 else most) else 1) = max 1 (min most 64) := by
    split <;> split <;> omega
  rw [e] at hs2
  exact hs2
theorem Left_spec {h : Heap} {R : List Asn} {b : Nat} {s : PoolS} (hs : sat h (poolA b s :: R)) {Q : Value → Heap → Prop}
    (hq : Q (.int .i64 (s.most - s.used.length)) h) : HCalls Tryz.prog 160 #[at0 b] h Q := by
  refine ids_Pool_Left_calls _ h Q ?_
  obtain ⟨m, hok, hs⟩ := poolA_iff.1 hs
  have c0 : cellH h ⟨b, 0, none⟩ = some (.int .i64 s.most) := hs.cell 0
  have c2 : cellH h ⟨b, 2, none⟩ = some (.map (some m)) := hs.cell 2
  unfold ids_Pool_Left
  simp [c0, c2]
  refine len_map hs.p1 ?_
  have := hok.len; have := hok.most64
  rw [wrap_id (by simp [asMap]; omega) (by simp [asMap]; omega)]
  simpa [asMap] using hq
theorem ok_add {s : PoolS} (h : s.ok) {k : Int} (h1 : 1 ≤ k) (h2 : k ≤ 65535) (hn : k ∉ s.used) (hl : (s.used.length : Int) < s.most) {t : Int} (t0 : 0 ≤ t) (t1 : t ≤ 65535) : PoolS.ok ⟨s.most, t, s.used ++ [k]⟩ := by
  refine ⟨h.most1, h.most64, t0, t1, by simp; omega, ?_, ?_⟩
  · rw [List.nodup_append]
    refine ⟨h.nodup, by simp, ?_⟩
    rintro a ha b hb rfl
    simp at hb
    subst hb
    exact hn ha
  · intro a ha
    simp at ha
    rcases ha with ha | rfl
    · exact h.range a ha
    · exact ⟨h1, h2⟩
theorem ok_del {s : PoolS} (h : s.ok) (k : Int) : PoolS.ok ⟨s.most, s.taken, s.used.erase k⟩ := by
  refine ⟨h.most1, h.most64, h.taken0, h.taken1, ?_, h.nodup.erase k, fun a ha => h.range a (List.mem_of_mem_erase ha)⟩
  have := List.length_erase_le (a := k) (l := s.used)
  have := h.len
  simp only
  omega
theorem Free_spec {h : Heap} {R : List Asn} {b : Nat} {s : PoolS} {k : Int} (hs : sat h (poolA b s :: R)) {Q : Value → Heap → Prop}
    (hq : ∀ h', sat h' (poolA b ⟨s.most, s.taken, s.used.erase k⟩ :: R) → Q (.bool (decide (k ∈ s.used))) h') : HCalls Tryz.prog 115 #[at0 b, .int .i64 k] h Q := by
  refine ids_Pool_Free_calls _ _ h Q ?_
  obtain ⟨m, hi, hs'⟩ := poolA_iff.1 hs
  have c0 : cellH h ⟨b, 0, none⟩ = some (.int .i64 s.most) := hs'.cell 0
  have c2 : cellH h ⟨b, 2, none⟩ = some (.map (some m)) := hs'.cell 2
  unfold ids_Pool_Free
  simp [c0, c2]
  refine lookup_map kI (kind := .one .bool) (z := false) rfl hs'.p1 ?_
  rw [mget_asMap]
  by_cases h3 : k ∈ s.used
  · simp [h3]
    simp [c2]
    refine del_map kI (ev := Kind.val (.one .bool)) hs'.p1 fun h' hs2 => ?_
    have := hq h' (poolA_iff.2 ⟨m, ok_del hi k, by rw [mdel_asMap] at hs2; exact hs2.p1⟩)
    simpa [h3] using this
  · simp [h3]
    have he : s.used.erase k = s.used := List.erase_of_not_mem h3
    have := hq h (by rw [he]; exact hs)
    simpa [h3] using this
theorem nxt_range {t : Int} (h0 : 0 ≤ t) : 1 ≤ nxt t ∧ nxt t ≤ 65535 := by unfold nxt; omega
theorem Reach.range {used : List Int} {n : Nat} {t u : Int} (h : Reach used n t u) (h0 : 0 ≤ t) : 1 ≤ u ∧ u ≤ 65535 ∧ u ∉ used := by
  induction h with
  | here hn => exact ⟨(nxt_range h0).1, (nxt_range h0).2, hn⟩
  | on _ _ ih => exact ih (by have := (nxt_range h0).1; omega)
theorem len_sub {α : Type} [DecidableEq α] : ∀ (l1 l2 : List α), l1.Nodup → (∀ x ∈ l1, x ∈ l2) → l1.length ≤ l2.length
  | [], _, _, _ => by simp
  | x :: xs, l2, hnd, hs => by
    have h1 := List.nodup_cons.1 hnd
    have h2 := len_sub xs (l2.erase x) h1.2 (fun y hy => (List.mem_erase_of_ne (fun e => h1.1 (by rw [← e]; exact hy))).2 (hs y (List.mem_cons_of_mem _ hy)))
    have h3 := List.length_erase_of_mem (hs x (List.mem_cons_self ..))
    have h4 := List.length_pos_of_mem (hs x (List.mem_cons_self ..))
    simp only [List.length_cons]
    omega
theorem reach_ex (used : List Int) (t : Int) (h0 : 0 ≤ t) (h1 : used.Nodup) (h2 : used.length < 65535) : ∃ n u, Reach used n t u := by
  have key : ∀ (j : Nat), j ≤ 65535 → ∀ t, 0 ≤ t → t ≤ 65535 → (∃ n u, Reach used n t u) ∨ ∀ i, i < j → ((t + i) % 65535 + 1) ∈ used := by
    intro j
    induction j with
    | zero => intro _ t _ _; exact .inr (fun i hi => by omega)
    | succ j ih =>
      intro hj t ht0 ht1
      by_cases hm : nxt t ∈ used
      · have hr := nxt_range ht0
        rcases ih (by omega) (nxt t) (by omega) (by omega) with ⟨n, u, hu⟩ | hall
        · exact .inl ⟨n + 1, u, .on hm hu⟩
        · refine .inr fun i hi => ?_
          cases i with
          | zero => simpa [nxt] using hm
          | succ i =>
            have := hall i (by omega)
            have e : ((nxt t + (i : Int)) % 65535 + 1) = ((t + ((i + 1 : Nat) : Int)) % 65535 + 1) := by unfold nxt; omega
            rw [e] at this
            exact this
      · exact .inl ⟨0, nxt t, .here hm⟩
  have hpre : ∃ t', 0 ≤ t' ∧ t' ≤ 65535 ∧ nxt t' = nxt t ∧ True := ⟨t % 65535, by omega, by omega, by unfold nxt; omega, trivial⟩
  obtain ⟨t', a0, a1, a2, -⟩ := hpre
  have move : ∀ n u, Reach used n t' u → Reach used n t u := by
    intro n u hr
    cases hr with
    | here hn => rw [a2] at hn ⊢; exact .here hn
    | on hm hr => rw [a2] at hm hr; exact .on hm hr
  rcases key 65535 (Nat.le_refl _) t' a0 a1 with ⟨n, u, hu⟩ | hall
  · exact ⟨n, u, move n u hu⟩
  · exfalso
    have hsub : ∀ x ∈ ((List.range 65535).map fun (i : Nat) => ((t' + (i : Int)) % 65535 + 1)), x ∈ used := by
      intro x hx
      obtain ⟨i, hi, rfl⟩ := List.mem_map.1 hx
      exact hall i (List.mem_range.1 hi)
    have hnd : ((List.range 65535).map fun (i : Nat) => ((t' + (i : Int)) % 65535 + 1)).Nodup := by
      refine List.pairwise_map.2 (List.Pairwise.imp_of_mem ?_ List.pairwise_lt_range)
      intro a b ha hb hab
      have := List.mem_range.1 ha
      have := List.mem_range.1 hb
      omega
    have := len_sub _ _ hnd hsub
    simp at this
    omega
theorem Reach.det {used : List Int} {n n' : Nat} {t u u' : Int} (h : Reach used n t u) (h' : Reach used n' t u') : u = u' := by
  induction h generalizing n' with
  | here hn =>
    cases h' with
    | here _ => rfl
    | on hm _ => exact absurd hm hn
  | on hm _ ih =>
    cases h' with
    | here hn => exact absurd hm hn
    | on _ h2 => exact ih h2
theorem wrap_nxt {t : Int} (h0 : 0 ≤ t) : IntKind.wrap .i64 (Int.tmod t 65535 + 1) = nxt t := by
  have e : Int.tmod t 65535 = t % 65535 := Int.tmod_eq_emod_of_nonneg h0
  rw [e, wrap_id (by omega) (by omega)]
  rfl
theorem Take_spec {h : Heap} {R : List Asn} {b : Nat} {s : PoolS} (hs : sat h (poolA b s :: R)) {Q : Value → Heap → Prop}
    (hfull : (s.used.length : Int) = s.most → Q (.tuple #[.int .i64 0, .int .u8 147]) h)
    (hok : (s.used.length : Int) ≠ s.most → ∀ n u, Reach s.used n s.taken u → ∀ h', sat h' (poolA b ⟨s.most, u, s.used ++ [u]⟩ :: R) → Q (.tuple #[.int .i64 u, .int .u8 0]) h') :
    HCalls Tryz.prog 117 #[at0 b] h Q := by
  refine ids_Pool_Take_calls _ h Q ?_
  obtain ⟨m, hi, hs'⟩ := poolA_iff.1 hs
  unfold ids_Pool_Take
  simp
  refine Left_spec hs ?_
  simp
  have hl := hi.len
  have hm64 := hi.most64
  by_cases h4 : (s.used.length : Int) = s.most
  · simp [h4]
    exact hfull h4
  have h5 : ¬ (s.most - (s.used.length : Int) = 0) := by omega
  simp [h5]
  obtain ⟨n, u, hu⟩ := reach_ex s.used s.taken hi.taken0 hi.nodup (by omega)
  have hur := hu.range hi.taken0
  refine loop_gh (γ := Nat × Int) (fun g _ h => Reach s.used g.1 g.2 u ∧ 0 ≤ g.2 ∧ g.2 ≤ 65535 ∧ sat h (cells b #[.int .i64 s.most, .int .i64 g.2, .map (some m)] :: mapA (fun n : Int => .int .i64 n) (Kind.val (.one .bool)) m (asMap s.used) :: R))
    (fun g => g.1) (n, s.taken) ⟨hu, hi.taken0, hi.taken1, hs'⟩ ?_
  · rintro ⟨n, t⟩ - h1 ⟨hr, t0, t1, hs1⟩
    have c1 : cellH h1 ⟨b, 1, none⟩ = some (.int .i64 t) := hs1.cell 1
    simp [c1]
    rw [wrap_nxt t0]
    refine store1_cells hs1 (by simp) rfl fun h2 hs2 => ?_
    have d1 : cellH h2 ⟨b, 1, none⟩ = some (.int .i64 (nxt t)) := hs2.cell 1
    have d2 : cellH h2 ⟨b, 2, none⟩ = some (.map (some m)) := hs2.cell 2
    have hn := nxt_range t0
    simp [d1, d2]
    refine lookup_map kI (kind := .one .bool) (z := false) rfl hs2.p1 ?_
    rw [mget_asMap]
    cases hr with
    | here hn' =>
      simp [hn']
      simp [d2, d1]
      refine set_map kI (inj_int .i64) (ev := Kind.val (.one .bool)) (x := true) hs2.p1 fun h3 hs3 => ?_
      rw [mset_asMap _ _ hn'] at hs3
      have e1 : cellH h3 ⟨b, 1, none⟩ = some (.int .i64 (nxt t)) := hs3.p1.cell 1
      simp [e1]
      refine hok h4 n _ hu h3 (poolA_iff.2 ⟨m, ok_add hi (by omega) (by omega) hn' (by omega) (by omega) (by omega), hs3.p1⟩)
    | on hm' hr' =>
      simp [hm']
      exact ⟨_, Nat.lt_succ_self _, _, hr', Int.le_trans (by omega) hn.1, hn.2, hs2⟩
end Go.Proofs.YtfhalebbcbgbdaaGreatDoor
namespace Go.Proofs.YtfhalebbcbgbdaaGreatDoor
open Go.H Go.Proofs
set_option linter.unusedSimpArgs false
set_option linter.unusedVariables false
set_option synthInstance.maxSize 100000
set_option synthInstance.maxHeartbeats 400000
abbrev MsT := ByteArray × ByteArray × Int × Bool × ByteArray
abbrev encM (x : MsT) : List Value := [.string x.1, .string x.2.1, .int .i64 x.2.2.1, .bool x.2.2.2.1, .string x.2.2.2.2]
abbrev FlT := Int × MsT × Bool
abbrev encF (x : FlT) : List Value := [.int .i64 x.1, .string x.2.1.1, .string x.2.1.2.1, .int .i64 x.2.1.2.2.1, .bool x.2.1.2.2.2.1, .string x.2.1.2.2.2.2, .bool x.2.2]
structure OutS where
  pool : PoolS
  most : Int
  on : Bool
  flights : List FlT
  waiting : List MsT
def outA (b : Nat) (o : OutS) : Asn := exA fun x : Nat × Slc × Slc =>
  star (cells b #[at0 x.1, .int .i64 o.most, .bool o.on, .slice x.2.1.a x.2.1.len x.2.1.cap, .slice x.2.2.a x.2.2.len x.2.2.cap])
    (star (poolA x.1 o.pool) (star (ownS encF 7 x.2.1 o.flights) (ownS encM 5 x.2.2 o.waiting)))
theorem outA_iff {h : Heap} {b : Nat} {o : OutS} {R : List Asn} : sat h (outA b o :: R) ↔ ∃ (pb : Nat) (fl wt : Slc),
    sat h (cells b #[at0 pb, .int .i64 o.most, .bool o.on, .slice fl.a fl.len fl.cap, .slice wt.a wt.len wt.cap] :: poolA pb o.pool :: ownS encF 7 fl o.flights :: ownS encM 5 wt o.waiting :: R) := by
  unfold outA
  rw [sat.ex_iff]
  constructor
  · rintro ⟨⟨pb, fl, wt⟩, hs⟩
    rw [sat.star_iff] at hs
    exact ⟨pb, fl, wt, (sat.star_iff.1 (sat.star_iff.1 hs.p1).p1).re [3, 2, 0, 1]⟩
  · rintro ⟨pb, fl, wt, hs⟩
    refine ⟨(pb, fl, wt), ?_⟩
    rw [sat.star_iff]
    exact (sat.star_iff.2 ((sat.star_iff.2 (hs.re [2, 3, 0, 1])).re [2, 0, 1])).p1
theorem outNew_spec {h : Heap} {R : List Asn} (hs : sat h R) (most : Int) {Q : Value → Heap → Prop}
    (hq : ∀ b h', sat h' (outA b ⟨⟨64, 0, []⟩, max 1 (min most 64), false, [], []⟩ :: R) → Q (at0 b) h') : HCalls Tryz.prog 38 #[.int .i64 most] h Q := by
  refine outflow_New_calls most h Q ?_
  unfold outflow_New
  refine bind_call1 (New_spec hs 64 fun pb h1 hs1 => ⟨some ⟨pb, 0, none⟩, rfl, ?_⟩)
  have e : (if 1 < (if 64 < most then (64 : Int) else most) then (if 64 < most then 64 else most) else 1) = max 1 (min most 64) := by
    split <;> split <;> omega
  refine bind_call1 (outflow_bounded_calls most h1 _ ⟨_, rfl, ?_⟩)
  rw [e]
  refine new_cells hs1 fun b h2 hs2 => ?_
  refine hq b h2 (outA_iff.2 ⟨pb, ⟨none, 0, 0⟩, ⟨none, 0, 0⟩, ?_⟩)
  exact (ownS_nil (ownS_nil hs2)).p3.p3
end Go.Proofs.YtfhalebbcbgbdaaGreatDoor
namespace Go.Proofs.YtfhalebbcbgbdaaGreatDoor
open Go.H Go.Proofs
abbrev Pk : Type := Int × Bool × Bool × Int × Int × ByteArray × ByteArray × Int × Slc × Slc × ByteArray × Bool × Int × Bool × ByteArray × ByteArray × Int × Bool × Slc × Bool × Bool × ByteArray × ByteArray × Bool × Slc × Slc × Unit
abbrev Pk_z : Pk := (0, false, false, 0, 0, ByteArray.mk #[], ByteArray.mk #[], 0, ⟨none, 0, 0⟩, ⟨none, 0, 0⟩, ByteArray.mk #[], false, 0, false, ByteArray.mk #[], ByteArray.mk #[], 0, false, ⟨none, 0, 0⟩, false, false, ByteArray.mk #[], ByteArray.mk #[], false, ⟨none, 0, 0⟩, ⟨none, 0, 0⟩, ())
abbrev Pk_a (k id c : Int) : Pk := (k, false, false, 0, id, ByteArray.mk #[], ByteArray.mk #[], c, ⟨none, 0, 0⟩, ⟨none, 0, 0⟩, ByteArray.mk #[], false, 0, false, ByteArray.mk #[], ByteArray.mk #[], 0, false, ⟨none, 0, 0⟩, false, false, ByteArray.mk #[], ByteArray.mk #[], false, ⟨none, 0, 0⟩, ⟨none, 0, 0⟩, ())
end Go.Proofs.YtfhalebbcbgbdaaGreatDoor
namespace Go.Proofs.YtfhalebbcbgbdaaGreatDoor
open Go.H Go.Proofs
set_option linter.unusedSimpArgs false
set_option linter.unusedVariables false
abbrev PropT := Int × Int × ByteArray × ByteArray
abbrev e0S : ByteArray := ByteArray.mk #[]
abbrev tagS : ByteArray := ByteArray.mk #[116, 97, 103]
structure PkO where
  kind : Int
  dup : Bool
  retain : Bool
  qos : Int
  id : Int
  topic : ByteArray
  payload : ByteArray
  code : Int
  props : List PropT
  codes : List Int
  session : Bool
def tagP (t : ByteArray) : List PropT := if t = e0S then [] else [(38, 0, tagS, t)]
def pubO (m : MsT) (id : Int) (dup : Bool) : PkO := ⟨3, dup, m.2.2.2.1, m.2.2.1, id, m.1, m.2.1, 0, tagP m.2.2.2.2, [], false⟩
def ackO (k id c : Int) : PkO := ⟨k, false, false, 0, id, e0S, e0S, c, [], [], false⟩
open Classical in
noncomputable def nextI (used : List Int) (t : Int) : Int := if h : ∃ (u : Int) (n : Nat), Reach used n t u then Classical.choose h else 0
theorem nextI_eq {used : List Int} {n : Nat} {t u : Int} (h : Reach used n t u) : nextI used t = u := by
  unfold nextI
  have hex : ∃ (u : Int) (n : Nat), Reach used n t u := ⟨u, n, h⟩
  rw [dif_pos hex]
  obtain ⟨n', h'⟩ := Classical.choose_spec hex
  exact h'.det h
noncomputable def goF (o : OutS) : List MsT → OutS × List PkO
  | [] => ({ o with waiting := [] }, [])
  | m :: w =>
    if 0 < m.2.2.1 ∧ o.most ≤ (o.flights.length : Int) then ({ o with waiting := m :: w }, [])
    else if 0 < m.2.2.1 then
      let id := nextI o.pool.used o.pool.taken
      let r := goF { o with pool := ⟨o.pool.most, id, o.pool.used ++ [id]⟩, flights := o.flights ++ [(id, m, false)] } w
      (r.1, pubO m id false :: r.2)
    else
      let r := goF o w
      (r.1, pubO m 0 false :: r.2)
noncomputable def goOnF (o : OutS) : OutS × List PkO := if o.on = true then goF o o.waiting else (o, [])
noncomputable def sendF (o : OutS) (m : MsT) : (OutS × List PkO) × Int :=
  if m.2.2.1 < 0 ∨ 2 < m.2.2.1 then ((o, []), 155)
  else if m.2.2.1 = 0 ∧ o.on = false then ((o, []), 0)
  else if 256 ≤ o.waiting.length then ((o, []), 151)
  else (goOnF { o with waiting := o.waiting ++ [m] }, 0)
def overF (o : OutS) (id : Int) : OutS := { o with pool := ⟨o.pool.most, o.pool.taken, o.pool.used.erase id⟩, flights := o.flights.filter fun f => decide (f.1 ≠ id) }
def relF (o : OutS) (id : Int) : OutS := { o with flights := o.flights.map fun f => if f.1 = id then (f.1, f.2.1, true) else f }
noncomputable def ansF (o : OutS) (k id c : Int) : (OutS × List PkO) × Int :=
  if o.on = false ∨ (k ≠ 4 ∧ k ≠ 5 ∧ k ≠ 7) then ((o, []), 130)
  else match o.flights.find? (fun f => decide (f.1 = id)) with
    | none => ((o, []), 146)
    | some f =>
      if k = 4 then (if f.2.1.2.2.1 ≠ 1 then ((o, []), 130) else (goOnF (overF o id), 0))
      else if k = 5 then
        (if f.2.1.2.2.1 ≠ 2 ∨ (128 ≤ c ∧ f.2.2 = true) then ((o, []), 130)
        else if 128 ≤ c then (goOnF (overF o id), 0)
        else (((goOnF (relF o id)).1, ackO 6 id 0 :: (goOnF (relF o id)).2), 0))
      else (if f.2.2 = false then ((o, []), 130) else (goOnF (overF o id), 0))
def againF (f : FlT) : PkO := if f.2.2 = true then ackO 6 f.1 0 else pubO f.2.1 f.1 true
noncomputable def beginF (o : OutS) (most : Int) : OutS × List PkO :=
  let r := goOnF { o with on := true, most := max 1 (min most 64) }
  (r.1, o.flights.map againF ++ r.2)
structure FlowOK (o : OutS) : Prop where
  pm : o.pool.most = 64
  pk : o.pool.ok
  m1 : 1 ≤ o.most
  m64 : o.most ≤ 64
  ids : o.flights.map (·.1) = o.pool.used
  wl : o.waiting.length ≤ 256
  fq : ∀ f ∈ o.flights, 1 ≤ f.2.1.2.2.1 ∧ f.2.1.2.2.1 ≤ 2 ∧ (f.2.2 = true → f.2.1.2.2.1 = 2)
  wq : ∀ m ∈ o.waiting, 0 ≤ m.2.2.1 ∧ m.2.2.1 ≤ 2
theorem FlowOK.flen {o : OutS} (h : FlowOK o) : o.flights.length = o.pool.used.length := by rw [← h.ids, List.length_map]
theorem FlowOK.f64 {o : OutS} (h : FlowOK o) : o.flights.length ≤ 64 := by
  have := h.pk.len
  rw [h.pm] at this
  rw [h.flen]; omega
theorem FlowOK.new : FlowOK ⟨⟨64, 0, []⟩, 64, false, [], []⟩ where
  pm := rfl
  pk := ⟨by decide, by decide, by decide, by decide, by simp, by simp, by simp⟩
  m1 := by decide
  m64 := by decide
  ids := rfl
  wl := by simp
  fq := by simp
  wq := by simp
theorem FlowOK.next {o : OutS} (h : FlowOK o) (hl : (o.flights.length : Int) < o.most) : ∃ n, Reach o.pool.used n o.pool.taken (nextI o.pool.used o.pool.taken) := by
  have h1 := h.pk.len
  have h2 := h.pm
  obtain ⟨n, u, hu⟩ := reach_ex o.pool.used o.pool.taken h.pk.taken0 h.pk.nodup (by omega)
  exact ⟨n, by rw [nextI_eq hu]; exact hu⟩
theorem FlowOK.take {o : OutS} (h : FlowOK o) {m : MsT} {w : List MsT} (hw : w.length ≤ 256) (hwq : ∀ x ∈ w, 0 ≤ x.2.2.1 ∧ x.2.2.1 ≤ 2) (hm : 0 < m.2.2.1 ∧ m.2.2.1 ≤ 2) (hl : (o.flights.length : Int) < o.most) :
    FlowOK { o with pool := ⟨o.pool.most, nextI o.pool.used o.pool.taken, o.pool.used ++ [nextI o.pool.used o.pool.taken]⟩, flights := o.flights ++ [(nextI o.pool.used o.pool.taken, m, false)], waiting := w } := by
  obtain ⟨n, hr⟩ := h.next hl
  have hrg := hr.range h.pk.taken0
  have h2 := h.pm
  have h3 := h.flen
  have h4 := h.m64
  refine ⟨h.pm, ok_add h.pk hrg.1 hrg.2.1 hrg.2.2 (by omega) (by omega) (by omega), h.m1, h.m64, ?_, hw, ?_, hwq⟩
  · simp only [List.map_append, List.map_cons, List.map_nil, h.ids]
  · intro f hf
    rcases List.mem_append.1 hf with hf | hf
    · exact h.fq f hf
    · have := List.mem_singleton.1 hf
      subst this
      exact ⟨by simp only; omega, by simp only; omega, fun e => by cases e⟩
theorem goF_ok : ∀ (w : List MsT) {o : OutS}, FlowOK o → w.length ≤ 256 → (∀ x ∈ w, 0 ≤ x.2.2.1 ∧ x.2.2.1 ≤ 2) → FlowOK (goF o w).1 ∧ (goF o w).2.length ≤ w.length ∧ (goF o w).1.on = o.on ∧ (goF o w).1.most = o.most
  | [], o, h, _, _ => ⟨⟨h.pm, h.pk, h.m1, h.m64, h.ids, by simp [goF], h.fq, by simp [goF]⟩, by simp [goF], rfl, rfl⟩
  | m :: w, o, h, hl, hq => by
    have hl' : w.length ≤ 256 := by simp only [List.length_cons] at hl; omega
    have hq' : ∀ x ∈ w, 0 ≤ x.2.2.1 ∧ x.2.2.1 ≤ 2 := fun x hx => hq x (List.mem_cons_of_mem _ hx)
    have hm := hq m (List.mem_cons_self ..)
    unfold goF
    by_cases h1 : 0 < m.2.2.1 ∧ o.most ≤ (o.flights.length : Int)
    · rw [if_pos h1]
      exact ⟨⟨h.pm, h.pk, h.m1, h.m64, h.ids, hl, h.fq, hq⟩, by simp, rfl, rfl⟩
    · rw [if_neg h1]
      by_cases h2 : 0 < m.2.2.1
      · rw [if_pos h2]
        have h3 : (o.flights.length : Int) < o.most := by omega
        have h4 := goF_ok w (h.take (m := m) (w := o.waiting) h.wl h.wq ⟨h2, hm.2⟩ h3) hl' hq'
        refine ⟨h4.1, ?_, h4.2.2.1, h4.2.2.2⟩
        have := h4.2.1
        simp only [List.length_cons]
        exact Nat.succ_le_succ this
      · rw [if_neg h2]
        have h4 := goF_ok w h hl' hq'
        refine ⟨h4.1, ?_, h4.2.2.1, h4.2.2.2⟩
        have := h4.2.1
        simp only [List.length_cons]
        omega
theorem goOnF_ok {o : OutS} (h : FlowOK o) : FlowOK (goOnF o).1 ∧ (goOnF o).2.length ≤ 256 := by
  unfold goOnF
  split
  · have := goF_ok o.waiting h h.wl h.wq
    exact ⟨this.1, Nat.le_trans this.2.1 h.wl⟩
  · exact ⟨h, by simp⟩
theorem FlowOK.wait {o : OutS} (h : FlowOK o) {m : MsT} (hm : 0 ≤ m.2.2.1 ∧ m.2.2.1 ≤ 2) (hl : ¬ 256 ≤ o.waiting.length) : FlowOK { o with waiting := o.waiting ++ [m] } :=
  ⟨h.pm, h.pk, h.m1, h.m64, h.ids, by simp; omega, h.fq, fun x hx => by
    rcases List.mem_append.1 hx with hx | hx
    · exact h.wq x hx
    · rw [List.mem_singleton.1 hx]; exact hm⟩
theorem sendF_ok {o : OutS} (h : FlowOK o) (m : MsT) : FlowOK (sendF o m).1.1 ∧ (sendF o m).1.2.length ≤ 256 := by
  unfold sendF
  split
  · exact ⟨h, by simp⟩
  · split
    · exact ⟨h, by simp⟩
    · split
      · exact ⟨h, by simp⟩
      · rename_i h1 h2 h3
        exact goOnF_ok (h.wait ⟨by omega, by omega⟩ h3)
theorem erase_ids {l : List FlT} {u : List Int} (h : l.map (·.1) = u) (hn : u.Nodup) (id : Int) : (l.filter fun f => decide (f.1 ≠ id)).map (·.1) = u.erase id := by
  subst h
  rw [List.Nodup.erase_eq_filter hn, List.filter_map]
  congr 1
  refine List.filter_congr fun x _ => ?_
  by_cases e : x.1 = id <;> simp [e]
theorem FlowOK.over {o : OutS} (h : FlowOK o) (id : Int) : FlowOK (overF o id) :=
  ⟨h.pm, ok_del h.pk id, h.m1, h.m64, erase_ids h.ids h.pk.nodup id, h.wl, fun f hf => h.fq f (List.mem_filter.1 hf).1, h.wq⟩
theorem FlowOK.rel {o : OutS} (h : FlowOK o) {id : Int} (hq : ∀ f ∈ o.flights, f.1 = id → f.2.1.2.2.1 = 2) : FlowOK (relF o id) := by
  refine ⟨h.pm, h.pk, h.m1, h.m64, ?_, h.wl, fun f hf => ?_, h.wq⟩
  · show (o.flights.map _).map _ = o.pool.used
    rw [← h.ids, List.map_map]
    refine List.map_congr_left fun f _ => ?_
    simp only [Function.comp_apply]
    split <;> rfl
  · obtain ⟨g, hg, rfl⟩ := List.mem_map.1 hf
    by_cases e : g.1 = id
    · rw [if_pos e]
      have := h.fq g hg
      exact ⟨this.1, this.2.1, fun _ => hq g hg e⟩
    · rw [if_neg e]
      exact h.fq g hg
theorem FlowOK.one {o : OutS} (h : FlowOK o) {f g : FlT} (hf : f ∈ o.flights) (hg : g ∈ o.flights) (e : f.1 = g.1) : f = g := by
  have hn := h.pk.nodup
  rw [← h.ids] at hn
  obtain ⟨i, hi⟩ := List.getElem?_of_mem hf
  obtain ⟨j, hj⟩ := List.getElem?_of_mem hg
  obtain ⟨h1, rfl⟩ := List.getElem?_eq_some_iff.1 hi
  obtain ⟨h2, rfl⟩ := List.getElem?_eq_some_iff.1 hj
  have hp := List.pairwise_iff_getElem.1 (List.pairwise_map.1 hn)
  rcases Nat.lt_trichotomy i j with h3 | h3 | h3
  · exact absurd e (hp i j h1 h2 h3)
  · subst h3; rfl
  · exact absurd e.symm (hp j i h2 h1 h3)
theorem ansF_ok {o : OutS} (h : FlowOK o) (k id c : Int) : FlowOK (ansF o k id c).1.1 ∧ (ansF o k id c).1.2.length ≤ 257 := by
  have keep : FlowOK o ∧ ([] : List PkO).length ≤ 257 := ⟨h, by simp⟩
  have over : FlowOK (goOnF (overF o id)).1 ∧ (goOnF (overF o id)).2.length ≤ 257 := ⟨(goOnF_ok (h.over id)).1, Nat.le_trans (goOnF_ok (h.over id)).2 (by decide)⟩
  unfold ansF
  split
  · exact keep
  · split
    · exact keep
    · rename_i f hf
      split
      · split
        · exact keep
        · exact over
      · split
        · split
          · exact keep
          · split
            · exact over
            · rename_i h5 h6 h7
              have hfm := List.mem_of_find?_eq_some hf
              have hfi : f.1 = id := by simpa using List.find?_some hf
              have hq : ∀ g ∈ o.flights, g.1 = id → g.2.1.2.2.1 = 2 := fun g hg e => by
                rw [h.one hg hfm (e.trans hfi.symm)]
                simp only [not_or, Classical.not_not] at h6
                exact h6.1
              have := goOnF_ok (h.rel hq)
              exact ⟨this.1, by simp only [List.length_cons]; omega⟩
        · split
          · exact keep
          · exact over
theorem beginF_ok {o : OutS} (h : FlowOK o) (most : Int) : FlowOK (beginF o most).1 ∧ (beginF o most).2.length ≤ 320 := by
  have h1 : FlowOK { o with on := true, most := max 1 (min most 64) } := ⟨h.pm, h.pk, by simp only; omega, by simp only; omega, h.ids, h.wl, h.fq, h.wq⟩
  have h2 := goOnF_ok h1
  have h3 := h.f64
  unfold beginF
  refine ⟨h2.1, ?_⟩
  simp only [List.length_append, List.length_map]
  omega
theorem FlowOK.off {o : OutS} (h : FlowOK o) (b : Bool) : FlowOK { o with on := b } := ⟨h.pm, h.pk, h.m1, h.m64, h.ids, h.wl, h.fq, h.wq⟩
end Go.Proofs.YtfhalebbcbgbdaaGreatDoor
namespace Go.Proofs.YtfhalebbcbgbdaaGreatDoor
open Go.H Go.Proofs
set_option linter.unusedSimpArgs false
set_option linter.unusedVariables false
set_option maxRecDepth 100000
variable {h : Heap} {R : List Asn}
abbrev encPr (x : PropT) : List Value := [.int .i64 x.1, .int .i64 x.2.1, .string x.2.2.1, .string x.2.2.2]
theorem ePr_len (x : PropT) : (encPr x).length = 4 := rfl
theorem ePr_cell (x : PropT) : ∀ v ∈ encPr x, v.oneCell' = true := by
  intro v hv; simp at hv; rcases hv with rfl | rfl | rfl | rfl <;> rfl
abbrev eKd (k : IntKind) (n : Int) : List Value := [.int k n]
theorem eKd_len (k : IntKind) (n : Int) : (eKd k n).length = 1 := rfl
theorem eKd_cell (k : IntKind) (n : Int) : ∀ v ∈ eKd k n, v.oneCell' = true := by intro v hv; rw [List.mem_singleton.1 hv]; rfl
abbrev pkT (o : PkO) (c p : Slc) : Pk := (o.kind, o.dup, o.retain, o.qos, o.id, o.topic, o.payload, o.code, c, p, ByteArray.mk #[], false, 0, false, ByteArray.mk #[], ByteArray.mk #[], 0, false, ⟨none, 0, 0⟩, false, false, ByteArray.mk #[], ByteArray.mk #[], o.session, ⟨none, 0, 0⟩, ⟨none, 0, 0⟩, ())
abbrev encPkK (k : IntKind) (p : Pk) : List Value := [.int .i64 p.1, .bool p.2.1, .bool p.2.2.1, .int .i64 p.2.2.2.1, .int .i64 p.2.2.2.2.1, .string p.2.2.2.2.2.1, .string p.2.2.2.2.2.2.1, .int k p.2.2.2.2.2.2.2.1, .slice p.2.2.2.2.2.2.2.2.1.a p.2.2.2.2.2.2.2.2.1.len p.2.2.2.2.2.2.2.2.1.cap, .slice p.2.2.2.2.2.2.2.2.2.1.a p.2.2.2.2.2.2.2.2.2.1.len p.2.2.2.2.2.2.2.2.2.1.cap, .string p.2.2.2.2.2.2.2.2.2.2.1, .bool p.2.2.2.2.2.2.2.2.2.2.2.1, .int .i64 p.2.2.2.2.2.2.2.2.2.2.2.2.1, .bool p.2.2.2.2.2.2.2.2.2.2.2.2.2.1, .string p.2.2.2.2.2.2.2.2.2.2.2.2.2.2.1, .string p.2.2.2.2.2.2.2.2.2.2.2.2.2.2.2.1, .int .i64 p.2.2.2.2.2.2.2.2.2.2.2.2.2.2.2.2.1, .bool p.2.2.2.2.2.2.2.2.2.2.2.2.2.2.2.2.2.1, .slice p.2.2.2.2.2.2.2.2.2.2.2.2.2.2.2.2.2.2.1.a p.2.2.2.2.2.2.2.2.2.2.2.2.2.2.2.2.2.2.1.len p.2.2.2.2.2.2.2.2.2.2.2.2.2.2.2.2.2.2.1.cap, .bool p.2.2.2.2.2.2.2.2.2.2.2.2.2.2.2.2.2.2.2.1, .bool p.2.2.2.2.2.2.2.2.2.2.2.2.2.2.2.2.2.2.2.2.1, .string p.2.2.2.2.2.2.2.2.2.2.2.2.2.2.2.2.2.2.2.2.2.1, .string p.2.2.2.2.2.2.2.2.2.2.2.2.2.2.2.2.2.2.2.2.2.2.1, .bool p.2.2.2.2.2.2.2.2.2.2.2.2.2.2.2.2.2.2.2.2.2.2.2.1, .slice p.2.2.2.2.2.2.2.2.2.2.2.2.2.2.2.2.2.2.2.2.2.2.2.2.1.a p.2.2.2.2.2.2.2.2.2.2.2.2.2.2.2.2.2.2.2.2.2.2.2.2.1.len p.2.2.2.2.2.2.2.2.2.2.2.2.2.2.2.2.2.2.2.2.2.2.2.2.1.cap, .slice p.2.2.2.2.2.2.2.2.2.2.2.2.2.2.2.2.2.2.2.2.2.2.2.2.2.1.a p.2.2.2.2.2.2.2.2.2.2.2.2.2.2.2.2.2.2.2.2.2.2.2.2.2.1.len p.2.2.2.2.2.2.2.2.2.2.2.2.2.2.2.2.2.2.2.2.2.2.2.2.2.1.cap]
abbrev Pk_tK (k : IntKind) : List Tag := [.int .i64, .bool, .bool, .int .i64, .int .i64, .str, .str, .int k, .slc, .slc, .str, .bool, .int .i64, .bool, .str, .str, .int .i64, .bool, .slc, .bool, .bool, .str, .str, .bool, .slc, .slc]
abbrev vPkK (k : IntKind) (p : Pk) : Value := .agg (encPkK k p).toArray
theorem ePkK_len (k : IntKind) (p : Pk) : (encPkK k p).length = 26 := rfl
theorem ePkK_cell (k : IntKind) (p : Pk) : ∀ v ∈ encPkK k p, v.oneCell' = true := by
  intro v hv
  have : (encPkK k p).all (fun v => v.oneCell') = true := rfl
  exact List.all_eq_true.1 this v hv
def pkB (k : IntKind) (t : Slc × Slc × PkO) : Asn := star (ownS (eKd k) 1 t.1 t.2.2.codes) (ownS encPr 4 t.2.1 t.2.2.props)
theorem pkB_iff {k : IntKind} {t : Slc × Slc × PkO} : sat h (pkB k t :: R) ↔ sat h (ownS (eKd k) 1 t.1 t.2.2.codes :: ownS encPr 4 t.2.1 t.2.2.props :: R) := sat.star_iff
theorem pkB_none {k : IntKind} {o : PkO} (hc : o.codes = []) (hp : o.props = []) (hs : sat h R) : sat h (pkB k (⟨none, 0, 0⟩, ⟨none, 0, 0⟩, o) :: R) := by
  refine pkB_iff.2 ?_
  show sat h (ownS (eKd k) 1 ⟨none, 0, 0⟩ o.codes :: ownS encPr 4 ⟨none, 0, 0⟩ o.props :: R)
  rw [hc, hp]
  exact ownS_nil (ownS_nil hs)
abbrev pkF (t : Slc × Slc × PkO) : Pk := pkT t.2.2 t.1 t.2.1
def pksA (k : IntKind) (s : Slc) (os : List PkO) : Asn := exA fun T : List (Slc × Slc × PkO) => star (pr (T.map (·.2.2) = os)) (star (ownS (encPkK k) 26 s (T.map pkF)) (bigA (pkB k) T))
theorem pks_iff {k : IntKind} {s : Slc} {os : List PkO} : sat h (pksA k s os :: R) ↔ ∃ T : List (Slc × Slc × PkO), T.map (·.2.2) = os ∧ sat h (ownS (encPkK k) 26 s (T.map pkF) :: bigA (pkB k) T :: R) := by
  unfold pksA
  rw [sat.ex_iff]
  simp only [sat.star_iff, sat.pr_iff]
theorem pks_nil {k : IntKind} (hs : sat h R) : sat h (pksA k ⟨none, 0, 0⟩ [] :: R) := pks_iff.2 ⟨[], rfl, ownS_nil (bigA_nil.2 hs)⟩
theorem bigA_cat {α : Type} {f : α → Asn} : ∀ {a b : List α} {R : List Asn}, sat h (bigA f (a ++ b) :: R) ↔ sat h (bigA f a :: bigA f b :: R)
  | [], b, R => by
    rw [List.nil_append]
    exact ⟨fun hs => bigA_nil.2 hs, fun hs => bigA_nil.1 hs⟩
  | x :: a, b, R => by
    rw [List.cons_append, bigA_cons]
    constructor
    · intro hs
      exact bigA_cons.2 ((bigA_cat.1 hs.p1).re [2, 0, 1])
    · intro hs
      exact (bigA_cat.2 ((bigA_cons.1 hs).re [1, 2, 0])).p1
theorem bigA_sing {α : Type} {f : α → Asn} {x : α} : sat h (bigA f [x] :: R) ↔ sat h (f x :: R) := by
  rw [bigA_cons]
  exact ⟨fun hs => bigA_nil.1 hs.p1, fun hs => (bigA_nil.2 hs).p1⟩
theorem pks_push {k : IntKind} {s : Slc} {os : List PkO} {t : Slc × Slc × PkO} (hs : sat h (pksA k s os :: pkB k t :: R)) {elem T : TypeId} {bytes : Nat} {zero : Array Value} (hz : zero.size = 26) (hb0 : 0 < bytes) (hb : (os.length + 1) * bytes ≤ 140737488355328) {Q : Slc → Heap → Prop}
    (hq : ∀ s' h', sat h' (pksA k s' (os ++ [t.2.2]) :: R) → Q s' h') : HM.new (.cells (encPkK k (pkF t)).toArray T) h fun b h' => HM.append elem 26 bytes zero s 1 (srcSlc 26 ⟨some ⟨b, 0, none⟩, 1, 1⟩) h' Q := by
  obtain ⟨L, rfl, hs1⟩ := pks_iff.1 hs
  refine app_new (x := pkF t) (ePkK_len k) (ePkK_cell k) hz hs1 (by decide) hb0 (by simpa using hb) fun s' h' hs2 => ?_
  refine hq s' h' (pks_iff.2 ⟨L ++ [t], by simp, ?_⟩)
  rw [List.map_append]
  exact (bigA_cat.2 ((bigA_sing.2 (hs2.re [2, 1, 0])).p1)).p1
end Go.Proofs.YtfhalebbcbgbdaaGreatDoor
namespace Go.Proofs.YtfhalebbcbgbdaaGreatDoor
open Go.H Go.Proofs
set_option linter.unusedSimpArgs false
set_option linter.unusedVariables false
set_option maxRecDepth 100000
variable {h : Heap} {R : List Asn}
theorem eMs_len (x : MsT) : (encM x).length = 5 := rfl
theorem eMs_cell (x : MsT) : ∀ v ∈ encM x, v.oneCell' = true := by
  intro v hv; simp at hv; rcases hv with rfl | rfl | rfl | rfl | rfl <;> rfl
theorem eF_len (x : FlT) : (encF x).length = 7 := rfl
theorem eF_cell (x : FlT) : ∀ v ∈ encF x, v.oneCell' = true := by
  intro v hv; simp at hv; rcases hv with rfl | rfl | rfl | rfl | rfl | rfl | rfl <;> rfl
abbrev MsU := ByteArray × ByteArray × Int × Bool × ByteArray × Unit
abbrev toU (m : MsT) : MsU := (m.1, m.2.1, m.2.2.1, m.2.2.2.1, m.2.2.2.2, ())
abbrev vMs (m : MsT) : Value := .agg #[.string m.1, .string m.2.1, .int .i64 m.2.2.1, .bool m.2.2.2.1, .string m.2.2.2.2]
theorem load_Ms {a : Addr} {m : MsT} (ha : ∀ j v, (encM m)[j]? = some v → cellH h (a.add j) = some v) {Q : MsU → Heap → Prop} (hq : Q (toU m) h) : HM.loadN [.str, .str, .int .i64, .bool, .str] a h Q :=
  loadN_of (ts := [.str, .str, .int .i64, .bool, .str]) (toU m) (fun i v hv => ha i v hv) hq
theorem packet_of {m : MsT} {id : Int} {dup : Bool} (hs : sat h R) {Q : Value → Heap → Prop} (hq : ∀ c p h', sat h' (pkB .u8 (c, p, pubO m id dup) :: R) → Q (vPkK .u8 (pkT (pubO m id dup) c p)) h') :
    HCalls Tryz.prog 81 #[vMs m, .int .i64 id, .bool dup] h Q := by
  refine outflow_Message_packet_calls (toU m) id dup h Q ?_
  unfold outflow_Message_packet
  refine new_cells hs fun x1 h1 hs1 => ?_
  refine new_cells hs1 fun x2 h2 hs2 => ?_
  refine ⟨m.2.2.1, by rw [add_own]; exact hs2.p1.cell 2, m.2.2.2.1, by rw [add_own]; exact hs2.p1.cell 3, m.1, by rw [add_own]; exact hs2.p1.cell 0, m.2.1, by rw [add_own]; exact hs2.p1.cell 1, ?_⟩
  refine new_cells hs2 fun x7 h3 hs3' => ?_
  (try dsimp only); rw [HM.bind_apply]
  refine storeN_all' hs3' rfl rfl fun h4 hs4 => ?_
  refine ⟨m.2.2.2.2, by rw [add_own]; exact hs4.p2.cell 4, ?_⟩
  refine cut (fun z h' => ∃ p : Slc, sat h' (cells x7 (encPkK .u8 (pkT (pubO m id dup) ⟨none, 0, 0⟩ p)).toArray :: cells x2 (encPkK .u8 Pk_z).toArray :: pkB .u8 (⟨none, 0, 0⟩, p, pubO m id dup) :: R)) ?_ ?_
  · intro K hK
    (try dsimp only); rw [HM.ite_apply]
    by_cases ht : m.2.2.2.2 = ByteArray.mk #[]
    · rw [if_neg (by simp [ht])]
      refine hK _ _ ⟨⟨none, 0, 0⟩, ?_⟩
      have := pkB_none (k := .u8) (o := pubO m id dup) rfl (by simp [pubO, tagP, ht]) hs4
      exact (this.re [1, 2, 0, 3]).p3.drop
    · rw [if_pos (by simp [ht])]
      refine ⟨m.2.2.2.2, by rw [add_own]; exact hs4.p2.cell 4, ?_⟩
      refine new_cells hs4 fun x11 h5 hs5 => ?_
      (try dsimp only); rw [HM.bind_apply, add_own]
      refine store1_cells hs5.p1 (by simp) rfl fun h6 hs6 => ?_
      refine hK _ _ ⟨⟨some ⟨x11, 0, none⟩, 1, 1⟩, ?_⟩
      have hp : (pubO m id dup).props = [(38, 0, tagS, m.2.2.2.2)] := by simp [pubO, tagP, ht]
      have h7 : sat h6 (ownS encPr 4 ⟨some ⟨x11, 0, none⟩, 1, 1⟩ (pubO m id dup).props :: cells x7 (encPkK .u8 (pkT (pubO m id dup) ⟨none, 0, 0⟩ ⟨some ⟨x11, 0, none⟩, 1, 1⟩)).toArray :: cells x2 (encPkK .u8 Pk_z).toArray :: R) := by
        rw [hp]
        exact ownS_mk (o := 0) (cs := (encPr (38, 0, tagS, m.2.2.2.2)).toArray) ⟨rfl, Nat.le_refl _, rfl, by simp, by simp⟩ (hs6.re [1, 0, 2, 3]).p3.drop
      have h8 : sat h6 (ownS (eKd .u8) 1 ⟨none, 0, 0⟩ (pubO m id dup).codes :: ownS encPr 4 ⟨some ⟨x11, 0, none⟩, 1, 1⟩ (pubO m id dup).props :: cells x7 (encPkK .u8 (pkT (pubO m id dup) ⟨none, 0, 0⟩ ⟨some ⟨x11, 0, none⟩, 1, 1⟩)).toArray :: cells x2 (encPkK .u8 Pk_z).toArray :: R) := ownS_nil h7
      exact ((pkB_iff (t := (⟨none, 0, 0⟩, ⟨some ⟨x11, 0, none⟩, 1, 1⟩, pubO m id dup))).2 h8).re [1, 2, 0]
  rintro ⟨⟩ h5 ⟨p, hs5⟩
  refine loadN_cells (ts := Pk_tK .u8) (pkT (pubO m id dup) ⟨none, 0, 0⟩ p) hs5 rfl ?_
  (try dsimp only); rw [HM.bind_apply]
  refine storeN_all' hs5.p1 rfl rfl fun h6 hs6 => ?_
  refine loadN_cells (ts := Pk_tK .u8) (pkT (pubO m id dup) ⟨none, 0, 0⟩ p) hs6 rfl ?_
  exact hq _ _ h6 hs6.drop.drop
theorem goF_cons (o : OutS) (m : MsT) (w : List MsT) : goF o (m :: w) = if 0 < m.2.2.1 ∧ o.most ≤ (o.flights.length : Int) then ({ o with waiting := m :: w }, [])
    else if 0 < m.2.2.1 then ((goF { o with pool := ⟨o.pool.most, nextI o.pool.used o.pool.taken, o.pool.used ++ [nextI o.pool.used o.pool.taken]⟩, flights := o.flights ++ [(nextI o.pool.used o.pool.taken, m, false)] } w).1, pubO m (nextI o.pool.used o.pool.taken) false :: (goF { o with pool := ⟨o.pool.most, nextI o.pool.used o.pool.taken, o.pool.used ++ [nextI o.pool.used o.pool.taken]⟩, flights := o.flights ++ [(nextI o.pool.used o.pool.taken, m, false)] } w).2)
    else ((goF o w).1, pubO m 0 false :: (goF o w).2) := rfl
theorem goF_wait (o : OutS) (l : List MsT) : ∀ (w : List MsT), goF { o with waiting := l } w = goF o w := by
  intro w
  induction w generalizing o with
  | nil => rfl
  | cons m w ih =>
    rw [goF_cons, goF_cons]
    split
    · rfl
    · split
      · have := ih { o with pool := ⟨o.pool.most, nextI o.pool.used o.pool.taken, o.pool.used ++ [nextI o.pool.used o.pool.taken]⟩, flights := o.flights ++ [(nextI o.pool.used o.pool.taken, m, false)] }
        simp only [this]
      · rw [ih o]
set_option maxHeartbeats 4000000 in
theorem goOn_spec {b : Nat} {o : OutS} {ps : List PkO} {s : Slc} (hs : sat h (outA b o :: pksA .u8 s ps :: R)) (hok : FlowOK o) (hps : ps.length ≤ 10000) {Q : Value → Heap → Prop}
    (hq : ∀ h' S, sat h' (outA b (goOnF o).1 :: pksA .u8 S (ps ++ (goOnF o).2) :: R) → Q (.slice S.a S.len S.cap) h') :
    HCalls Tryz.prog 78 #[at0 b, .slice s.a s.len s.cap] h Q := by
  refine outflow_Flow_goOn_calls (some ⟨b, 0, none⟩) s h Q ?_
  unfold outflow_Flow_goOn
  (try dsimp only); rw [HM.bind_apply]
  refine loop_k (γ := OutS × List PkO) (fun g c h' => FlowOK g.1 ∧ g.2.length + g.1.waiting.length ≤ 10300 ∧ (goOnF g.1).1 = (goOnF o).1 ∧ g.2 ++ (goOnF g.1).2 = ps ++ (goOnF o).2 ∧ sat h' (outA b g.1 :: pksA .u8 c.1 g.2 :: R)) (fun g => g.1.waiting.length) (o, ps)
    ⟨hok, by have := hok.wl; simp only; omega, rfl, rfl, hs⟩ ?_
  clear hs hps hok
  rintro ⟨o1, os⟩ ⟨out, ⟨⟩⟩ h1 ⟨hok, hps, he1, he2, hs0⟩ K hnx hd
  simp only at hok hps he1 he2 hs0
  obtain ⟨pb, fl, wt, hs1⟩ := outA_iff.1 hs0
  have hwl : wt.len = o1.waiting.length := (hs1.p3).own_len
  have hfl : fl.len = o1.flights.length := (hs1.p2).own_len
  refine cut (fun z h' => h' = h1 ∧ z.1 = (o1.on && decide (0 < o1.waiting.length))) ?_ ?_
  · intro K2 hK2
    refine ⟨_, rfl, o1.on, by rw [add_own]; exact hs1.cell 2, ?_⟩
    (try dsimp only); rw [HM.ite_apply]
    cases hon : o1.on with
    | false => rw [if_neg (by simp)]; exact hK2 _ _ ⟨rfl, by simp [hon]⟩
    | true =>
      rw [if_pos rfl]
      refine ⟨_, rfl, wt, by rw [add_own]; exact hs1.cell 4, ?_⟩
      refine hK2 _ _ ⟨rfl, ?_⟩
      simp only [hwl, hon, Bool.true_and]
      exact decide_eq_decide.2 (by omega)
  rintro ⟨z, ⟨⟩⟩ h2 ⟨rfl, hz⟩
  simp only at hz
  subst hz
  (try dsimp only); rw [HM.ite_apply]
  by_cases hgo : o1.on = true ∧ 0 < o1.waiting.length
  case neg =>
    rw [if_neg (by rw [Bool.and_eq_true, decide_eq_true_eq]; exact hgo)]
    have e : goOnF o1 = (o1, []) := by
      unfold goOnF
      by_cases hon : o1.on = true
      · rw [if_pos hon]
        have hw : o1.waiting = [] := by
          cases hw : o1.waiting with
          | nil => rfl
          | cons m w => exact absurd ⟨hon, by rw [hw]; simp⟩ hgo
        rw [hw]
        show ({ o1 with waiting := [] }, []) = _
        rw [← hw]
      · rw [if_neg hon]
    rw [e] at he1 he2
    rw [List.append_nil] at he2
    refine hd _ _ (hq h2 out ?_)
    rw [← he1, ← he2]
    exact hs0
  obtain ⟨hon, hw0⟩ := hgo
  rw [if_pos (by simp [hon, hw0])]
  cases hwait : o1.waiting with
  | nil => rw [hwait] at hw0; simp at hw0
  | cons m w =>
  have hwl1 := hok.wl
  have hmq := hok.wq m (by rw [hwait]; exact List.mem_cons_self ..)
  have hwq : ∀ x ∈ w, 0 ≤ x.2.2.1 ∧ x.2.2.1 ≤ 2 := fun x hx => hok.wq x (by rw [hwait]; exact List.mem_cons_of_mem _ hx)
  have hgo : goOnF o1 = goF o1 (m :: w) := by unfold goOnF; rw [if_pos hon, hwait]
  rw [hgo, goF_cons] at he1 he2
  rw [hwait] at hps hs1 hwl hwl1
  have hf64 := hok.f64
  have hm64 := hok.m64
  refine ⟨_, rfl, wt, by rw [add_own]; exact hs1.cell 4, ?_⟩
  (try dsimp only); rw [HM.bind_apply]
  refine idx_row (i := 0) (hs1.p3.own_row eMs_len) (x := m) rfl fun p hp => ?_
  (try dsimp only); rw [HM.bind_apply]
  refine load_Ms hp ?_
  refine new_cells hs1 fun x12 h3 hs2' => ?_
  (try dsimp only); rw [HM.bind_apply]
  refine storeN_all' hs2' rfl rfl fun h4 hs2'' => ?_
  have hs2 : sat h4 (cells x12 (encM m).toArray :: cells b #[at0 pb, .int .i64 o1.most, .bool o1.on, .slice fl.a fl.len fl.cap, .slice wt.a wt.len wt.cap] :: poolA pb o1.pool :: ownS encF 7 fl o1.flights :: ownS encM 5 wt (m :: w) :: pksA .u8 out os :: R) := hs2''
  clear hs2'' hs2' hs1
  refine cut (fun z h' => h' = h4 ∧ z.1 = decide (0 < m.2.2.1 ∧ o1.most ≤ (o1.flights.length : Int))) ?_ ?_
  · intro K2 hK2
    refine ⟨m.2.2.1, by rw [add_own]; exact hs2.cell 2, ?_⟩
    (try dsimp only); rw [HM.ite_apply]
    by_cases hm0 : 0 < m.2.2.1
    · rw [if_pos (by simpa using hm0)]
      refine ⟨_, rfl, fl, by rw [add_own]; exact hs2.p1.cell 3, _, rfl, o1.most, by rw [add_own]; exact hs2.p1.cell 1, ?_⟩
      refine hK2 _ _ ⟨rfl, ?_⟩
      simp only [hfl]
      rw [decide_eq_decide]
      simp [hm0]
    · rw [if_neg (by simpa using hm0)]
      exact hK2 _ _ ⟨rfl, by simp [hm0]⟩
  rintro ⟨z, ⟨⟩⟩ h5 ⟨rfl, hz⟩
  simp only at hz
  subst hz
  (try dsimp only); rw [HM.ite_apply]
  by_cases hfull : 0 < m.2.2.1 ∧ o1.most ≤ (o1.flights.length : Int)
  · rw [if_pos (by simpa using hfull)]
    rw [if_pos hfull] at he1 he2
    rw [List.append_nil] at he2
    refine hd _ _ (hq h5 out ?_)
    rw [← he1, ← he2]
    have : sat h5 (outA b { o1 with waiting := m :: w } :: pksA .u8 out os :: R) := outA_iff.2 ⟨pb, fl, wt, hs2.drop⟩
    exact this
  rw [if_neg (by simpa using hfull)]
  rw [if_neg hfull] at he1 he2
  refine ⟨_, rfl, wt, by rw [add_own]; exact hs2.p1.cell 4, ?_⟩
  (try dsimp only); rw [HM.bind_apply]
  refine slice_own (mx := none) (lo := 1) (hi := (m :: w).length) hs2.p4 eMs_len (by simp) (Nat.le_refl _) ⟨rfl, by simp⟩ (by rw [hwl]; rfl) fun wt' hs3 => ?_
  rw [List.take_length] at hs3
  have hs3' : sat h5 (ownS encM 5 wt' w :: cells x12 (encM m).toArray :: cells b #[at0 pb, .int .i64 o1.most, .bool o1.on, .slice fl.a fl.len fl.cap, .slice wt.a wt.len wt.cap] :: poolA pb o1.pool :: ownS encF 7 fl o1.flights :: pksA .u8 out os :: R) := hs3
  clear hs3 hs2
  refine ⟨_, rfl, ?_⟩
  (try dsimp only); rw [HM.bind_apply, add_own]
  refine store1_cells hs3'.p2 (by simp) rfl fun h6 hs4' => ?_
  have hs4 : sat h6 (cells b #[at0 pb, .int .i64 o1.most, .bool o1.on, .slice fl.a fl.len fl.cap, .slice wt'.a wt'.len wt'.cap] :: ownS encM 5 wt' w :: cells x12 (encM m).toArray :: poolA pb o1.pool :: ownS encF 7 fl o1.flights :: pksA .u8 out os :: R) := hs4'
  clear hs4' hs3'
  refine ⟨m.2.2.1, by rw [add_own]; exact hs4.p2.cell 2, ?_⟩
  refine cut (fun z h' => ∃ (fl' : Slc) (o2 : OutS), o2.on = true ∧ o2.waiting = w ∧ FlowOK o2 ∧ (goF o2 w).1 = (goOnF o).1 ∧ os ++ pubO m z.1 false :: (goF o2 w).2 = ps ++ (goOnF o).2 ∧
      sat h' (cells x12 (encM m).toArray :: cells b #[at0 pb, .int .i64 o2.most, .bool o2.on, .slice fl'.a fl'.len fl'.cap, .slice wt'.a wt'.len wt'.cap] :: poolA pb o2.pool :: ownS encF 7 fl' o2.flights :: ownS encM 5 wt' w :: pksA .u8 out os :: R)) ?_ ?_
  · intro K2 hK2
    (try dsimp only); rw [HM.ite_apply]
    by_cases hm0 : 0 < m.2.2.1
    · rw [if_pos (by simpa using hm0)]
      rw [if_pos hm0] at he1 he2
      dsimp only at he1 he2
      have hroom : (o1.flights.length : Int) < o1.most := by omega
      refine ⟨_, rfl, some ⟨pb, 0, none⟩, by rw [add_own]; exact hs4.cell 0, ?_⟩
      have hfln := hok.flen
      have hpm := hok.pm
      refine bind_callN (Take_spec hs4.p3 (fun hf => absurd hf (by omega)) (fun _ n u hr h7 hs7' => ⟨(u, 0, ()), rfl, ?_⟩))
      have hu := nextI_eq hr
      have hs7 : sat h7 (poolA pb ⟨o1.pool.most, u, o1.pool.used ++ [u]⟩ :: cells b #[at0 pb, .int .i64 o1.most, .bool o1.on, .slice fl.a fl.len fl.cap, .slice wt'.a wt'.len wt'.cap] :: ownS encM 5 wt' w :: cells x12 (encM m).toArray :: ownS encF 7 fl o1.flights :: pksA .u8 out os :: R) := hs7'
      clear hs7'
      refine ⟨_, rfl, fl, by rw [add_own]; exact hs7.p1.cell 3, ?_⟩
      refine loadN_cells (ts := [.str, .str, .int .i64, .bool, .str]) (toU m) hs7.p3 rfl ?_
      refine new_cells hs7 fun x31 h8 hs8 => ?_
      refine ⟨fl, by rw [add_own]; exact hs8.p2.cell 3, rfl, ?_⟩
      (try dsimp only); rw [HM.bind_apply]
      refine append_own (enc := encF) (ys := [(u, m, false)]) eF_len eF_cell rfl hs8.p5 rfl ?_ (by decide) (by decide) (by omega) fun fl' h9 hs9 => ?_
      · simp only [srcSlc, Nat.one_mul, List.flatMap_cons, List.flatMap_nil, List.append_nil]
        exact hs8.reads rfl
      refine ⟨_, rfl, ?_⟩
      (try dsimp only); rw [HM.bind_apply, add_own]
      refine store1_cells hs9.p3 (by simp) rfl fun h10 hs10 => ?_
      have htk := hok.take (m := m) (w := w) (by simp only [List.length_cons] at hwl1; omega) hwq ⟨hm0, hmq.2⟩ hroom
      rw [hu] at he1 he2 htk
      refine hK2 _ _ ⟨fl', { o1 with pool := ⟨o1.pool.most, u, o1.pool.used ++ [u]⟩, flights := o1.flights ++ [(u, m, false)], waiting := w }, hon, rfl, htk, ?_, ?_, (hs10.re [2, 5, 0, 3, 1, 4, 6]).drop⟩
      · rw [← he1]
        exact congrArg Prod.fst (goF_wait { o1 with pool := ⟨o1.pool.most, u, o1.pool.used ++ [u]⟩, flights := o1.flights ++ [(u, m, false)] } w w)
      · rw [← he2]
        have := congrArg Prod.snd (goF_wait { o1 with pool := ⟨o1.pool.most, u, o1.pool.used ++ [u]⟩, flights := o1.flights ++ [(u, m, false)] } w w)
        simp only at this ⊢
        rw [this]
    · rw [if_neg (by simpa using hm0)]
      rw [if_neg hm0] at he1 he2
      dsimp only at he1 he2
      refine hK2 _ _ ⟨fl, { o1 with waiting := w }, hon, rfl, ⟨hok.pm, hok.pk, hok.m1, hok.m64, hok.ids, by simp only [List.length_cons] at hwl1 ⊢; omega, hok.fq, hwq⟩, ?_, ?_, hs4.re [2, 0, 3, 4, 1]⟩
      · rw [← he1, goF_wait]
      · rw [← he2, goF_wait]
  rintro ⟨id, ⟨⟩⟩ h7 ⟨fl', o2, hon2, hw2, hok2, he3, he4, hs5⟩
  simp only at he4
  refine loadN_cells (ts := [.str, .str, .int .i64, .bool, .str]) (toU m) hs5 rfl ?_
  refine bind_call1 (packet_of (m := m) (id := id) (dup := false) hs5 fun c p h8 hs6 => ⟨pkT (pubO m id false) c p, rfl, ?_⟩)
  refine pks_push (t := (c, p, pubO m id false)) (hs6.re [6, 0, 1, 2, 3, 4, 5]) rfl (by decide) (by simp only [List.length_cons] at hps; omega) fun out' h9 hs7 => ?_
  have e2 : goOnF o2 = goF o2 w := by unfold goOnF; rw [if_pos hon2, hw2]
  refine hnx (o2, os ++ [pubO m id false]) _ _ (by simp only [hwait, hw2, List.length_cons]; omega) ⟨hok2, ?_, by rw [e2]; exact he3, by rw [e2, List.append_assoc]; exact he4, ?_⟩
  · simp only [hw2, List.length_append, List.length_cons, List.length_nil] at hps ⊢
    omega
  · refine outA_iff.2 ⟨pb, fl', wt', ?_⟩
    rw [hw2]
    exact (hs7.re [2, 3, 4, 5, 0, 1]).re [0, 1, 2, 3, 4, 5] |> fun hh => (hh.re [5, 0, 1, 2, 3, 4]).drop
end Go.Proofs.YtfhalebbcbgbdaaGreatDoor
namespace Go.Proofs.YtfhalebbcbgbdaaGreatDoor
open Go.H Go.Proofs
instance : Enc encM 5 := ⟨eMs_len, eMs_cell, by decide⟩
instance : Enc encF 7 := ⟨eF_len, eF_cell, by decide⟩
instance (k : IntKind) : Enc (encPkK k) 26 := ⟨ePkK_len k, ePkK_cell k, by decide⟩
instance (k : IntKind) : Enc (eKd k) 1 := ⟨eKd_len k, eKd_cell k, by decide⟩
instance : Enc encPr 4 := ⟨ePr_len, ePr_cell, by decide⟩
end Go.Proofs.YtfhalebbcbgbdaaGreatDoor
namespace Go.Proofs.YtfhalebbcbgbdaaGreatDoor
set_option linter.unusedSimpArgs false
set_option linter.unusedVariables false
open Go.Proofs Go.Shelf
def u8_ren : Go.Shelf.Ren := ⟨fun n => match n with | 197 => 188 | 260 => 212 | n => n, fun n => match n with | 9 => 9 | 21 => 21 | 3 => 3 | 4 => 4 | 5 => 5 | 105 => 278 | 119 => 308 | 0 => 0 | 46 => 204 | 139 => 311 | 138 => 310 | n => n, fun n => match n with | 3 => 6 | 4 => 7 | n => n⟩
theorem u8 : Lays.n197 Tryz.prog u8_ren where
  mixed := by kernel_rfl
  f197 := Tryz.func188.trans (congrArg some (by kernel_rfl))
  f260 := Tryz.func212.trans (congrArg some (by kernel_rfl))
  t0 := Tryz.underlying0
  a0 := Tryz.isAgg0
  z0 := Tryz.sizeOf0
  v0 := Tryz.zeroValue0
  t3 := Tryz.underlying3
  a3 := Tryz.isAgg3
  z3 := Tryz.sizeOf3
  v3 := Tryz.zeroValue3
  t4 := Tryz.underlying4
  a4 := Tryz.isAgg4
  z4 := Tryz.sizeOf4
  v4 := Tryz.zeroValue4
  t5 := Tryz.underlying5
  a5 := Tryz.isAgg5
  z5 := Tryz.sizeOf5
  v5 := Tryz.zeroValue5
  t9 := Tryz.underlying9
  a9 := Tryz.isAgg9
  z9 := Tryz.sizeOf9
  v9 := Tryz.zeroValue9
  t21 := Tryz.underlying21
  a21 := Tryz.isAgg21
  z21 := Tryz.sizeOf21
  v21 := Tryz.zeroValue21
  t46 := Tryz.underlying204
  a46 := Tryz.isAgg204
  z46 := Tryz.sizeOf204
  v46 := Tryz.zeroValue204
  t105 := Tryz.underlying278
  a105 := Tryz.isAgg278
  z105 := Tryz.sizeOf278
  v105 := Tryz.zeroValue278
  t119 := Tryz.underlying308
  a119 := Tryz.isAgg308
  z119 := Tryz.sizeOf308
  t138 := Tryz.underlying310
  a138 := Tryz.isAgg310
  z138 := Tryz.sizeOf310
  v138 := Tryz.zeroValue310
  t139 := Tryz.underlying311
  a139 := Tryz.isAgg311
  z139 := Tryz.sizeOf311
  v139 := Tryz.zeroValue311
  g3 := by kernel_rfl
  g4 := by kernel_rfl
end Go.Proofs.YtfhalebbcbgbdaaGreatDoor
namespace Go.Proofs.YtfhalebbcbgbdaaGreatDoor
open Go.H Go.Proofs
set_option linter.unusedSimpArgs false
set_option linter.unusedVariables false
set_option synthInstance.maxSize 100000
set_option synthInstance.maxHeartbeats 400000
def U8 (h0 : Heap) : Prop :=
  (∀ c, c < 256 → cellH h0 ⟨u8_ren.g 3, c, none⟩ = some (.int .u8 (Lib.firstT c))) ∧
  (∀ i, i < 16 → cellH h0 ⟨u8_ren.g 4, 2 * i, none⟩ = some (.int .u8 (Lib.accLo i)) ∧ cellH h0 ⟨u8_ren.g 4, 2 * i + 1, none⟩ = some (.int .u8 (Lib.accHi i)))
theorem U8.tabs {h h0 : Heap} {R : List Asn} (ht : U8 h0) (hs : sat h (old h0 :: R)) {w : World} (hw : w.heap = h) : Lib.Utf8Tabs (u8_ren.g 3) (u8_ren.g 4) w := by
  subst hw
  exact ⟨fun c hc => hs.old_cell (ht.1 c hc), fun i hi => ⟨hs.old_cell (ht.2 i hi).1, hs.old_cell (ht.2 i hi).2⟩⟩
theorem Decode_spec {h h0 : Heap} {R : List Asn} (hs : sat h (old h0 :: R)) (ht : U8 h0) (s : ByteArray) {Q : Value → Heap → Prop}
    (hq : ∀ h', sat h' (old h0 :: R) → Q (.tuple #[.int .i32 (Lib.decodeGo s).1, .int .i64 (Lib.decodeGo s).2]) h') : HCalls Tryz.prog 188 #[.string s] h Q :=
  calls_below hs (fun w hw => Any.utf8_DecodeRuneInString u8 s w (ht.tabs hs hw)) hq
def nextLen (s : ByteArray) : Nat := if (Lib.decodeGo s).1 = 0 ∨ ((Lib.decodeGo s).1 = 65533 ∧ (Lib.decodeGo s).2 < 2) then 0 else (Lib.decodeGo s).2
theorem nextLen_le (s : ByteArray) : nextLen s ≤ s.size := by
  unfold nextLen
  split
  · exact Nat.zero_le _
  · exact Lib.decodeGo_le_size s
theorem next_spec {h h0 : Heap} {R : List Asn} (hs : sat h (old h0 :: R)) (ht : U8 h0) (s : ByteArray) {Q : Value → Heap → Prop}
    (hq : ∀ h', sat h' (old h0 :: R) → Q (.int .i64 (nextLen s)) h') : HCalls Tryz.prog 195 #[.string s] h Q := by
  refine text_next_calls s h Q ?_
  unfold text_next
  simp
  refine Decode_spec hs ht s fun h' hs' => ?_
  have := hq h' hs'
  unfold nextLen at this
  by_cases g1 : (Lib.decodeGo s).1 = 0
  · simpa [g1] using this
  · by_cases g2 : (Lib.decodeGo s).1 = 65533
    · by_cases g3 : (Lib.decodeGo s).2 < 2
      · have g3' : ((Lib.decodeGo s).2 : Int) < 2 := by omega
        simpa [g1, g2, g3, g3'] using this
      · have g3' : ¬ ((Lib.decodeGo s).2 : Int) < 2 := by omega
        simpa [g1, g2, g3, g3'] using this
    · have g2' : ¬ ((Lib.decodeGo s).1 : Int) = 65533 := by omega
      simpa [g1, g2, g2'] using this
def faultGo (s : ByteArray) : Nat → Nat → Option Nat
  | 0, _ => none
  | f + 1, at' => if at' < s.size then (if nextLen (s.extract at' s.size) = 0 then some at' else faultGo s f (at' + nextLen (s.extract at' s.size))) else none
def faultOf (s : ByteArray) : Option Nat := faultGo s (s.size + 1) 0
def faultV : Option Nat → Value
  | some n => .tuple #[.int .i64 n, .bool true]
  | none => .tuple #[.int .i64 0, .bool false]
theorem Fault_spec {h h0 : Heap} {R : List Asn} (hs : sat h (old h0 :: R)) (ht : U8 h0) (s : ByteArray) (hsz : s.size ≤ 9223372036854775807) {Q : Value → Heap → Prop}
    (hq : ∀ h', sat h' (old h0 :: R) → Q (faultV (faultOf s)) h') : HCalls Tryz.prog 157 #[.string s] h Q := by
  refine text_Fault_calls s h Q ?_
  unfold text_Fault
  simp only [HM.bind_apply]
  refine loop_gx (γ := Nat × Nat) (fun g c h' => c.1 = (g.2 : Int) ∧ g.2 ≤ s.size ∧ s.size - g.2 < g.1 ∧ faultGo s g.1 g.2 = faultOf s ∧ sat h' (old h0 :: R)) (fun g => g.1) (s.size + 1, 0) ⟨rfl, Nat.zero_le _, by simp, rfl, hs⟩ ?_
  rintro ⟨f, at'⟩ ⟨c, ⟨⟩⟩ h1 ⟨hc, hle, hf, hg, hs1⟩
  simp only at hc hle hf hg
  subst hc
  cases f with
  | zero => omega
  | succ f =>
  simp only [faultGo] at hg
  by_cases hlt : at' < s.size
  · rw [if_pos hlt] at hg
    have hlt' : (at' : Int) < (s.size : Int) := by omega
    simp [hlt']
    refine ⟨at', s.size, rfl, ⟨rfl, by omega⟩, ?_⟩
    refine next_spec hs1 ht _ fun h2 hs2 => ?_
    have hn := nextLen_le (s.extract at' s.size)
    generalize nextLen (s.extract at' s.size) = n at hg hn ⊢
    have hsize : (s.extract at' s.size).size = s.size - at' := by simp
    rw [hsize] at hn
    by_cases h0 : n = 0
    · rw [if_pos h0] at hg
      have := hq h2 hs2
      rw [← hg] at this
      simpa [h0, faultV] using this
    · rw [if_neg h0] at hg
      simp [h0]
      exact .mk (f, at' + n) (by simp) ⟨by simp only []; rw [wrap_id (by omega) (by omega)]; rfl, by simp only []; omega, by simp only []; omega, hg, hs2⟩
  · rw [if_neg hlt] at hg
    have hlt' : ¬ (at' : Int) < (s.size : Int) := by omega
    have := hq h1 hs1
    rw [← hg] at this
    simpa [hlt', faultV] using this
end Go.Proofs.YtfhalebbcbgbdaaGreatDoor
namespace Go.Proofs.YtfhalebbcbgbdaaGreatDoor
open Go.H Go.Proofs Go.Lib
set_option linter.unusedSimpArgs false
set_option linter.unusedVariables false
set_option synthInstance.maxSize 100000
set_option synthInstance.maxHeartbeats 400000
def tailN (n k b lo hi : Nat) : Prop := k < n ∧ lo ≤ b ∧ b ≤ hi
instance (n k b lo hi : Nat) : Decidable (tailN n k b lo hi) := by unfold tailN; infer_instance
def charN (n b0 b1 b2 b3 : Nat) : Nat :=
  if 1 ≤ b0 ∧ b0 ≤ 127 then 1
  else if 194 ≤ b0 ∧ b0 ≤ 223 ∧ tailN n 1 b1 128 191 then 2
  else if 224 ≤ b0 ∧ b0 ≤ 239 ∧ tailN n 1 b1 128 191 ∧ tailN n 2 b2 128 191 then (if (b0 = 224 ∧ ¬ tailN n 1 b1 160 191) ∨ (b0 = 237 ∧ ¬ tailN n 1 b1 128 159) then 0 else 3)
  else if 240 ≤ b0 ∧ b0 ≤ 244 ∧ tailN n 1 b1 128 191 ∧ tailN n 2 b2 128 191 ∧ tailN n 3 b3 128 191 then (if (b0 = 240 ∧ ¬ tailN n 1 b1 144 191) ∨ (b0 = 244 ∧ ¬ tailN n 1 b1 128 143) then 0 else 4)
  else 0
def nextN (d : Nat × Nat) : Nat := if d.1 = 0 ∨ (d.1 = 65533 ∧ d.2 < 2) then 0 else d.2
theorem nextN_bad : nextN (65533, 1) = 0 := by decide
theorem nextN_k {x k : Nat} (hx : x ≠ 0) (hk : 2 ≤ k) : nextN (x, k) = k := by
  unfold nextN
  rw [if_neg]
  rintro (h | h)
  · exact hx h
  · have := h.2
    simp only at this
    omega
theorem next_char (n b0 b1 b2 b3 : Nat) (hn : 1 ≤ n) (h0 : b0 < 256) (h1 : b1 < 256) (h2 : b2 < 256) (h3 : b3 < 256) : nextN (decodeN n b0 b1 b2 b3) = charN n b0 b1 b2 b3 := by
  unfold decodeN charN tailN
  split
  · unfold nextN
    by_cases g : b0 = 0
    · subst g; rfl
    · rw [if_neg (show ¬ (b0 = 0 ∨ (b0 = 65533 ∧ 1 < 2)) by omega), if_pos (by omega)]
  split
  · split
    · rw [nextN_k (by omega) (by omega), if_neg (by omega), if_pos (by omega)]
    · rw [nextN_bad, if_neg (by omega), if_neg (by omega), if_neg (by omega), if_neg (by omega)]
  split
  · split
    · rw [nextN_k (by omega) (by omega), if_neg (by omega), if_neg (by omega), if_pos (by omega), if_neg (by omega)]
    · rw [nextN_bad, if_neg (by omega), if_neg (by omega), if_pos (by omega), if_pos (by omega)]
  split
  · split
    · rw [nextN_k (by omega) (by omega), if_neg (by omega), if_neg (by omega), if_neg (by omega), if_pos (by omega), if_neg (by omega)]
    · rw [nextN_bad, if_neg (by omega), if_neg (by omega), if_neg (by omega)]
      split
      · rw [if_pos (by omega)]
      · rfl
  · rw [nextN_bad, if_neg (by omega), if_neg (by omega), if_neg (by omega), if_neg (by omega)]
theorem decode_tail (s : ByteArray) (pos : Nat) (h : pos < s.size) : decodeGo (s.extract pos s.size) = Utf8.decode s pos := by
  have hsz : (s.extract pos s.size).size = s.size - pos := by simp
  have hg : ∀ k, ((s.extract pos s.size).get! k).toNat = (s.get! (pos + k)).toNat := fun k => by
    show (((s.extract pos s.size).data)[k]!).toNat = ((s.data)[pos + k]!).toNat
    rw [ByteArray.data_extract]
    by_cases hk : pos + k < s.size
    · have h1 : pos + k < s.data.size := hk
      rw [getElem!_pos (s.data.extract pos s.size) k (by rw [Array.size_extract]; omega), getElem!_pos s.data (pos + k) h1, Array.getElem_extract]
    · have h1 : ¬ pos + k < s.data.size := hk
      rw [getElem!_neg (s.data.extract pos s.size) k (by rw [Array.size_extract]; omega), getElem!_neg s.data (pos + k) h1]
  unfold decodeGo
  rw [if_neg (by rw [hsz]; omega), decode_at, decode_at, hsz, Nat.sub_zero, hg, hg, hg, hg, Nat.add_zero, Nat.zero_add, Nat.zero_add, Nat.zero_add]
theorem nextLen_char (s : ByteArray) (pos : Nat) (h : pos < s.size) :
    nextLen (s.extract pos s.size) = charN (s.size - pos) (s.get! pos).toNat (s.get! (pos + 1)).toNat (s.get! (pos + 2)).toNat (s.get! (pos + 3)).toNat := by
  rw [← next_char _ _ _ _ _ (by omega) (UInt8.toNat_lt _) (UInt8.toNat_lt _) (UInt8.toNat_lt _) (UInt8.toNat_lt _), ← decode_at, ← decode_tail s pos h]
  rfl
theorem get_bang {s : ByteArray} {k : Nat} (h : k < s.size) : s[k]? = some (s.get! k) := by
  rw [getElem?_pos s k h]
  have h1 : k < s.data.size := h
  show some (s.data[k]) = some (s.data[k]!)
  rw [getElem!_pos s.data k h1]
variable {h : Heap} {R : List Asn}
theorem wrap_byte (b : UInt8) : IntKind.wrap .i64 ((b.toNat : Int)) = (b.toNat : Int) := by
  have := UInt8.toNat_lt b
  exact wrap_id (by omega) (by omega)
theorem rtail_spec {s : ByteArray} (hsz : s.size ≤ 9223372036854775807) {pos k lo hi : Nat} (hpos : pos < s.size) (hk : k ≤ 3) (hlo : lo ≤ 255) (hhi : hi ≤ 255) {Q : Value → Heap → Prop}
    (hq : Q (.bool (decide (tailN (s.size - pos) k (s.get! (pos + k)).toNat lo hi))) h) : HCalls Tryz.prog 217 #[.string s, .int .i64 ((pos + k : Nat) : Int), .int .i64 lo, .int .i64 hi] h Q := by
  refine ref02_tail_calls s _ lo hi h Q ?_
  unfold ref02_tail
  refine bind_cut (fun x h' => h' = h ∧ x.1 = decide (tailN (s.size - pos) k (s.get! (pos + k)).toNat lo hi)) ?_ ?_
  · rw [HM.ite_apply]
    unfold tailN
    by_cases h1 : pos + k < s.size
    · rw [if_pos (by simp only [decide_eq_true_eq]; omega)]
      have hb := get_bang h1
      generalize s.get! (pos + k) = b at hb
      refine ⟨b, by omega, by rw [Int.toNat_natCast]; exact hb, ?_⟩
      dsimp only
      rw [wrap_byte, HM.ite_apply]
      by_cases h2 : lo ≤ b.toNat
      · rw [if_pos (by simp only [decide_eq_true_eq]; omega)]
        refine ⟨b, by omega, by rw [Int.toNat_natCast]; exact hb, rfl, ?_⟩
        dsimp only
        rw [wrap_byte]
        have h3 : k < s.size - pos := by omega
        simp [h2, h3]
      · rw [if_neg (by simp only [decide_eq_true_eq]; omega)]
        exact ⟨rfl, by simp [h2]⟩
    · rw [if_neg (by simp only [decide_eq_true_eq]; omega)]
      have h3 : ¬ k < s.size - pos := by omega
      exact ⟨rfl, by simp [h3]⟩
  rintro ⟨x, ⟨⟩⟩ h1 ⟨rfl, hx⟩
  simp only at hx
  subst hx
  exact hq
set_option maxRecDepth 100000 in
theorem Char_spec {s : ByteArray} (hsz : s.size ≤ 9223372036854775800) {pos : Nat} (hpos : pos < s.size) {Q : Value → Heap → Prop}
    (hq : Q (.int .i64 (nextLen (s.extract pos s.size))) h) : HCalls Tryz.prog 196 #[.string s, .int .i64 pos] h Q := by
  refine ref02_Char_calls s pos h Q ?_
  unfold ref02_Char
  rw [nextLen_char s pos hpos] at hq
  have hb := get_bang hpos
  refine ⟨s.get! pos, by omega, by rw [Int.toNat_natCast]; exact hb, ?_⟩
  dsimp only
  rw [wrap_byte]
  have tl : ∀ (k lo hi : Nat) {Q' : Value → Heap → Prop}, k ≤ 3 → lo ≤ 255 → hi ≤ 255 → Q' (.bool (decide (tailN (s.size - pos) k (s.get! (pos + k)).toNat lo hi))) h →
      HCalls Tryz.prog 217 #[.string s, .int .i64 (IntKind.wrap .i64 ((pos : Int) + k)), .int .i64 lo, .int .i64 hi] h Q' := fun k lo hi Q' h1 h2 h3 hq' => by
    rw [wrap_id (by omega) (by omega), show (pos : Int) + k = ((pos + k : Nat) : Int) by omega]
    exact rtail_spec (by omega) hpos h1 h2 h3 hq'
  have hb0 := UInt8.toNat_lt (s.get! pos)
  unfold charN at hq
  generalize (s.get! pos).toNat = b0 at hq hb0
  refine bind_cut (fun x h' => h' = h ∧ x.1 = decide (1 ≤ b0 ∧ b0 ≤ 127)) ?_ ?_
  · by_cases g1 : 1 ≤ b0
    · have : (1 : Int) ≤ b0 := by omega
      simp [g1, this]; omega
    · have : ¬ (1 : Int) ≤ b0 := by omega
      simp [g1, this]
  rintro ⟨x, ⟨⟩⟩ h1 ⟨rfl, hx⟩
  simp only at hx
  subst hx
  (try dsimp only); rw [HM.ite_apply]
  by_cases c1 : 1 ≤ b0 ∧ b0 ≤ 127
  · rw [if_pos (by simpa using c1)]
    rw [if_pos c1] at hq
    exact hq
  rw [if_neg (by simpa using c1)]
  rw [if_neg c1] at hq
  refine bind_call1 (tl 1 128 191 (by decide) (by decide) (by decide) ⟨_, rfl, ?_⟩)
  refine bind_call1 (tl 2 128 191 (by decide) (by decide) (by decide) ⟨_, rfl, ?_⟩)
  refine bind_call1 (tl 3 128 191 (by decide) (by decide) (by decide) ⟨_, rfl, ?_⟩)
  dsimp only
  refine bind_cut (fun x h' => h' = h1 ∧ x.1 = decide (194 ≤ b0 ∧ b0 ≤ 223 ∧ tailN (s.size - pos) 1 (s.get! (pos + 1)).toNat 128 191)) ?_ ?_
  · by_cases g1 : 194 ≤ b0
    · have e1 : (194 : Int) ≤ b0 := by omega
      by_cases g2 : b0 ≤ 223
      · have e2 : (b0 : Int) ≤ 223 := by omega
        simp [g1, g2, e1, e2]
      · have e2 : ¬ (b0 : Int) ≤ 223 := by omega
        simp [g1, g2, e1, e2]
    · have e1 : ¬ (194 : Int) ≤ b0 := by omega
      simp [g1, e1]
  rintro ⟨x, ⟨⟩⟩ h2 ⟨rfl, hx⟩
  simp only at hx
  subst hx
  (try dsimp only); rw [HM.ite_apply]
  by_cases c2 : 194 ≤ b0 ∧ b0 ≤ 223 ∧ tailN (s.size - pos) 1 (s.get! (pos + 1)).toNat 128 191
  · rw [if_pos (by simpa using c2)]
    rw [if_pos c2] at hq
    exact hq
  rw [if_neg (by simpa using c2)]
  rw [if_neg c2] at hq
  refine bind_cut (fun x h' => h' = h2 ∧ x.1 = decide (224 ≤ b0 ∧ b0 ≤ 239 ∧ tailN (s.size - pos) 1 (s.get! (pos + 1)).toNat 128 191 ∧ tailN (s.size - pos) 2 (s.get! (pos + 2)).toNat 128 191)) ?_ ?_
  · by_cases g1 : 224 ≤ b0
    · have e1 : (224 : Int) ≤ b0 := by omega
      by_cases g2 : b0 ≤ 239
      · have e2 : (b0 : Int) ≤ 239 := by omega
        by_cases g3 : tailN (s.size - pos) 1 (s.get! (pos + 1)).toNat 128 191 <;> simp [g1, g2, e1, e2, g3]
      · have e2 : ¬ (b0 : Int) ≤ 239 := by omega
        simp [g1, g2, e1, e2]
    · have e1 : ¬ (224 : Int) ≤ b0 := by omega
      simp [g1, e1]
  rintro ⟨x, ⟨⟩⟩ h3 ⟨rfl, hx⟩
  simp only at hx
  subst hx
  (try dsimp only); rw [HM.ite_apply]
  by_cases c3 : 224 ≤ b0 ∧ b0 ≤ 239 ∧ tailN (s.size - pos) 1 (s.get! (pos + 1)).toNat 128 191 ∧ tailN (s.size - pos) 2 (s.get! (pos + 2)).toNat 128 191
  · rw [if_pos (by simpa using c3)]
    rw [if_pos c3] at hq
    refine bind_call1 (tl 1 160 191 (by decide) (by decide) (by decide) ⟨_, rfl, ?_⟩)
    refine bind_call1 (tl 1 128 159 (by decide) (by decide) (by decide) ⟨_, rfl, ?_⟩)
    dsimp only
    refine bind_cut (fun x h' => h' = h3 ∧ x.1 = decide ((b0 = 224 ∧ ¬ tailN (s.size - pos) 1 (s.get! (pos + 1)).toNat 160 191) ∨ (b0 = 237 ∧ ¬ tailN (s.size - pos) 1 (s.get! (pos + 1)).toNat 128 159))) ?_ ?_
    · by_cases g1 : b0 = 224
      · subst g1
        by_cases g2 : tailN (s.size - pos) 1 (s.get! (pos + 1)).toNat 160 191 <;> simp [g2]
      · have e1 : ¬ (b0 : Int) = 224 := by omega
        by_cases g3 : b0 = 237
        · subst g3
          simp
        · have e3 : ¬ (b0 : Int) = 237 := by omega
          simp [g1, g3, e1, e3]
    rintro ⟨x, ⟨⟩⟩ h4 ⟨rfl, hx⟩
    simp only at hx
    subst hx
    (try dsimp only); rw [HM.ite_apply]
    by_cases c4 : (b0 = 224 ∧ ¬ tailN (s.size - pos) 1 (s.get! (pos + 1)).toNat 160 191) ∨ (b0 = 237 ∧ ¬ tailN (s.size - pos) 1 (s.get! (pos + 1)).toNat 128 159)
    · rw [if_pos (by simp only [c4, decide_true])]
      rw [if_pos c4] at hq
      exact hq
    · rw [if_neg (by simp only [c4, decide_false, Bool.false_eq_true, not_false_eq_true])]
      rw [if_neg c4] at hq
      exact hq
  rw [if_neg (by simpa using c3)]
  rw [if_neg c3] at hq
  refine bind_cut (fun x h' => h' = h3 ∧ x.1 = decide (240 ≤ b0 ∧ b0 ≤ 244 ∧ tailN (s.size - pos) 1 (s.get! (pos + 1)).toNat 128 191 ∧ tailN (s.size - pos) 2 (s.get! (pos + 2)).toNat 128 191 ∧ tailN (s.size - pos) 3 (s.get! (pos + 3)).toNat 128 191)) ?_ ?_
  · by_cases g1 : 240 ≤ b0
    · have e1 : (240 : Int) ≤ b0 := by omega
      by_cases g2 : b0 ≤ 244
      · have e2 : (b0 : Int) ≤ 244 := by omega
        by_cases g3 : tailN (s.size - pos) 1 (s.get! (pos + 1)).toNat 128 191 <;> by_cases g4 : tailN (s.size - pos) 2 (s.get! (pos + 2)).toNat 128 191 <;> simp [g1, g2, e1, e2, g3, g4]
      · have e2 : ¬ (b0 : Int) ≤ 244 := by omega
        simp [g1, g2, e1, e2]
    · have e1 : ¬ (240 : Int) ≤ b0 := by omega
      simp [g1, e1]
  rintro ⟨x, ⟨⟩⟩ h4 ⟨rfl, hx⟩
  simp only at hx
  subst hx
  (try dsimp only); rw [HM.ite_apply]
  by_cases c5 : 240 ≤ b0 ∧ b0 ≤ 244 ∧ tailN (s.size - pos) 1 (s.get! (pos + 1)).toNat 128 191 ∧ tailN (s.size - pos) 2 (s.get! (pos + 2)).toNat 128 191 ∧ tailN (s.size - pos) 3 (s.get! (pos + 3)).toNat 128 191
  · rw [if_pos (by simpa using c5)]
    rw [if_pos c5] at hq
    refine bind_call1 (tl 1 144 191 (by decide) (by decide) (by decide) ⟨_, rfl, ?_⟩)
    refine bind_call1 (tl 1 128 143 (by decide) (by decide) (by decide) ⟨_, rfl, ?_⟩)
    dsimp only
    refine bind_cut (fun x h' => h' = h4 ∧ x.1 = decide ((b0 = 240 ∧ ¬ tailN (s.size - pos) 1 (s.get! (pos + 1)).toNat 144 191) ∨ (b0 = 244 ∧ ¬ tailN (s.size - pos) 1 (s.get! (pos + 1)).toNat 128 143))) ?_ ?_
    · by_cases g1 : b0 = 240
      · subst g1
        by_cases g2 : tailN (s.size - pos) 1 (s.get! (pos + 1)).toNat 144 191 <;> simp [g2]
      · have e1 : ¬ (b0 : Int) = 240 := by omega
        by_cases g3 : b0 = 244
        · subst g3
          simp
        · have e3 : ¬ (b0 : Int) = 244 := by omega
          simp [g1, g3, e1, e3]
    rintro ⟨x, ⟨⟩⟩ h5 ⟨rfl, hx⟩
    simp only at hx
    subst hx
    (try dsimp only); rw [HM.ite_apply]
    by_cases c6 : (b0 = 240 ∧ ¬ tailN (s.size - pos) 1 (s.get! (pos + 1)).toNat 144 191) ∨ (b0 = 244 ∧ ¬ tailN (s.size - pos) 1 (s.get! (pos + 1)).toNat 128 143)
    · rw [if_pos (by simp only [c6, decide_true])]
      rw [if_pos c6] at hq
      exact hq
    · rw [if_neg (by simp only [c6, decide_false, Bool.false_eq_true, not_false_eq_true])]
      rw [if_neg c6] at hq
      exact hq
  rw [if_neg (by simpa using c5)]
  rw [if_neg c5] at hq
  exact hq
theorem rFault_spec (hs : sat h R) (s : ByteArray) (hsz : s.size ≤ 9223372036854775800) {Q : Value → Heap → Prop} (hq : Q (faultV (faultOf s)) h) :
    HCalls Tryz.prog 158 #[.string s] h Q := by
  refine ref02_Fault_calls s h Q ?_
  unfold ref02_Fault
  rw [HM.bind_apply]
  refine loop_gx (γ := Nat × Nat) (fun g c h' => c.1 = (g.2 : Int) ∧ g.2 ≤ s.size ∧ s.size - g.2 < g.1 ∧ faultGo s g.1 g.2 = faultOf s ∧ h' = h) (fun g => g.1) (s.size + 1, 0) ⟨rfl, Nat.zero_le _, by simp, rfl, rfl⟩ ?_
  rintro ⟨f, at'⟩ ⟨c, ⟨⟩⟩ h1 ⟨hc, hle, hf, hg, rfl⟩
  simp only at hc hle hf hg
  subst hc
  cases f with
  | zero => omega
  | succ f =>
  simp only [faultGo] at hg
  (try dsimp only); rw [HM.ite_apply]
  by_cases hlt : at' < s.size
  · rw [if_pos hlt] at hg
    rw [if_pos (by simp only [decide_eq_true_eq]; omega)]
    refine bind_call1 (Char_spec hsz hlt ⟨((nextLen (s.extract at' s.size) : Nat) : Int), rfl, ?_⟩)
    have hn := nextLen_le (s.extract at' s.size)
    generalize nextLen (s.extract at' s.size) = n at hg hn ⊢
    have hsize : (s.extract at' s.size).size = s.size - at' := by simp
    rw [hsize] at hn
    (try dsimp only); rw [HM.ite_apply]
    by_cases h0 : n = 0
    · rw [if_pos h0] at hg
      rw [← hg] at hq
      rw [if_pos (by simp [h0])]
      simp only [Sum.elim_inl, Sum.elim_inr, HM.pure_apply]
      exact hq
    · rw [if_neg h0] at hg
      rw [if_neg (by simp [h0])]
      simp only [Sum.elim_inl, Sum.elim_inr, HM.pure_apply]
      exact .mk (f, at' + n) (by simp) ⟨by simp only []; rw [wrap_id (by omega) (by omega)]; rfl, by simp only []; omega, by simp only []; omega, hg, rfl⟩
  · rw [if_neg hlt] at hg
    rw [← hg] at hq
    rw [if_neg (by simp only [decide_eq_true_eq]; omega)]
    simp only [Sum.elim_inl, Sum.elim_inr, HM.pure_apply]
    exact hq
end Go.Proofs.YtfhalebbcbgbdaaGreatDoor
namespace Go.Proofs.YtfhalebbcbgbdaaGreatDoor
open Go.H Go.Proofs Go.Lib
set_option linter.unusedSimpArgs false
set_option linter.unusedVariables false
theorem index_hit_c (c : UInt8) : ∀ (x r : List UInt8), c ∉ x → indexByte (x ++ c :: r) c = x.length
  | [], r, _ => by simp [indexByte]
  | b :: x, r, h => by
    simp only [List.mem_cons, not_or] at h
    have hb : (b == c) = false := by simpa using fun e => h.1 e.symm
    have ih := index_hit_c c x r h.2
    simp only [List.cons_append, indexByte, hb, ih]
    have : ¬ (((x.length : Nat) : Int) == -1) = true := by simp
    simp only [Bool.false_eq_true, if_false, if_neg this, List.length_cons]
    omega
theorem index_miss_c (c : UInt8) : ∀ (x : List UInt8), c ∉ x → indexByte x c = -1
  | [], _ => rfl
  | b :: x, h => by
    simp only [List.mem_cons, not_or] at h
    have hb : (b == c) = false := by simpa using fun e => h.1 e.symm
    simp [indexByte, hb, index_miss_c c x h.2]
theorem hit_c (c : UInt8) (x r : List UInt8) (h : c ∉ x) : index (x ++ c :: r) [c] = x.length := by rw [index_one]; exact index_hit_c c x r h
theorem miss_c (c : UInt8) (x : List UInt8) (h : c ∉ x) : index x [c] = -1 := by rw [index_one]; exact index_miss_c c x h
theorem split_hit_c (c : UInt8) (x r : List UInt8) (k : Nat) (h : c ∉ x) : splitK [c] 0 (k + 1) (x ++ c :: r) = x :: splitK [c] 0 k r := by
  have hi := hit_c c x r h
  have hn : ¬ (index (x ++ c :: r) [c] == -1) = true := by rw [hi]; simp
  simp only [splitK, if_neg hn, hi]
  congr 1
  all_goals simp
theorem split_miss_c (c : UInt8) (x : List UInt8) (k : Nat) (h : c ∉ x) : splitK [c] 0 k x = [x] := by
  cases k with
  | zero => rfl
  | succ k => simp [splitK, miss_c c x h]
theorem count_hit_c (c : UInt8) (x r : List UInt8) (h : c ∉ x) : count (x ++ c :: r) [c] = 1 + count r [c] := by
  rw [count_hit (by simp) (hit_c c x r h)]
  simp
theorem count_miss_c (c : UInt8) (x : List UInt8) (h : c ∉ x) : count x [c] = 0 := count_miss (miss_c c x h)
def lev (c : UInt8) : List UInt8 → List UInt8 → List (List UInt8)
  | x, [] => [x]
  | x, b :: r => if b = c then x :: lev c [] r else lev c (x ++ [b]) r
theorem lev_split (c : UInt8) : ∀ (r x : List UInt8), c ∉ x → splitK [c] 0 (count (x ++ r) [c]) (x ++ r) = lev c x r
  | [], x, h => by
    rw [List.append_nil, count_miss_c c x h, split_miss_c c x _ h]
    rfl
  | b :: r, x, h => by
    by_cases hb : b = c
    · subst hb
      rw [count_hit_c b x r h, Nat.add_comm, split_hit_c b x r _ h]
      have ih := lev_split b r [] (by simp)
      rw [List.nil_append] at ih
      rw [ih]
      simp [lev]
    · have ih := lev_split c r (x ++ [b]) (by simp [h, Ne.symm hb])
      rw [List.append_assoc] at ih
      simp only [lev, if_neg hb]
      exact ih
theorem lev_len (c : UInt8) : ∀ (r x : List UInt8), (lev c x r).length = r.count c + 1
  | [], x => rfl
  | b :: r, x => by
    by_cases hb : b = c
    · subst hb
      simp only [lev, if_pos, List.length_cons, List.count_cons_self, lev_len b r []]
    · simp only [lev, if_neg hb, lev_len c r (x ++ [b]), List.count_cons_of_ne hb]
theorem data_inj {x y : ByteArray} (h : x.data.toList = y.data.toList) : x = y := by
  cases x; cases y
  simp at h
  rw [h]
theorem map_data_inj : ∀ {xs ys : List ByteArray}, xs.map (·.data.toList) = ys.map (·.data.toList) → xs = ys
  | [], [], _ => rfl
  | [], _ :: _, h => by simp at h
  | _ :: _, [], h => by simp at h
  | x :: xs, y :: ys, h => by
    simp only [List.map_cons, List.cons.injEq] at h
    rw [data_inj h.1, map_data_inj h.2]
def slash : ByteArray := ByteArray.mk #[47]
def levels (s : ByteArray) : List ByteArray := splitB slash 0 (countB s slash) s
theorem levels_data (s : ByteArray) : (levels s).map (·.data.toList) = lev 47 [] s.data.toList := by
  unfold levels
  rw [splitB_data]
  exact lev_split 47 s.data.toList [] (by simp)
theorem levels_len (s : ByteArray) : (levels s).length = s.data.toList.count 47 + 1 := by
  have := congrArg List.length (levels_data s)
  rw [List.length_map, lev_len] at this
  exact this
theorem levels_ne (s : ByteArray) : levels s ≠ [] := fun h => by
  have := levels_len s
  rw [h] at this
  simp at this
theorem lev_le (c : UInt8) : ∀ (r x : List UInt8), ∀ y ∈ lev c x r, y.length ≤ x.length + r.length
  | [], x, y, h => by rw [List.mem_singleton.1 h]; simp
  | b :: r, x, y, h => by
    unfold lev at h
    split at h
    · rcases List.mem_cons.1 h with rfl | h
      · simp
      · have := lev_le c r [] y h
        simp at this ⊢
        omega
    · have := lev_le c r (x ++ [b]) y h
      simp at this ⊢
      omega
theorem levels_le {s x : ByteArray} (h : x ∈ levels s) : x.size ≤ s.size := by
  have h1 : x.data.toList ∈ lev 47 [] s.data.toList := by rw [← levels_data]; exact List.mem_map_of_mem h
  have := lev_le 47 _ _ _ h1
  simp only [List.length_nil, Nat.zero_add, Array.length_toList] at this
  exact this
def plusS : ByteArray := ByteArray.mk #[43]
def hashS : ByteArray := ByteArray.mk #[35]
def hasB (c : UInt8) (s : ByteArray) : Bool := decide (c ∈ s.data.toList)
theorem index_pos (c : UInt8) : ∀ l : List UInt8, 0 ≤ indexByte l c ↔ c ∈ l
  | [] => by simp [indexByte]
  | b :: l => by
    by_cases hb : b = c
    · subst hb
      simp [indexByte]
    · have ih := index_pos c l
      have hb' : (b == c) = false := by simpa using hb
      have hge := indexByte_ge l c
      simp only [indexByte, hb', Bool.false_eq_true, if_false, List.mem_cons, Ne.symm hb, false_or]
      rw [← ih]
      by_cases h1 : indexByte l c = -1
      · simp [h1]
      · have h2 : ¬ (indexByte l c == -1) = true := by simpa using h1
        rw [if_neg h2]
        omega
theorem has_index (c : UInt8) (s : ByteArray) : decide (0 ≤ indexByte s.data.toList c) = hasB c s := by
  unfold hasB
  simp only [index_pos]
def sizedT (s : ByteArray) : Bool := (faultOf s).isNone && decide (s.size ≠ 0) && decide (s.size ≤ 256) && decide ((levels s).length ≤ 32)
def nameOK (s : ByteArray) : Bool := sizedT s && !hasB 43 s && !hasB 35 s
def filtG : List ByteArray → Bool
  | [] => true
  | x :: r => (if hasB 35 x then (r.isEmpty && decide (x.size ≤ 1)) else (!hasB 43 x || decide (x.size ≤ 1))) && filtG r
def filterOK (s : ByteArray) : Bool := sizedT s && filtG (levels s)
theorem sizedT_iff {s : ByteArray} : sizedT s = true ↔ faultOf s = none ∧ s.size ≠ 0 ∧ s.size ≤ 256 ∧ (levels s).length ≤ 32 := by
  unfold sizedT
  simp [Option.isNone_iff_eq_none, and_assoc]
theorem sizedT_le {s : ByteArray} (h : sizedT s = true) : s.size ≤ 256 := (sizedT_iff.1 h).2.2.1
theorem nameOK_sized {s : ByteArray} (h : nameOK s = true) : sizedT s = true := by
  unfold nameOK at h
  simp only [Bool.and_eq_true] at h
  exact h.1.1
theorem filterOK_sized {s : ByteArray} (h : filterOK s = true) : sizedT s = true := by
  unfold filterOK at h
  simp only [Bool.and_eq_true] at h
  exact h.1
theorem has_one {c : UInt8} {x : ByteArray} (h : hasB c x = true) : x.size ≤ 1 ↔ x = ByteArray.mk #[c] := by
  unfold hasB at h
  rw [decide_eq_true_eq] at h
  constructor
  · intro h1
    refine data_inj ?_
    have hl : x.data.toList.length ≤ 1 := by rw [Array.length_toList]; exact h1
    generalize x.data.toList = l at h hl
    match l, h, hl with
    | [b], h, _ => rw [List.mem_singleton.1 h]
    | _ :: _ :: _, _, hl => simp at hl
  · rintro rfl
    exact Nat.le_refl 1
def levBad (x : ByteArray) (last : Bool) : Bool := (hasB 43 x && decide (x ≠ plusS)) || (hasB 35 x && (decide (x ≠ hashS) || !last))
theorem filtG_cons (x : ByteArray) (r : List ByteArray) : filtG (x :: r) = (!levBad x r.isEmpty && filtG r) := by
  unfold levBad
  rw [filtG]
  congr 1
  by_cases h35 : hasB 35 x = true
  · rw [if_pos h35, h35]
    by_cases hx : x = hashS
    · subst hx
      have : hasB 43 hashS = false := rfl
      rw [this]
      cases r.isEmpty <;> rfl
    · have hs : ¬ x.size ≤ 1 := fun h => hx ((has_one h35).1 h)
      simp [hs, hx]
  · rw [if_neg h35]
    simp only [Bool.not_eq_true] at h35
    rw [h35]
    by_cases h43 : hasB 43 x = true
    · rw [h43]
      by_cases hx : x = plusS
      · subst hx
        rfl
      · have hs : ¬ x.size ≤ 1 := fun h => hx ((has_one h43).1 h)
        simp [hs, hx]
    · simp only [Bool.not_eq_true] at h43
      rw [h43]
      rfl
def matchL : List ByteArray → List ByteArray → Bool
  | [], n => n.isEmpty
  | f :: fs, n => if f = hashS then true else match n with
    | [] => false
    | m :: ns => if f ≠ plusS ∧ f ≠ m then false else matchL fs ns
theorem matchL_cons (f : ByteArray) (fs n : List ByteArray) : matchL (f :: fs) n = if f = hashS then true else match n with
    | [] => false
    | m :: ns => if f ≠ plusS ∧ f ≠ m then false else matchL fs ns := by cases n <;> rfl
def eqL : List ByteArray → List ByteArray → Bool
  | [], [] => true
  | a :: l, b :: m => (decide (a = plusS) || decide (a = b)) && eqL l m
  | _, _ => false
def allR (f : List ByteArray) : Bool := decide (f[f.length - 1]? = some hashS)
def cutR (f : List ByteArray) : List ByteArray := if allR f = true then f.take (f.length - 1) else f
def matchP (f n : List ByteArray) : Bool :=
  if n.length < (cutR f).length ∨ (allR f = false ∧ (cutR f).length < n.length) then false else eqL (cutR f) (n.take (cutR f).length)
theorem allR_cons (x y : ByteArray) (r : List ByteArray) : allR (x :: y :: r) = allR (y :: r) := by
  unfold allR
  simp
theorem cutR_cons (x y : ByteArray) (r : List ByteArray) : cutR (x :: y :: r) = x :: cutR (y :: r) := by
  unfold cutR
  rw [allR_cons]
  split
  · simp
  · rfl
theorem match_prog : ∀ (f n : List ByteArray), f ≠ [] → filtG f = true → matchL f n = matchP f n
  | [], _, h, _ => absurd rfl h
  | [x], n, _, hf => by
    rw [matchL_cons]
    unfold matchP
    by_cases hx : x = hashS
    · have ha : allR [x] = true := by simp [allR, hx]
      have hc : cutR [x] = [] := by simp [cutR, ha]
      rw [if_pos hx, ha, hc]
      simp [eqL]
    · have ha : allR [x] = false := by simp [allR, hx]
      have hc : cutR [x] = [x] := by simp [cutR, ha]
      rw [if_neg hx, ha, hc]
      match n with
      | [] => simp
      | [m] =>
        by_cases h1 : x = plusS
        · simp [eqL, matchL, h1]
        · by_cases h2 : x = m <;> simp [eqL, matchL, h1, h2]
      | m :: m' :: ns =>
        by_cases h1 : x = plusS
        · simp [matchL, h1]
        · by_cases h2 : x = m <;> simp [matchL, h1, h2]
  | x :: y :: r, n, _, hf => by
    have hfr : filtG (y :: r) = true := by
      rw [filtG, Bool.and_eq_true] at hf
      exact hf.2
    have hx : x ≠ hashS := fun h => by
      subst h
      rw [filtG_cons] at hf
      have : levBad hashS (y :: r).isEmpty = true := rfl
      rw [this] at hf
      simp at hf
    have ih := fun ns => match_prog (y :: r) ns (by simp) hfr
    rw [matchL_cons, if_neg hx]
    unfold matchP at ih ⊢
    rw [allR_cons, cutR_cons]
    match n with
    | [] => simp
    | m :: ns =>
      have ih := ih ns
      simp only [List.length_cons, Nat.add_lt_add_iff_right, List.take_succ_cons]
      by_cases hc : x ≠ plusS ∧ x ≠ m
      · rw [if_pos hc]
        split
        · rfl
        · simp [eqL, hc.1, hc.2]
      · rw [if_neg hc, ih]
        have hd : (decide (x = plusS) || decide (x = m)) = true := by
          by_cases h1 : x = plusS
          · simp [h1]
          · by_cases h2 : x = m
            · simp [h2]
            · exact absurd ⟨h1, h2⟩ hc
        split
        · rfl
        · simp only [eqL, hd, Bool.true_and]
def dollarB (filter name : ByteArray) : Bool := decide (name.get! 0 = 36) && (decide (filter.get! 0 = 43) || decide (filter.get! 0 = 35))
def matchB (filter name : ByteArray) : Bool := filterOK filter && nameOK name && !dollarB filter name && matchL (levels filter) (levels name)
theorem first_one {s : ByteArray} (h : s.size ≠ 0) (c : UInt8) : s.extract 0 1 = ByteArray.mk #[c] ↔ s.get! 0 = c := by
  obtain ⟨⟨l⟩⟩ := s
  match l with
  | [] => exact absurd rfl h
  | b :: l =>
    have e1 : (ByteArray.mk (List.toArray (b :: l))).get! 0 = b := rfl
    rw [e1]
    constructor
    · intro he
      have := congrArg (fun x : ByteArray => x.data.toList) he
      simp at this
      exact this
    · rintro rfl
      refine data_inj ?_
      simp
end Go.Proofs.YtfhalebbcbgbdaaGreatDoor
namespace Go.Proofs.YtfhalebbcbgbdaaGreatDoor
set_option linter.unusedSimpArgs false
set_option linter.unusedVariables false
open Go.Proofs Go.Shelf
def countL_ren : Go.Shelf.Ren := ⟨fun n => match n with | 138 => 150 | 195 => 187 | 218 => 189 | 143 => 151 | 219 => 190 | 217 => 213 | 225 => 214 | 224 => 215 | 267 => 216 | 266 => 224 | 314 => 225 | n => n, fun n => match n with | 9 => 9 | 3 => 3 | 4 => 4 | 5 => 5 | 0 => 0 | 46 => 204 | 146 => 312 | 51 => 275 | n => n, fun n => match n with | 1 => 3 | n => n⟩
theorem countL : Lays.n138 Tryz.prog countL_ren where
  mixed := by kernel_rfl
  f138 := Tryz.func150.trans (congrArg some (by kernel_rfl))
  f143 := Tryz.func151.trans (congrArg some (by kernel_rfl))
  f195 := Tryz.func187.trans (congrArg some (by kernel_rfl))
  f217 := Tryz.func213.trans (congrArg some (by kernel_rfl))
  f218 := Tryz.func189.trans (congrArg some (by kernel_rfl))
  f219 := Tryz.func190.trans (congrArg some (by kernel_rfl))
  f224 := Tryz.func215.trans (congrArg some (by kernel_rfl))
  f225 := Tryz.func214.trans (congrArg some (by kernel_rfl))
  f266 := Tryz.func224.trans (congrArg some (by kernel_rfl))
  f267 := Tryz.func216.trans (congrArg some (by kernel_rfl))
  f314 := Tryz.func225.trans (congrArg some (by kernel_rfl))
  t0 := Tryz.underlying0
  a0 := Tryz.isAgg0
  z0 := Tryz.sizeOf0
  v0 := Tryz.zeroValue0
  t3 := Tryz.underlying3
  a3 := Tryz.isAgg3
  z3 := Tryz.sizeOf3
  v3 := Tryz.zeroValue3
  t4 := Tryz.underlying4
  a4 := Tryz.isAgg4
  z4 := Tryz.sizeOf4
  v4 := Tryz.zeroValue4
  t5 := Tryz.underlying5
  a5 := Tryz.isAgg5
  z5 := Tryz.sizeOf5
  v5 := Tryz.zeroValue5
  t9 := Tryz.underlying9
  a9 := Tryz.isAgg9
  z9 := Tryz.sizeOf9
  v9 := Tryz.zeroValue9
  t46 := Tryz.underlying204
  a46 := Tryz.isAgg204
  z46 := Tryz.sizeOf204
  v46 := Tryz.zeroValue204
  t51 := Tryz.underlying275
  a51 := Tryz.isAgg275
  z51 := Tryz.sizeOf275
  v51 := Tryz.zeroValue275
  t146 := Tryz.underlying312
  a146 := Tryz.isAgg312
  z146 := Tryz.sizeOf312
  v146 := Tryz.zeroValue312
  g1 := by kernel_rfl
def contL_ren : Go.Shelf.Ren := ⟨fun n => match n with | 144 => 109 | 143 => 151 | 219 => 190 | 217 => 213 | 225 => 214 | 224 => 215 | 267 => 216 | 266 => 224 | 314 => 225 | n => n, fun n => match n with | 9 => 9 | 4 => 4 | 3 => 3 | 5 => 5 | 46 => 204 | 146 => 312 | 51 => 275 | n => n, fun n => match n with | 1 => 3 | n => n⟩
theorem contL : Lays.n144 Tryz.prog contL_ren where
  mixed := by kernel_rfl
  f143 := Tryz.func151.trans (congrArg some (by kernel_rfl))
  f144 := Tryz.func109.trans (congrArg some (by kernel_rfl))
  f217 := Tryz.func213.trans (congrArg some (by kernel_rfl))
  f219 := Tryz.func190.trans (congrArg some (by kernel_rfl))
  f224 := Tryz.func215.trans (congrArg some (by kernel_rfl))
  f225 := Tryz.func214.trans (congrArg some (by kernel_rfl))
  f266 := Tryz.func224.trans (congrArg some (by kernel_rfl))
  f267 := Tryz.func216.trans (congrArg some (by kernel_rfl))
  f314 := Tryz.func225.trans (congrArg some (by kernel_rfl))
  t3 := Tryz.underlying3
  a3 := Tryz.isAgg3
  z3 := Tryz.sizeOf3
  v3 := Tryz.zeroValue3
  t4 := Tryz.underlying4
  a4 := Tryz.isAgg4
  z4 := Tryz.sizeOf4
  v4 := Tryz.zeroValue4
  t5 := Tryz.underlying5
  a5 := Tryz.isAgg5
  z5 := Tryz.sizeOf5
  v5 := Tryz.zeroValue5
  t9 := Tryz.underlying9
  a9 := Tryz.isAgg9
  z9 := Tryz.sizeOf9
  v9 := Tryz.zeroValue9
  t46 := Tryz.underlying204
  a46 := Tryz.isAgg204
  z46 := Tryz.sizeOf204
  v46 := Tryz.zeroValue204
  t51 := Tryz.underlying275
  a51 := Tryz.isAgg275
  z51 := Tryz.sizeOf275
  v51 := Tryz.zeroValue275
  t146 := Tryz.underlying312
  a146 := Tryz.isAgg312
  z146 := Tryz.sizeOf312
  v146 := Tryz.zeroValue312
  g1 := by kernel_rfl
def splitS_ren : Go.Shelf.Ren := ⟨fun n => match n with | 146 => 61 | 221 => 103 | 268 => 149 | 138 => 150 | 143 => 151 | 195 => 187 | 197 => 188 | 218 => 189 | 219 => 190 | 260 => 212 | 217 => 213 | 225 => 214 | 224 => 215 | 267 => 216 | 266 => 224 | 314 => 225 | n => n, fun n => match n with | 9 => 9 | 31 => 32 | 3 => 3 | 4 => 4 | 0 => 0 | 105 => 278 | 21 => 21 | 5 => 5 | 46 => 204 | 119 => 308 | 139 => 311 | 138 => 310 | 146 => 312 | 51 => 275 | n => n, fun n => match n with | 1 => 3 | 3 => 6 | 4 => 7 | n => n⟩
theorem splitS : Lays.n146 Tryz.prog splitS_ren where
  mixed := by kernel_rfl
  f138 := Tryz.func150.trans (congrArg some (by kernel_rfl))
  f143 := Tryz.func151.trans (congrArg some (by kernel_rfl))
  f146 := Tryz.func61.trans (congrArg some (by kernel_rfl))
  f195 := Tryz.func187.trans (congrArg some (by kernel_rfl))
  f197 := Tryz.func188.trans (congrArg some (by kernel_rfl))
  f217 := Tryz.func213.trans (congrArg some (by kernel_rfl))
  f218 := Tryz.func189.trans (congrArg some (by kernel_rfl))
  f219 := Tryz.func190.trans (congrArg some (by kernel_rfl))
  f221 := Tryz.func103.trans (congrArg some (by kernel_rfl))
  f224 := Tryz.func215.trans (congrArg some (by kernel_rfl))
  f225 := Tryz.func214.trans (congrArg some (by kernel_rfl))
  f260 := Tryz.func212.trans (congrArg some (by kernel_rfl))
  f266 := Tryz.func224.trans (congrArg some (by kernel_rfl))
  f267 := Tryz.func216.trans (congrArg some (by kernel_rfl))
  f268 := Tryz.func149.trans (congrArg some (by kernel_rfl))
  f314 := Tryz.func225.trans (congrArg some (by kernel_rfl))
  t0 := Tryz.underlying0
  a0 := Tryz.isAgg0
  z0 := Tryz.sizeOf0
  v0 := Tryz.zeroValue0
  t3 := Tryz.underlying3
  a3 := Tryz.isAgg3
  z3 := Tryz.sizeOf3
  v3 := Tryz.zeroValue3
  t4 := Tryz.underlying4
  a4 := Tryz.isAgg4
  z4 := Tryz.sizeOf4
  v4 := Tryz.zeroValue4
  t5 := Tryz.underlying5
  a5 := Tryz.isAgg5
  z5 := Tryz.sizeOf5
  v5 := Tryz.zeroValue5
  t9 := Tryz.underlying9
  a9 := Tryz.isAgg9
  z9 := Tryz.sizeOf9
  v9 := Tryz.zeroValue9
  t21 := Tryz.underlying21
  a21 := Tryz.isAgg21
  z21 := Tryz.sizeOf21
  v21 := Tryz.zeroValue21
  t31 := Tryz.underlying32
  a31 := Tryz.isAgg32
  z31 := Tryz.sizeOf32
  v31 := Tryz.zeroValue32
  t46 := Tryz.underlying204
  a46 := Tryz.isAgg204
  z46 := Tryz.sizeOf204
  v46 := Tryz.zeroValue204
  t51 := Tryz.underlying275
  a51 := Tryz.isAgg275
  z51 := Tryz.sizeOf275
  v51 := Tryz.zeroValue275
  t105 := Tryz.underlying278
  a105 := Tryz.isAgg278
  z105 := Tryz.sizeOf278
  v105 := Tryz.zeroValue278
  t119 := Tryz.underlying308
  a119 := Tryz.isAgg308
  z119 := Tryz.sizeOf308
  t138 := Tryz.underlying310
  a138 := Tryz.isAgg310
  z138 := Tryz.sizeOf310
  v138 := Tryz.zeroValue310
  t139 := Tryz.underlying311
  a139 := Tryz.isAgg311
  z139 := Tryz.sizeOf311
  v139 := Tryz.zeroValue311
  t146 := Tryz.underlying312
  a146 := Tryz.isAgg312
  z146 := Tryz.sizeOf312
  v146 := Tryz.zeroValue312
  g1 := by kernel_rfl
  g3 := by kernel_rfl
  g4 := by kernel_rfl
end Go.Proofs.YtfhalebbcbgbdaaGreatDoor
namespace Go.H
set_option linter.unusedSimpArgs false
set_option linter.unusedVariables false
open Go.RowKit Go.Maps Go.Sort Go.Shelf Go.Proofs
theorem below_same {B : Nat} {w w' : World} (hb : Below B w w') : Same w w' := ⟨hb.os, hb.tape, hb.output⟩
abbrev eI (x : Int) : List Value := [.int .i64 x]
def sortI (l : List Int) : List Int := l.mergeSort fun x y => decide (x ≤ y)
section
variable {P : Program} {ρk ρs ρt : Ren} {V : Type} {ev : V → Value} {h : Heap} {R : List Asn}
end
end Go.H
namespace Go.H
set_option linter.unusedSimpArgs false
set_option linter.unusedVariables false
open Go.RowKit Go.Maps Go.Sort Go.Shelf Go.Proofs
abbrev eS (x : ByteArray) : List Value := [.string x]
section
variable {P : Program} {ρk ρs ρt : Ren} {V : Type} {ev : V → Value} {h : Heap} {R : List Asn}
end
end Go.H
namespace Go.Proofs.YtfhalebbcbgbdaaGreatDoor
open Go.H Go.Proofs Go.Lib
set_option linter.unusedSimpArgs false
set_option linter.unusedVariables false
set_option synthInstance.maxSize 100000
set_option synthInstance.maxHeartbeats 400000
structure TP (h0 : Heap) : Prop where
  u8 : U8 h0
  maxl : ∃ m, cellH h0 ⟨3, 0, none⟩ = some (.int .i64 m)
theorem eS_len : ∀ x : ByteArray, (eS x).length = 1 := fun _ => rfl
theorem eS_cell : ∀ x : ByteArray, ∀ v ∈ eS x, v.oneCell' = true := fun x v hv => by rw [List.mem_singleton.1 hv]; rfl
variable {h h0 : Heap} {R : List Asn}
theorem own_full {b : Nat} {xs : List ByteArray} (hs : sat h (cells b (xs.map Value.string).toArray :: R)) : sat h (ownS eS 1 ⟨some ⟨b, 0, none⟩, xs.length, xs.length⟩ xs :: R) := by
  refine ownS_mk (o := 0) ⟨rfl, Nat.le_refl _, rfl, by simp, ?_⟩ hs
  simp only [Nat.zero_mul, List.drop_zero, Nat.mul_one, List.toList_toArray]
  rw [List.take_of_length_le (by simp)]
  induction xs with
  | nil => rfl
  | cons x xs ih =>
    rw [List.map_cons, List.flatMap_cons]
    have : ∀ xs : List ByteArray, xs.map Value.string = xs.flatMap eS := fun xs => by
      induction xs with
      | nil => rfl
      | cons y ys ih => rw [List.map_cons, List.flatMap_cons, ih]; rfl
    rw [this xs]
    rfl
theorem Count_spec {s : ByteArray} {Q : Value → Heap → Prop} (hq : Q (.int .i64 ((s.data.toList.count 47 : Nat) : Int)) h) :
    HCalls Tryz.prog 150 #[.string s, .string (ByteArray.mk #[47])] h Q := fun w hw => by
  subst hw
  refine (Any.strings_Count_one countL s 47 w).mono ?_
  rintro e w' ⟨rfl, rfl⟩
  exact ⟨_, rfl, ⟨rfl, rfl, rfl⟩, hq⟩
theorem Contains_spec {s : ByteArray} {c : UInt8} {Q : Value → Heap → Prop} (hq : Q (.bool (hasB c s)) h) :
    HCalls Tryz.prog 109 #[.string s, .string (ByteArray.mk #[c])] h Q := fun w hw => by
  subst hw
  refine (Any.strings_Contains_one contL s c w).mono ?_
  rintro e w' ⟨rfl, rfl⟩
  rw [has_index]
  exact ⟨_, rfl, ⟨rfl, rfl, rfl⟩, hq⟩
theorem Levels_spec (hs : sat h (old h0 :: R)) (ht : TP h0) {s : ByteArray} (hsz : s.size ≤ 256) {Q : Value → Heap → Prop}
    (hq : ∀ (sl : Slc) h', sat h' (ownS eS 1 sl (levels s) :: old h0 :: R) → Q (.slice sl.a sl.len sl.cap) h') :
    HCalls Tryz.prog 108 #[.string s] h Q := by
  refine topic_Levels_calls s h Q ?_
  unfold topic_Levels
  refine bind_call1 (fun w hw => ?_)
  subst hw
  obtain ⟨m, hm⟩ := ht.maxl
  refine (Any.strings_Split splitS (by kernel_rfl) s (ByteArray.mk #[47]) m w (by omega) (hs.old_cell hm) (by decide)).mono ?_
  rintro e w' ⟨rfl, rfl⟩
  have hl : (levels s).length = countB s slash + 1 := splitB_all slash (by decide) 0 _ s rfl
  have := hq ⟨some ⟨w.heap.size, 0, none⟩, (levels s).length, (levels s).length⟩ _ (own_full (hs.push_cells (T := splitS_ren.t 9)))
  rw [hl] at this
  exact ⟨_, rfl, ⟨rfl, rfl, rfl⟩, ⟨some ⟨w.heap.size, 0, none⟩, countB s slash + 1, countB s slash + 1⟩, rfl, this⟩
theorem sized_spec (hs : sat h (old h0 :: R)) (ht : TP h0) {s : ByteArray} (hsz : s.size ≤ 9223372036854775807) {Q : Value → Heap → Prop}
    (hq : ∀ h', sat h' (old h0 :: R) → Q (.bool (sizedT s)) h') : HCalls Tryz.prog 107 #[.string s] h Q := by
  refine topic_sized_calls s h Q ?_
  unfold topic_sized
  refine bind_callN (Fault_spec hs ht.u8 s (by omega) fun h1 hs1 => ⟨(match faultOf s with | some n => ((n : Int), true, ()) | none => (0, false, ())), by cases faultOf s <;> rfl, ?_⟩)
  refine bind_cut (fun x h' => h' = h1 ∧ x.1 = sizedT s) ?_ ?_
  · (try dsimp only); rw [HM.ite_apply]
    cases hf : faultOf s with
    | some n =>
      rw [if_neg (by simp)]
      exact ⟨rfl, by simp [sizedT, hf]⟩
    | none =>
      rw [if_pos (by rfl), HM.ite_apply]
      have he : s = ByteArray.mk #[] ↔ s.size = 0 := by
        constructor
        · rintro rfl; rfl
        · intro h0
          refine data_inj ?_
          have : s.data.toList.length = 0 := by rw [Array.length_toList]; exact h0
          rw [List.length_eq_zero_iff.1 this]
      by_cases h0 : s.size = 0
      · rw [if_neg (by simp [he.2 h0])]
        exact ⟨rfl, by simp [sizedT, h0]⟩
      rw [if_pos (by simpa using fun e => h0 (he.1 e)), HM.ite_apply]
      by_cases h1 : s.size ≤ 256
      · rw [if_pos (by simp only [decide_eq_true_eq]; omega)]
        refine bind_call1 (Count_spec ⟨_, rfl, ?_⟩)
        refine ⟨rfl, ?_⟩
        have e : sizedT s = decide ((levels s).length ≤ 32) := by simp [sizedT, hf, h0, h1]
        rw [e, levels_len]
        simp only [decide_eq_decide]
        omega
      · rw [if_neg (by simp only [decide_eq_true_eq]; omega)]
        exact ⟨rfl, by simp [sizedT, h1]⟩
  rintro ⟨x, ⟨⟩⟩ h2 ⟨rfl, rfl⟩
  exact hq _ hs1
def nameC (s : ByteArray) : Int := if nameOK s = true then 0 else 144
def filtC (s : ByteArray) : Int := if filterOK s = true then 0 else 143
theorem CheckName_spec (hs : sat h (old h0 :: R)) (ht : TP h0) {s : ByteArray} (hsz : s.size ≤ 9223372036854775807) {Q : Value → Heap → Prop}
    (hq : ∀ h', sat h' (old h0 :: R) → Q (.int .u8 (nameC s)) h') : HCalls Tryz.prog 110 #[.string s] h Q := by
  refine topic_CheckName_calls s h Q ?_
  unfold topic_CheckName
  refine bind_cut (fun x h' => sat h' (old h0 :: R) ∧ x.1 = !nameOK s) ?_ ?_
  · refine bind_call1 (sized_spec hs ht hsz fun h1 hs1 => ⟨_, rfl, ?_⟩)
    (try dsimp only); rw [HM.ite_apply]
    cases hz : sizedT s with
    | false =>
      rw [if_pos (by rfl)]
      exact ⟨hs1, by simp [nameOK, hz]⟩
    | true =>
      rw [if_neg (by simp)]
      refine bind_call1 (Contains_spec (c := 43) ⟨_, rfl, ?_⟩)
      (try dsimp only); rw [HM.ite_apply]
      cases h43 : hasB 43 s with
      | true =>
        rw [if_pos rfl]
        exact ⟨hs1, by simp [nameOK, hz, h43]⟩
      | false =>
        rw [if_neg (by simp)]
        refine bind_call1 (Contains_spec (c := 35) ⟨_, rfl, ?_⟩)
        exact ⟨hs1, by simp [nameOK, hz, h43]⟩
  rintro ⟨x, ⟨⟩⟩ h1 ⟨hs1, hx⟩
  simp only at hx
  subst hx
  have := hq _ hs1
  unfold nameC at this
  (try dsimp only); rw [HM.ite_apply]
  cases hn : nameOK s with
  | true => rw [hn, if_pos rfl] at this; rw [if_neg (by simp)]; exact this
  | false => rw [hn, if_neg (by simp)] at this; rw [if_pos (by rfl)]; exact this
theorem filtG_at {l : List ByteArray} {i : Nat} {x : ByteArray} (hx : l[i]? = some x) : l.drop i = x :: l.drop (i + 1) := by
  obtain ⟨hi, rfl⟩ := List.getElem?_eq_some_iff.1 hx
  exact List.drop_eq_getElem_cons hi
set_option maxRecDepth 100000 in
theorem CheckFilter_spec (hs : sat h (old h0 :: R)) (ht : TP h0) {s : ByteArray} (hsz : s.size ≤ 9223372036854775807) {Q : Value → Heap → Prop}
    (hq : ∀ h', sat h' (old h0 :: R) → Q (.int .u8 (filtC s)) h') : HCalls Tryz.prog 65 #[.string s] h Q := by
  refine topic_CheckFilter_calls s h Q ?_
  unfold topic_CheckFilter
  refine bind_call1 (sized_spec hs ht hsz fun h1 hs1 => ⟨_, rfl, ?_⟩)
  (try dsimp only); rw [HM.ite_apply]
  unfold filtC filterOK at hq
  cases hz : sizedT s with
  | false =>
    rw [hz] at hq
    rw [if_pos (by rfl)]
    exact hq _ hs1
  | true =>
  rw [hz, Bool.true_and] at hq
  rw [if_neg (by simp)]
  have hle := sizedT_le hz
  refine bind_call1 (Levels_spec hs1 ht hle fun sl h2 hs2 => ⟨sl, rfl, ?_⟩)
  have hlen := hs2.own_len
  have hrow := hs2.own_row eS_len
  have hn : (levels s).length ≤ 32 := (sizedT_iff.1 hz).2.2.2
  generalize levels s = l at hlen hrow hn hq
  have hs3 := hs2.drop
  clear hs2
  (try dsimp only); rw [HM.bind_apply]
  refine loop_gx (γ := Nat) (fun g c h' => h' = h2 ∧ c.1 = (((l.length - g : Nat)) : Int) ∧ g ≤ l.length ∧ filtG l = filtG (l.drop (l.length - g))) (fun g => g) l.length ⟨rfl, by simp, Nat.le_refl _, by simp⟩ ?_
  rintro g ⟨c, ⟨⟩⟩ h' ⟨rfl, hc, hg, hf⟩
  simp only at hc
  subst hc
  (try dsimp only); rw [HM.ite_apply]
  by_cases hlt : l.length - g < l.length
  · rw [if_pos (by simp only [decide_eq_true_eq, hlen]; omega)]
    obtain ⟨x, hx⟩ : ∃ x, l[l.length - g]? = some x := ⟨_, List.getElem?_eq_getElem hlt⟩
    have hd := filtG_at hx
    rw [hd] at hf
    (try dsimp only); rw [HM.bind_apply]
    refine idx_row hrow hx fun a ha => ?_
    refine ⟨x, by have := ha 0 (.string x) rfl; rwa [Go.H.add_zero] at this, ?_⟩
    simp only [filtG] at hf
    have hrest : (l.drop (l.length - g + 1)).isEmpty = decide (l.length - g + 1 = l.length) := by
      by_cases he : l.length - g + 1 = l.length
      · rw [he]; simp
      · have : l.drop (l.length - g + 1) ≠ [] := by simp; omega
        cases hh : l.drop (l.length - g + 1) with
        | nil => exact absurd hh this
        | cons => simp [he]
    rw [hrest] at hf
    have hw : IntKind.wrap .i64 ((sl.len : Int) - 1) = (l.length : Int) - 1 := by rw [hlen]; exact wrap_id (by omega) (by omega)
    have hw2 : IntKind.wrap .i64 (((l.length - g : Nat) : Int) + 1) = ((l.length - (g - 1) : Nat) : Int) := by rw [wrap_id (by omega) (by omega)]; omega
    have hnext : l.length - g + 1 = l.length - (g - 1) := by omega
    rw [hnext] at hf
    rw [hw, hw2]
    by_cases h35 : hasB 35 x = true
    · rw [if_pos h35] at hf
      by_cases hlast : l.length - (g - 1) = l.length
      · by_cases h1 : x.size ≤ 1
        · rw [decide_eq_true hlast, decide_eq_true h1, Bool.true_and, Bool.true_and] at hf
          refine bind_cut (fun z h'' => h'' = h' ∧ z = .inl ()) ?_ ?_
          · refine bind_cut (fun z h'' => h'' = h' ∧ z = .inl ()) ?_ ?_
            · refine bind_cut (fun z h'' => h'' = h' ∧ z = .inl ()) ?_ ?_
              · refine bind_call1 (Contains_spec (c := 35) ⟨_, rfl, ?_⟩)
                (try dsimp only); rw [HM.ite_apply, if_pos h35]
                exact ⟨rfl, rfl⟩
              rintro z h'' ⟨rfl, rfl⟩
              simp only [Sum.elim_inl]
              (try dsimp only); rw [HM.ite_apply, if_neg (by simp only [decide_eq_true_eq]; omega)]
              exact ⟨rfl, rfl⟩
            rintro z h'' ⟨rfl, rfl⟩
            simp only [Sum.elim_inl]
            (try dsimp only); rw [HM.ite_apply, if_neg (by simp only [decide_eq_true_eq]; omega)]
            exact ⟨rfl, rfl⟩
          rintro z h'' ⟨rfl, rfl⟩
          simp only [Sum.elim_inl, Sum.elim_inr, HM.pure_apply]
          exact .mk (g - 1) (by omega) ⟨rfl, rfl, by omega, hf⟩
        · rw [decide_eq_false h1, Bool.and_false, Bool.false_and] at hf
          rw [hf, if_neg (by simp)] at hq
          refine bind_cut (fun z h'' => h'' = h' ∧ z = .inr (.inr (.inr (143, ())))) ?_ ?_
          · refine bind_cut (fun z h'' => h'' = h' ∧ z = .inl ()) ?_ ?_
            · refine bind_cut (fun z h'' => h'' = h' ∧ z = .inl ()) ?_ ?_
              · refine bind_call1 (Contains_spec (c := 35) ⟨_, rfl, ?_⟩)
                (try dsimp only); rw [HM.ite_apply, if_pos h35]
                exact ⟨rfl, rfl⟩
              rintro z h'' ⟨rfl, rfl⟩
              simp only [Sum.elim_inl]
              (try dsimp only); rw [HM.ite_apply, if_neg (by simp only [decide_eq_true_eq]; omega)]
              exact ⟨rfl, rfl⟩
            rintro z h'' ⟨rfl, rfl⟩
            simp only [Sum.elim_inl]
            (try dsimp only); rw [HM.ite_apply, if_pos (by simp only [decide_eq_true_eq]; omega)]
            exact ⟨rfl, rfl⟩
          rintro z h'' ⟨rfl, rfl⟩
          simp only [Sum.elim_inl, Sum.elim_inr, HM.pure_apply]
          exact hq _ hs3
      · rw [decide_eq_false hlast, Bool.false_and, Bool.false_and] at hf
        rw [hf, if_neg (by simp)] at hq
        refine bind_cut (fun z h'' => h'' = h' ∧ z = .inr (.inr (.inr (143, ())))) ?_ ?_
        · refine bind_cut (fun z h'' => h'' = h' ∧ z = .inr (.inr (.inr (.inr (143, ()))))) ?_ ?_
          · refine bind_cut (fun z h'' => h'' = h' ∧ z = .inl ()) ?_ ?_
            · refine bind_call1 (Contains_spec (c := 35) ⟨_, rfl, ?_⟩)
              (try dsimp only); rw [HM.ite_apply, if_pos h35]
              exact ⟨rfl, rfl⟩
            rintro z h'' ⟨rfl, rfl⟩
            simp only [Sum.elim_inl]
            (try dsimp only); rw [HM.ite_apply, if_pos (by simp only [decide_eq_true_eq]; omega)]
            exact ⟨rfl, rfl⟩
          rintro z h'' ⟨rfl, rfl⟩
          exact ⟨rfl, rfl⟩
        rintro z h'' ⟨rfl, rfl⟩
        simp only [Sum.elim_inl, Sum.elim_inr, HM.pure_apply]
        exact hq _ hs3
    · rw [if_neg h35] at hf
      by_cases h43 : hasB 43 x = true
      · by_cases h1 : x.size ≤ 1
        · rw [h43, decide_eq_true h1, Bool.or_true, Bool.true_and] at hf
          refine bind_cut (fun z h'' => h'' = h' ∧ z = .inl ()) ?_ ?_
          · refine bind_cut (fun z h'' => h'' = h' ∧ z = .inl ()) ?_ ?_
            · refine bind_cut (fun z h'' => h'' = h' ∧ z = .inr (.inl ())) ?_ ?_
              · refine bind_call1 (Contains_spec (c := 35) ⟨_, rfl, ?_⟩)
                (try dsimp only); rw [HM.ite_apply, if_neg h35]
                refine bind_call1 (Contains_spec (c := 43) ⟨_, rfl, ?_⟩)
                (try dsimp only); rw [HM.ite_apply, if_pos h43]
                exact ⟨rfl, rfl⟩
              rintro z h'' ⟨rfl, rfl⟩
              exact ⟨rfl, rfl⟩
            rintro z h'' ⟨rfl, rfl⟩
            simp only [Sum.elim_inl]
            (try dsimp only); rw [HM.ite_apply, if_neg (by simp only [decide_eq_true_eq]; omega)]
            exact ⟨rfl, rfl⟩
          rintro z h'' ⟨rfl, rfl⟩
          simp only [Sum.elim_inl, Sum.elim_inr, HM.pure_apply]
          exact .mk (g - 1) (by omega) ⟨rfl, rfl, by omega, hf⟩
        · rw [h43, decide_eq_false h1, Bool.or_false, Bool.not_true, Bool.false_and] at hf
          rw [hf, if_neg (by simp)] at hq
          refine bind_cut (fun z h'' => h'' = h' ∧ z = .inr (.inr (.inr (143, ())))) ?_ ?_
          · refine bind_cut (fun z h'' => h'' = h' ∧ z = .inl ()) ?_ ?_
            · refine bind_cut (fun z h'' => h'' = h' ∧ z = .inr (.inl ())) ?_ ?_
              · refine bind_call1 (Contains_spec (c := 35) ⟨_, rfl, ?_⟩)
                (try dsimp only); rw [HM.ite_apply, if_neg h35]
                refine bind_call1 (Contains_spec (c := 43) ⟨_, rfl, ?_⟩)
                (try dsimp only); rw [HM.ite_apply, if_pos h43]
                exact ⟨rfl, rfl⟩
              rintro z h'' ⟨rfl, rfl⟩
              exact ⟨rfl, rfl⟩
            rintro z h'' ⟨rfl, rfl⟩
            simp only [Sum.elim_inl]
            (try dsimp only); rw [HM.ite_apply, if_pos (by simp only [decide_eq_true_eq]; omega)]
            exact ⟨rfl, rfl⟩
          rintro z h'' ⟨rfl, rfl⟩
          simp only [Sum.elim_inl, Sum.elim_inr, HM.pure_apply]
          exact hq _ hs3
      · simp only [Bool.not_eq_true] at h43
        rw [h43, Bool.not_false, Bool.true_or, Bool.true_and] at hf
        refine bind_cut (fun z h'' => h'' = h' ∧ z = .inl ()) ?_ ?_
        · refine bind_cut (fun z h'' => h'' = h' ∧ z = .inr (.inl ())) ?_ ?_
          · refine bind_cut (fun z h'' => h'' = h' ∧ z = .inr (.inr (.inl ()))) ?_ ?_
            · refine bind_call1 (Contains_spec (c := 35) ⟨_, rfl, ?_⟩)
              (try dsimp only); rw [HM.ite_apply, if_neg h35]
              refine bind_call1 (Contains_spec (c := 43) ⟨_, rfl, ?_⟩)
              (try dsimp only); rw [HM.ite_apply, if_neg (by rw [h43]; simp)]
              exact ⟨rfl, rfl⟩
            rintro z h'' ⟨rfl, rfl⟩
            exact ⟨rfl, rfl⟩
          rintro z h'' ⟨rfl, rfl⟩
          exact ⟨rfl, rfl⟩
        rintro z h'' ⟨rfl, rfl⟩
        simp only [Sum.elim_inl, Sum.elim_inr, HM.pure_apply]
        exact .mk (g - 1) (by omega) ⟨rfl, rfl, by omega, hf⟩
  · rw [if_neg (by simp only [decide_eq_true_eq, hlen]; omega)]
    simp only [Sum.elim_inl, Sum.elim_inr, HM.pure_apply]
    have : l.drop (l.length - g) = [] := by simp; omega
    rw [this] at hf
    rw [hf] at hq
    exact hq _ hs3
end Go.Proofs.YtfhalebbcbgbdaaGreatDoor
namespace Go.Proofs.YtfhalebbcbgbdaaGreatDoor
open Go.H Go.Proofs Go.Lib
set_option linter.unusedSimpArgs false
set_option linter.unusedVariables false
set_option synthInstance.maxSize 100000
set_option synthInstance.maxHeartbeats 400000
variable {h h0 : Heap} {R : List Asn}
theorem EqualFunc_spec {s t : Slc} {xs ys : List ByteArray} (hr : RowAt eS 1 h s xs) (ht : RowAt eS 1 h t ys) (hl : xs.length ≤ 1000000) {Q : Value → Heap → Prop} (hq : Q (.bool (eqL xs ys)) h) :
    HCalls Tryz.prog 178 #[.slice s.a s.len s.cap, .slice t.a t.len t.cap, .func (.func 179) #[] #[]] h Q := by
  refine slices_EqualFunc_calls s t _ h Q ?_
  unfold slices_EqualFunc
  have hls := hr.1
  have hlt := ht.1
  (try dsimp only); rw [HM.ite_apply]
  by_cases hne : xs.length = ys.length
  · rw [if_neg (by simp [hls, hlt, hne])]
    (try dsimp only); rw [HM.bind_apply]
    refine loop_gx (γ := Nat) (fun g c h' => h' = h ∧ c.1 = (((xs.length - g : Nat)) : Int) ∧ g ≤ xs.length ∧ eqL xs ys = eqL (xs.drop (xs.length - g)) (ys.drop (xs.length - g))) (fun g => g) xs.length ⟨rfl, by simp, Nat.le_refl _, by simp⟩ ?_
    rintro g ⟨c, ⟨⟩⟩ h' ⟨rfl, hc, hg, hf⟩
    simp only at hc
    subst hc
    (try dsimp only); rw [HM.ite_apply]
    by_cases hi : xs.length - g < xs.length
    · rw [if_pos (by simp only [decide_eq_true_eq, hls]; omega)]
      obtain ⟨x, hx⟩ : ∃ x, xs[xs.length - g]? = some x := ⟨_, List.getElem?_eq_getElem hi⟩
      obtain ⟨y, hy⟩ : ∃ y, ys[xs.length - g]? = some y := ⟨_, List.getElem?_eq_getElem (by omega)⟩
      rw [filtG_at hx, filtG_at hy] at hf
      (try dsimp only); rw [HM.bind_apply]
      refine idx_row hr hx fun a ha => ?_
      refine ⟨x, by have := ha 0 (.string x) rfl; rwa [Go.H.add_zero] at this, ?_⟩
      (try dsimp only); rw [HM.bind_apply]
      refine idx_row ht hy fun a' ha' => ?_
      refine ⟨y, by have := ha' 0 (.string y) rfl; rwa [Go.H.add_zero] at this, ?_⟩
      refine ⟨179, #[], #[], rfl, Tryz.call179, ?_⟩
      refine topic_Match_f1_calls x y h' _ ?_
      unfold topic_Match_f1
      have fin : ∀ z : Bool, z = (decide (x = plusS) || decide (x = y)) → (if (!z) = true then Q (.bool false) h' else Go.H.Next (fun g (c : Int × Unit) h'' => h'' = h' ∧ c.1 = (((xs.length - g : Nat)) : Int) ∧ g ≤ xs.length ∧ eqL xs ys = eqL (xs.drop (xs.length - g)) (ys.drop (xs.length - g))) (fun g => g) g (IntKind.wrap .i64 ((((xs.length - g : Nat)) : Int) + 1), ()) h') := by
        rintro z rfl
        simp only [eqL] at hf
        have hnext : xs.length - g + 1 = xs.length - (g - 1) := by omega
        rw [hnext] at hf
        cases hz : (decide (x = plusS) || decide (x = y)) with
        | false =>
          rw [hz, Bool.false_and] at hf
          rw [hf] at hq
          rw [if_pos (by rfl)]
          exact hq
        | true =>
          rw [hz, Bool.true_and] at hf
          rw [if_neg (by simp)]
          exact .mk (g - 1) (by omega) ⟨rfl, by simp only; rw [wrap_id (by omega) (by omega)]; omega, by omega, hf⟩
      refine bind_cut (fun z h'' => h'' = h' ∧ z.1 = (decide (x = plusS) || decide (x = y))) ?_ ?_
      · (try dsimp only); rw [HM.ite_apply]
        by_cases h1 : x = plusS
        · rw [if_pos (by simpa [plusS] using h1)]
          exact ⟨rfl, by simp [h1]⟩
        · rw [if_neg (by simpa [plusS] using h1)]
          exact ⟨rfl, by simp [h1]⟩
      rintro ⟨z, ⟨⟩⟩ h'' ⟨rfl, hz⟩
      refine ⟨z, rfl, ?_⟩
      have hfin := fin z hz
      (try dsimp only); rw [HM.ite_apply]
      by_cases hzz : (!z) = true
      · rw [if_pos hzz] at hfin ⊢
        exact hfin
      · rw [if_neg hzz] at hfin ⊢
        exact hfin
    · rw [if_neg (by simp only [decide_eq_true_eq, hls]; omega)]
      simp only [Sum.elim_inl, Sum.elim_inr, HM.pure_apply]
      have h1 : xs.drop (xs.length - g) = [] := by simp; omega
      have h2 : ys.drop (xs.length - g) = [] := by simp; omega
      rw [h1, h2] at hf
      rw [hf] at hq
      exact hq
  · have hfalse : ∀ (xs ys : List ByteArray), xs.length ≠ ys.length → eqL xs ys = false := by
      intro xs
      induction xs with
      | nil => intro ys hh; cases ys with
        | nil => exact absurd rfl hh
        | cons => rfl
      | cons x xs ih => intro ys hh; cases ys with
        | nil => rfl
        | cons y ys => simp only [eqL, ih ys (by simpa using hh), Bool.and_false]
    rw [hfalse xs ys hne] at hq
    rw [if_pos (by simp [hls, hlt]; omega)]
    exact hq
theorem byte_is (b c : UInt8) : ((b.toNat : Int) == (c.toNat : Int)) = decide (b = c) := by
  by_cases h : b = c
  · simp [h]
  · rw [decide_eq_false h]
    simp only [beq_eq_false_iff_ne, ne_eq]
    intro e
    exact h (UInt8.toNat_inj.1 (by omega))
set_option maxRecDepth 100000 in
theorem Match_spec (hs : sat h (old h0 :: R)) (ht : TP h0) {f n : ByteArray} (hfz : f.size ≤ 9223372036854775807) (hnz : n.size ≤ 9223372036854775807) {Q : Value → Heap → Prop}
    (hq : ∀ h', sat h' (old h0 :: R) → Q (.bool (matchB f n)) h') : HCalls Tryz.prog 142 #[.string f, .string n] h Q := by
  refine topic_Match_calls f n h Q ?_
  unfold topic_Match
  refine bind_cut (fun x h' => sat h' (old h0 :: R) ∧ x.1 = !(filterOK f && nameOK n)) ?_ ?_
  · refine bind_call1 (CheckFilter_spec hs ht hfz fun h1 hs1 => ⟨_, rfl, ?_⟩)
    unfold filtC
    (try dsimp only); rw [HM.ite_apply]
    cases hf : filterOK f with
    | false => rw [if_pos (by rfl)]; exact ⟨hs1, rfl⟩
    | true =>
      rw [if_neg (by simp)]
      refine bind_call1 (CheckName_spec hs1 ht hnz fun h2 hs2 => ⟨_, rfl, ?_⟩)
      unfold nameC
      cases hn : nameOK n <;> exact ⟨hs2, rfl⟩
  rintro ⟨x, ⟨⟩⟩ h1 ⟨hs1, hx⟩
  simp only at hx
  subst hx
  unfold matchB at hq
  (try dsimp only); rw [HM.ite_apply]
  cases hok : (filterOK f && nameOK n) with
  | false =>
    rw [hok] at hq
    rw [if_pos (by rfl)]
    exact hq _ hs1
  | true =>
  rw [hok, Bool.true_and] at hq
  rw [if_neg (by simp)]
  rw [Bool.and_eq_true] at hok
  have hsf := sizedT_iff.1 (filterOK_sized hok.1)
  have hsn := sizedT_iff.1 (nameOK_sized hok.2)
  have hgf : filtG (levels f) = true := by
    have := hok.1
    unfold filterOK at this
    rw [Bool.and_eq_true] at this
    exact this.2
  refine bind_cut (fun x h' => h' = h1 ∧ x.1 = dollarB f n) ?_ ?_
  · unfold dollarB
    refine ⟨n.get! 0, by decide, get_bang (k := 0) (by omega), ?_⟩
    (try dsimp only); rw [HM.ite_apply]
    have e36 := byte_is (n.get! 0) 36
    by_cases h36 : n.get! 0 = 36
    · rw [if_pos (by rw [show (36 : Int) = ((36 : UInt8).toNat : Int) from rfl, e36, h36]; rfl)]
      refine ⟨0, 1, ⟨rfl, by omega⟩, rfl, ?_⟩
      (try dsimp only); rw [HM.ite_apply]
      by_cases h43 : f.get! 0 = 43
      · rw [if_pos (by simpa using (first_one hsf.2.1 43).2 h43)]
        exact ⟨rfl, by simp [h36, h43]⟩
      · rw [if_neg (by simpa using fun e => h43 ((first_one hsf.2.1 43).1 e))]
        refine ⟨0, 1, ⟨rfl, by omega⟩, rfl, rfl, ?_⟩
        have e35 : decide (f.extract 0 1 = ByteArray.mk #[35]) = decide (f.get! 0 = 35) := by rw [decide_eq_decide]; exact first_one hsf.2.1 35
        simp only [h36, h43, decide_true, decide_false, Bool.true_and, Bool.false_or]
        exact e35
    · rw [if_neg (by rw [show (36 : Int) = ((36 : UInt8).toNat : Int) from rfl, e36]; simpa using h36)]
      exact ⟨rfl, by simp [h36]⟩
  rintro ⟨x, ⟨⟩⟩ h2 ⟨rfl, hx⟩
  simp only at hx
  subst hx
  (try dsimp only); rw [HM.ite_apply]
  cases hdl : dollarB f n with
  | true =>
    rw [hdl] at hq
    rw [if_pos rfl]
    exact hq _ hs1
  | false =>
  rw [hdl, Bool.not_false, Bool.true_and, match_prog _ _ (levels_ne f) hgf] at hq
  rw [if_neg (by simp)]
  refine bind_call1 (Levels_spec hs1 ht hsf.2.2.1 fun sf h3 hs3 => ⟨sf, rfl, ?_⟩)
  refine bind_call1 (Levels_spec hs3.p1 ht hsn.2.2.1 fun sn h4 hs4 => ⟨sn, rfl, ?_⟩)
  have hrn := hs4.own_row eS_len
  have hrf := (hs4.re [2, 0, 1]).own_row eS_len
  have hs5 : sat h4 (old h0 :: R) := (hs4.re [0, 2, 1]).drop.drop
  have hlf : (levels f).length ≤ 32 := hsf.2.2.2
  have hln : (levels n).length ≤ 32 := hsn.2.2.2
  have hne : 1 ≤ (levels f).length := by
    have := levels_len f
    omega
  clear hs4 hs3
  generalize levels f = lf at *
  generalize levels n = ln at *
  have hl1 := hrf.1
  have hl2 := hrn.1
  have hw : IntKind.wrap .i64 ((sf.len : Int) - 1) = ((lf.length - 1 : Nat) : Int) := by rw [hl1, wrap_id (by omega) (by omega)]; omega
  rw [hw]
  obtain ⟨x, hx⟩ : ∃ x, lf[lf.length - 1]? = some x := ⟨_, List.getElem?_eq_getElem (by omega)⟩
  have hall : allR lf = decide (x = hashS) := by unfold allR; rw [hx]; simp
  (try dsimp only); rw [HM.bind_apply]
  refine idx_row hrf hx fun a ha => ?_
  refine ⟨x, by have := ha 0 (.string x) rfl; rwa [Go.H.add_zero] at this, ?_⟩
  refine bind_cut (fun x h' => h' = h4 ∧ RowAt eS 1 h4 x.1 (cutR lf)) ?_ ?_
  · unfold cutR
    (try dsimp only); rw [HM.ite_apply]
    by_cases hh : x = hashS
    · rw [if_pos (by simpa [hashS] using hh), if_pos (by rw [hall]; simpa using hh)]
      (try dsimp only); rw [HM.bind_apply]
      exact slice_row hrf (by omega) fun s' hs' => ⟨rfl, hs'⟩
    · rw [if_neg (by simpa [hashS] using hh), if_neg (by rw [hall]; simpa using hh)]
      exact ⟨rfl, hrf⟩
  rintro ⟨sc, ⟨⟩⟩ h5 ⟨rfl, hrc⟩
  simp only at hrc
  have hl3 := hrc.1
  have hcl : (cutR lf).length ≤ 32 := by
    unfold cutR
    split
    · simp; omega
    · exact hlf
  refine bind_cut (fun x h' => h' = h5 ∧ x.1 = decide (ln.length < (cutR lf).length ∨ (allR lf = false ∧ (cutR lf).length < ln.length))) ?_ ?_
  · (try dsimp only); rw [HM.ite_apply]
    by_cases hh : ln.length < (cutR lf).length
    · rw [if_pos (by simp only [decide_eq_true_eq]; omega)]
      exact ⟨rfl, by simp [hh]⟩
    · rw [if_neg (by simp only [decide_eq_true_eq]; omega)]
      (try dsimp only); rw [HM.ite_apply]
      by_cases hxh : x = hashS
      · rw [if_neg (by simpa [hashS] using hxh)]
        exact ⟨rfl, by simp [hh, hall, hxh]⟩
      · rw [if_pos (by simpa [hashS] using hxh)]
        refine ⟨rfl, ?_⟩
        simp only [decide_eq_decide, hall, hxh, decide_false, true_and]
        omega
  rintro ⟨y, ⟨⟩⟩ h6 ⟨rfl, hy⟩
  simp only at hy
  subst hy
  unfold matchP at hq
  (try dsimp only); rw [HM.ite_apply]
  by_cases hc : ln.length < (cutR lf).length ∨ (allR lf = false ∧ (cutR lf).length < ln.length)
  · rw [if_pos hc] at hq
    rw [if_pos (by simpa using hc)]
    exact hq _ hs5
  · rw [if_neg hc] at hq
    rw [if_neg (by simpa using hc)]
    (try dsimp only); rw [HM.bind_apply]
    refine slice_row (n := sc.len) hrn (by omega) fun s' hs' => ?_
    rw [hl3] at hs'
    (try dsimp only)
    refine bind_call1 (EqualFunc_spec hrc hs' (by omega) ⟨_, rfl, ?_⟩)
    exact hq _ hs5
end Go.Proofs.YtfhalebbcbgbdaaGreatDoor
namespace Go.Proofs.YtfhalebbcbgbdaaGreatDoor
open Go.H Go.Proofs Go.Lib
set_option linter.unusedSimpArgs false
set_option linter.unusedVariables false
set_option synthInstance.maxSize 100000
set_option synthInstance.maxHeartbeats 400000
variable {h h0 : Heap} {R : List Asn}
theorem drop_byte {s : ByteArray} {i : Nat} (hi : i < s.size) : s.data.toList.drop i = s.get! i :: s.data.toList.drop (i + 1) := by
  have h1 : i < s.data.toList.length := by rw [Array.length_toList]; exact hi
  rw [List.drop_eq_getElem_cons h1]
  congr 1
  have h2 : i < s.data.size := hi
  show s.data.toList[i] = s.data[i]!
  rw [getElem!_pos s.data i h2]
  simp
theorem has_spec {s : ByteArray} (hsz : s.size ≤ 9223372036854775800) {c : UInt8} {Q : Value → Heap → Prop} (hq : Q (.bool (hasB c s)) h) :
    HCalls Tryz.prog 113 #[.string s, .int .u8 (c.toNat : Int)] h Q := by
  refine ref07_has_calls s _ h Q ?_
  unfold ref07_has
  (try dsimp only); rw [HM.bind_apply]
  refine loop_gx (γ := Nat) (fun g k h' => h' = h ∧ k.1 = (((s.size - g : Nat)) : Int) ∧ g ≤ s.size ∧ hasB c s = decide (c ∈ s.data.toList.drop (s.size - g))) (fun g => g) s.size ⟨rfl, by simp, Nat.le_refl _, by simp [hasB]⟩ ?_
  rintro g ⟨k, ⟨⟩⟩ h' ⟨rfl, hc, hg, hf⟩
  simp only at hc
  subst hc
  (try dsimp only); rw [HM.ite_apply]
  by_cases hi : s.size - g < s.size
  · rw [if_pos (by simp only [decide_eq_true_eq]; omega)]
    rw [drop_byte hi] at hf
    refine ⟨s.get! (s.size - g), by omega, by rw [Int.toNat_natCast]; exact get_bang hi, ?_⟩
    (try dsimp only); rw [HM.ite_apply, byte_is]
    by_cases hb : s.get! (s.size - g) = c
    · rw [if_pos (by simpa using hb)]
      rw [hf, show decide (c ∈ s.get! (s.size - g) :: s.data.toList.drop (s.size - g + 1)) = true by simp [hb]] at hq
      simp only [Sum.elim_inl, Sum.elim_inr, HM.pure_apply]
      exact hq
    · rw [if_neg (by simpa using hb)]
      simp only [Sum.elim_inl, Sum.elim_inr, HM.pure_apply]
      refine .mk (g - 1) (by omega) ⟨rfl, by simp only; rw [wrap_id (by omega) (by omega)]; omega, by omega, ?_⟩
      rw [hf, show s.size - (g - 1) = s.size - g + 1 by omega]
      simp [Ne.symm hb]
  · rw [if_neg (by simp only [decide_eq_true_eq]; omega)]
    have : s.data.toList.drop (s.size - g) = [] := by
      rw [List.drop_eq_nil_iff, Array.length_toList]
      show s.size ≤ _
      omega
    rw [hf, this] at hq
    simp only [Sum.elim_inl, Sum.elim_inr, HM.pure_apply]
    simpa using hq
theorem extract_one {s : ByteArray} {i : Nat} (hi : i < s.size) : (s.extract i (i + 1)).data.toList = [s.get! i] := by
  have h1 := drop_byte hi
  have h2 : (s.extract i (i + 1)).data.toList = (s.data.toList.drop i).take 1 := by
    simp [ByteArray.data_extract, Array.toList_extract, List.extract]
  rw [h2, h1]
  rfl
theorem rLevels_spec (hs : sat h R) {s : ByteArray} (hsz : s.size ≤ 256) {Q : Value → Heap → Prop}
    (hq : ∀ (sl : Slc) h', sat h' (ownS eS 1 sl (levels s) :: R) → Q (.slice sl.a sl.len sl.cap) h') :
    HCalls Tryz.prog 112 #[.string s] h Q := by
  refine ref07_Levels_calls s h Q ?_
  unfold ref07_Levels
  (try dsimp only); rw [HM.bind_apply]
  refine loop_gx (γ := Nat) (fun g k h' => ∃ xs : List ByteArray, sat h' (ownS eS 1 k.1 xs :: R) ∧ k.2.2.1 = (((s.size - g : Nat)) : Int) ∧ g ≤ s.size ∧ xs.length ≤ s.size - g ∧ k.2.1.size ≤ s.size - g ∧
    xs.map (·.data.toList) ++ lev 47 k.2.1.data.toList (s.data.toList.drop (s.size - g)) = (levels s).map (·.data.toList)) (fun g => g) s.size
    ⟨[], ownS_nil hs, by simp, Nat.le_refl _, Nat.zero_le _, Nat.zero_le _, by simp [levels_data]⟩ ?_
  rintro g ⟨sl, x, i, ⟨⟩⟩ h1 ⟨xs, hs1, hc, hg, hxl, hxs, hf⟩
  simp only at hc hs1 hxs hf
  subst hc
  (try dsimp only); rw [HM.ite_apply]
  by_cases hi : s.size - g < s.size
  · rw [if_pos (by simp only [decide_eq_true_eq]; omega)]
    rw [drop_byte hi] at hf
    have hnext : s.size - g + 1 = s.size - (g - 1) := by omega
    rw [hnext] at hf
    have hw : IntKind.wrap .i64 ((((s.size - g : Nat)) : Int) + 1) = ((s.size - (g - 1) : Nat) : Int) := by rw [wrap_id (by omega) (by omega)]; omega
    refine bind_cut (fun k h' => ∃ xs : List ByteArray, sat h' (ownS eS 1 k.1 xs :: R) ∧ xs.length ≤ s.size - (g - 1) ∧ k.2.1.size ≤ s.size - (g - 1) ∧
      xs.map (·.data.toList) ++ lev 47 k.2.1.data.toList (s.data.toList.drop (s.size - (g - 1))) = (levels s).map (·.data.toList)) ?_ ?_
    · refine ⟨s.get! (s.size - g), by omega, by rw [Int.toNat_natCast]; exact get_bang hi, ?_⟩
      (try dsimp only); rw [HM.ite_apply, show (47 : Int) = ((47 : UInt8).toNat : Int) from rfl, byte_is]
      by_cases hb : s.get! (s.size - g) = 47
      · rw [if_pos (by simpa using hb)]
        refine app_new (x := x) eS_len eS_cell rfl hs1 (by decide) (by decide) (by omega) fun s' h2 hs2 => ?_
        refine ⟨xs ++ [x], hs2, by simp; omega, Nat.zero_le _, ?_⟩
        simp only [lev, if_pos hb] at hf
        rw [← hf]
        simp
      · rw [if_neg (by simpa using hb)]
        refine ⟨s.size - g, s.size - g + 1, ⟨by rw [hw]; omega, by omega⟩, ⟨rfl, by omega⟩, ?_⟩
        have he := extract_one hi
        have hz : (s.extract (s.size - g) (s.size - g + 1)).size = 1 := by
          rw [ByteArray.size_extract]
          omega
        refine ⟨by rw [hz]; omega, xs, hs1, by omega, ?_, ?_⟩
        · simp only [ByteArray.size_append]
          omega
        · simp only [lev, if_neg hb] at hf
          rw [← hf]
          simp only [ByteArray.data_append, Array.toList_append, he]
    rintro ⟨sl', x', ⟨⟩⟩ h2 ⟨xs', hs2, hxl', hxs', hf'⟩
    simp only [Sum.elim_inl, Sum.elim_inr, HM.pure_apply]
    exact .mk (g - 1) (by omega) ⟨xs', hs2, by simp only [hw], by omega, hxl', hxs', hf'⟩
  · rw [if_neg (by simp only [decide_eq_true_eq]; omega)]
    have : s.data.toList.drop (s.size - g) = [] := by
      rw [List.drop_eq_nil_iff, Array.length_toList]
      show s.size ≤ _
      omega
    rw [this] at hf
    simp only [lev] at hf
    simp only [Sum.elim_inl, Sum.elim_inr, HM.pure_apply]
    have he : xs ++ [x] = levels s := map_data_inj (by simpa using hf)
    refine app_new (x := x) eS_len eS_cell rfl hs1 (by decide) (by decide) (by omega) fun s' h2 hs2 => ?_
    rw [he] at hs2
    exact hq s' h2 hs2
theorem rsized_spec (hs : sat h R) {s : ByteArray} (hsz : s.size ≤ 9223372036854775800) {Q : Value → Heap → Prop}
    (hq : ∀ h', sat h' R → Q (.bool (sizedT s)) h') : HCalls Tryz.prog 111 #[.string s] h Q := by
  refine ref07_sized_calls s h Q ?_
  unfold ref07_sized
  refine bind_callN (rFault_spec hs s hsz ⟨(match faultOf s with | some n => ((n : Int), true, ()) | none => (0, false, ())), by cases faultOf s <;> rfl, ?_⟩)
  refine bind_cut (fun x h' => h' = h ∧ x.1 = !((faultOf s).isNone && decide (s.size ≠ 0) && decide (s.size ≤ 256))) ?_ ?_
  · (try dsimp only); rw [HM.ite_apply]
    cases hf : faultOf s with
    | some n =>
      rw [if_pos rfl]
      exact ⟨rfl, rfl⟩
    | none =>
      rw [if_neg (by simp)]
      (try dsimp only); rw [HM.ite_apply]
      by_cases h0 : s.size = 0
      · rw [if_pos (by simp [h0])]
        exact ⟨rfl, by simp [h0]⟩
      · rw [if_neg (by simpa using h0)]
        refine ⟨rfl, ?_⟩
        by_cases h1 : s.size ≤ 256
        · simp [h0, h1]; omega
        · simp [h0, h1]; omega
  rintro ⟨x, ⟨⟩⟩ h1 ⟨rfl, hx⟩
  simp only at hx
  subst hx
  unfold sizedT at hq
  (try dsimp only); rw [HM.ite_apply]
  cases hz : ((faultOf s).isNone && decide (s.size ≠ 0) && decide (s.size ≤ 256)) with
  | false =>
    rw [hz] at hq
    rw [if_pos (by rfl)]
    exact hq _ hs
  | true =>
    rw [hz, Bool.true_and] at hq
    rw [if_neg (by simp)]
    have hle : s.size ≤ 256 := by
      simp only [Bool.and_eq_true, decide_eq_true_eq] at hz
      exact hz.2
    refine bind_call1 (rLevels_spec hs hle fun sl h2 hs2 => ⟨sl, rfl, ?_⟩)
    have hl := hs2.own_len
    have := hq _ hs2.drop
    have e : decide ((sl.len : Int) ≤ 32) = decide ((levels s).length ≤ 32) := by rw [decide_eq_decide, hl]; omega
    simp only [HM.pure_apply]
    rw [e]
    exact this
theorem rCheckName_spec (hs : sat h R) {s : ByteArray} (hsz : s.size ≤ 9223372036854775800) {Q : Value → Heap → Prop}
    (hq : ∀ h', sat h' R → Q (.int .i64 (nameC s)) h') : HCalls Tryz.prog 70 #[.string s] h Q := by
  refine ref07_CheckName_calls s h Q ?_
  unfold ref07_CheckName
  refine bind_call1 (rsized_spec hs hsz fun h1 hs1 => ⟨_, rfl, ?_⟩)
  refine bind_call1 (has_spec (c := 43) hsz ⟨_, rfl, ?_⟩)
  refine bind_call1 (has_spec (c := 35) hsz ⟨_, rfl, ?_⟩)
  refine bind_cut (fun x h' => h' = h1 ∧ x.1 = !nameOK s) ?_ ?_
  · unfold nameOK
    (try dsimp only); rw [HM.ite_apply]
    cases sizedT s with
    | false => rw [if_pos (by rfl)]; exact ⟨rfl, rfl⟩
    | true =>
      rw [if_neg (by simp)]
      (try dsimp only); rw [HM.ite_apply]
      cases hasB 43 s with
      | true => rw [if_pos rfl]; exact ⟨rfl, rfl⟩
      | false => rw [if_neg (by simp)]; exact ⟨rfl, by simp⟩
  rintro ⟨x, ⟨⟩⟩ h2 ⟨rfl, hx⟩
  simp only at hx
  subst hx
  have := hq _ hs1
  unfold nameC at this
  (try dsimp only); rw [HM.ite_apply]
  cases hn : nameOK s with
  | true => rw [hn, if_pos rfl] at this; rw [if_neg (by simp)]; exact this
  | false => rw [hn, if_neg (by simp)] at this; rw [if_pos (by rfl)]; exact this
set_option maxRecDepth 100000 in
theorem rCheckFilter_spec (hs : sat h R) {s : ByteArray} (hsz : s.size ≤ 9223372036854775800) {Q : Value → Heap → Prop}
    (hq : ∀ h', sat h' R → Q (.int .i64 (filtC s)) h') : HCalls Tryz.prog 69 #[.string s] h Q := by
  refine ref07_CheckFilter_calls s h Q ?_
  unfold ref07_CheckFilter
  refine bind_call1 (rsized_spec hs hsz fun h1 hs1 => ⟨_, rfl, ?_⟩)
  unfold filtC filterOK at hq
  (try dsimp only); rw [HM.ite_apply]
  cases hz : sizedT s with
  | false =>
    rw [hz] at hq
    rw [if_pos (by rfl)]
    exact hq _ hs1
  | true =>
  rw [hz, Bool.true_and] at hq
  rw [if_neg (by simp)]
  have hle := sizedT_le hz
  refine bind_call1 (rLevels_spec hs1 hle fun sl h2 hs2 => ⟨sl, rfl, ?_⟩)
  have hlen := hs2.own_len
  have hrow := hs2.own_row eS_len
  have hn : (levels s).length ≤ 32 := (sizedT_iff.1 hz).2.2.2
  have hxs : ∀ x ∈ levels s, x.size ≤ 256 := fun x hx => Nat.le_trans (levels_le hx) hle
  generalize levels s = l at hlen hrow hn hq hxs
  have hs3 := hs2.drop
  clear hs2
  (try dsimp only); rw [HM.bind_apply]
  refine loop_gx (γ := Nat) (fun g c h' => h' = h2 ∧ c.1 = (((l.length - g : Nat)) : Int) ∧ g ≤ l.length ∧ filtG l = filtG (l.drop (l.length - g))) (fun g => g) l.length ⟨rfl, by simp, Nat.le_refl _, by simp⟩ ?_
  rintro g ⟨c, ⟨⟩⟩ h' ⟨rfl, hc, hg, hf⟩
  simp only at hc
  subst hc
  (try dsimp only); rw [HM.ite_apply]
  by_cases hlt : l.length - g < l.length
  · rw [if_pos (by simp only [decide_eq_true_eq, hlen]; omega)]
    obtain ⟨x, hx⟩ : ∃ x, l[l.length - g]? = some x := ⟨_, List.getElem?_eq_getElem hlt⟩
    have hxz : x.size ≤ 256 := hxs x (List.mem_of_getElem? hx)
    have ld : ∀ {Q : ByteArray → Heap → Prop}, Q x h' → (HM.bind (HM.idx sl.a sl.len (((l.length - g : Nat)) : Int) 1) fun a => HM.load1 .str a) h' Q := by
      intro Q hQ
      (try dsimp only); rw [HM.bind_apply]
      refine idx_row hrow hx fun a ha => ?_
      exact ⟨x, by have := ha 0 (.string x) rfl; rwa [Go.H.add_zero] at this, hQ⟩
    have ld2 : ∀ {β : Type} {k : ByteArray → HM β} {Q : β → Heap → Prop}, k x h' Q → (HM.bind (HM.idx sl.a sl.len (((l.length - g : Nat)) : Int) 1) fun a => HM.bind (HM.load1 .str a) k) h' Q := fun hk => ld (Q := fun y h'' => _) hk
    rw [filtG_at hx, filtG_cons] at hf
    have hrest : (l.drop (l.length - g + 1)).isEmpty = decide (l.length - g + 1 = l.length) := by
      by_cases he : l.length - g + 1 = l.length
      · rw [he]; simp
      · have : l.drop (l.length - g + 1) ≠ [] := by simp; omega
        cases hh : l.drop (l.length - g + 1) with
        | nil => exact absurd hh this
        | cons => simp [he]
    rw [hrest] at hf
    have hw : IntKind.wrap .i64 ((sl.len : Int) - 1) = (l.length : Int) - 1 := by rw [hlen]; exact wrap_id (by omega) (by omega)
    have hw2 : IntKind.wrap .i64 (((l.length - g : Nat) : Int) + 1) = ((l.length - (g - 1) : Nat) : Int) := by rw [wrap_id (by omega) (by omega)]; omega
    have hnext : l.length - g + 1 = l.length - (g - 1) := by omega
    rw [hnext] at hf
    rw [hw, hw2]
    refine ld2 ?_
    refine bind_call1 (has_spec (c := 43) (by omega) ⟨_, rfl, ?_⟩)
    refine ld2 ?_
    refine bind_call1 (has_spec (c := 35) (by omega) ⟨_, rfl, ?_⟩)
    unfold levBad at hf
    refine bind_cut (fun z h'' => h'' = h' ∧ z.1 = (hasB 43 x && decide (x ≠ plusS))) ?_ ?_
    · (try dsimp only); rw [HM.ite_apply]
      cases hasB 43 x with
      | true =>
        rw [if_pos rfl]
        refine ld2 ⟨rfl, ?_⟩
        by_cases hp : x = ByteArray.mk #[43] <;> simp [plusS, hp]
      | false => rw [if_neg (by simp)]; exact ⟨rfl, rfl⟩
    rintro ⟨z, ⟨⟩⟩ h'' ⟨rfl, hz1⟩
    simp only at hz1
    subst hz1
    (try dsimp only); rw [HM.ite_apply]
    cases ha : (hasB 43 x && decide (x ≠ plusS)) with
    | true =>
      rw [ha, Bool.true_or, Bool.not_true, Bool.false_and] at hf
      rw [hf, if_neg (by simp)] at hq
      rw [if_pos rfl]
      simp only [Sum.elim_inl, Sum.elim_inr, HM.pure_apply]
      exact hq _ hs3
    | false =>
    rw [ha, Bool.false_or] at hf
    rw [if_neg (by simp)]
    refine bind_cut (fun z h' => h' = h'' ∧ z.1 = (hasB 35 x && (decide (x ≠ hashS) || !decide (l.length - (g - 1) = l.length)))) ?_ ?_
    · (try dsimp only); rw [HM.ite_apply]
      cases hasB 35 x with
      | true =>
        rw [if_pos rfl]
        refine ld2 ?_
        (try dsimp only); rw [HM.ite_apply]
        by_cases hx35 : x = hashS
        · rw [if_neg (by simpa [hashS] using hx35)]
          refine ⟨rfl, ?_⟩
          simp only [hx35, ne_eq, not_true_eq_false, decide_false, Bool.false_or, Bool.true_and]
          rw [← decide_not, decide_eq_decide]
          omega
        · rw [if_pos (by simpa [hashS] using hx35)]
          exact ⟨rfl, by simp [hx35]⟩
      | false => rw [if_neg (by simp)]; exact ⟨rfl, rfl⟩
    rintro ⟨z, ⟨⟩⟩ h3 ⟨rfl, hz1⟩
    simp only at hz1
    subst hz1
    (try dsimp only); rw [HM.ite_apply]
    cases hb : (hasB 35 x && (decide (x ≠ hashS) || !decide (l.length - (g - 1) = l.length))) with
    | true =>
      rw [hb, Bool.not_true, Bool.false_and] at hf
      rw [hf, if_neg (by simp)] at hq
      rw [if_pos rfl]
      simp only [Sum.elim_inl, Sum.elim_inr, HM.pure_apply]
      exact hq _ hs3
    | false =>
      rw [hb, Bool.not_false, Bool.true_and] at hf
      rw [if_neg (by simp)]
      simp only [Sum.elim_inl, Sum.elim_inr, HM.pure_apply]
      exact .mk (g - 1) (by omega) ⟨rfl, rfl, by omega, hf⟩
  · rw [if_neg (by simp only [decide_eq_true_eq, hlen]; omega)]
    simp only [Sum.elim_inl, Sum.elim_inr, HM.pure_apply]
    have : l.drop (l.length - g) = [] := by simp; omega
    rw [this] at hf
    rw [hf] at hq
    exact hq _ hs3
theorem dollar_r {f n : ByteArray} (hf : f.size ≠ 0) (hn : n.size ≠ 0) {Q : Bool × Unit → Heap → Prop} (hq : Q (dollarB f n, ()) h) :
    (HM.bind (α := Int) (HM.strIdx n 0) fun (x4 : Int) =>
      HM.ite (x4 == 36) (
      HM.bind (α := Int) (HM.strIdx f 0) fun (x5 : Int) =>
      HM.ite (x5 == 43) (
      HM.pure (true, ())) (
      HM.bind (α := Int) (HM.strIdx f 0) fun (x6 : Int) =>
      HM.pure (x6 == 35, ()))) (
      HM.pure (false, ()))) h Q := by
  unfold dollarB at hq
  refine ⟨n.get! 0, by decide, get_bang (k := 0) (by omega), ?_⟩
  (try dsimp only); rw [HM.ite_apply, show (36 : Int) = ((36 : UInt8).toNat : Int) from rfl, byte_is]
  by_cases h36 : n.get! 0 = 36
  · rw [if_pos (by simpa using h36)]
    refine ⟨f.get! 0, by decide, get_bang (k := 0) (by omega), ?_⟩
    (try dsimp only); rw [HM.ite_apply, show (43 : Int) = ((43 : UInt8).toNat : Int) from rfl, byte_is]
    by_cases h43 : f.get! 0 = 43
    · rw [if_pos (by simpa using h43)]
      simp only [h36, h43, decide_true, Bool.true_and, Bool.true_or] at hq
      exact hq
    · rw [if_neg (by simpa using h43)]
      refine ⟨f.get! 0, by decide, get_bang (k := 0) (by omega), ?_⟩
      simp only [HM.pure_apply]
      rw [show (35 : Int) = ((35 : UInt8).toNat : Int) from rfl, byte_is]
      simp only [h36, h43, decide_true, decide_false, Bool.true_and, Bool.false_or] at hq
      exact hq
  · rw [if_neg (by simpa using h36)]
    simp only [h36, decide_false, Bool.false_and] at hq
    exact hq
set_option maxRecDepth 100000 in
theorem rMatch_spec (hs : sat h R) {f n : ByteArray} (hfz : f.size ≤ 9223372036854775800) (hnz : n.size ≤ 9223372036854775800) {Q : Value → Heap → Prop}
    (hq : ∀ h', sat h' R → Q (.bool (matchB f n)) h') : HCalls Tryz.prog 159 #[.string f, .string n] h Q := by
  refine ref07_Match_calls f n h Q ?_
  unfold ref07_Match
  refine bind_call1 (rCheckFilter_spec hs hfz fun h1 hs1 => ⟨_, rfl, ?_⟩)
  refine bind_call1 (rCheckName_spec hs1 hnz fun h2 hs2 => ⟨_, rfl, ?_⟩)
  refine bind_cut (fun x h' => h' = h2 ∧ x.1 = !(filterOK f && nameOK n)) ?_ ?_
  · unfold filtC nameC
    (try dsimp only); rw [HM.ite_apply]
    cases hf : filterOK f with
    | false => rw [if_pos (by rfl)]; exact ⟨rfl, rfl⟩
    | true =>
      rw [if_neg (by simp)]
      cases hn : nameOK n <;> exact ⟨rfl, rfl⟩
  rintro ⟨x, ⟨⟩⟩ h3 ⟨rfl, hx⟩
  simp only at hx
  subst hx
  unfold matchB at hq
  (try dsimp only); rw [HM.ite_apply]
  cases hok : (filterOK f && nameOK n) with
  | false =>
    rw [hok] at hq
    rw [if_pos (by rfl)]
    exact hq _ hs2
  | true =>
  rw [hok, Bool.true_and] at hq
  rw [if_neg (by simp)]
  rw [Bool.and_eq_true] at hok
  have hsf := sizedT_iff.1 (filterOK_sized hok.1)
  have hsn := sizedT_iff.1 (nameOK_sized hok.2)
  refine bind_cut (fun x h' => h' = h3 ∧ x.1 = dollarB f n) (dollar_r hsf.2.1 hsn.2.1 ⟨rfl, rfl⟩) ?_
  rintro ⟨x, ⟨⟩⟩ h4 ⟨rfl, hx⟩
  simp only at hx
  subst hx
  (try dsimp only); rw [HM.ite_apply]
  cases hdl : dollarB f n with
  | true =>
    rw [hdl] at hq
    rw [if_pos rfl]
    exact hq _ hs2
  | false =>
  rw [hdl, Bool.not_false, Bool.true_and] at hq
  rw [if_neg (by simp)]
  refine bind_call1 (rLevels_spec hs2 hsf.2.2.1 fun sf h3 hs3 => ⟨sf, rfl, ?_⟩)
  refine bind_call1 (rLevels_spec hs3 hsn.2.2.1 fun sn h4 hs4 => ⟨sn, rfl, ?_⟩)
  have hrn := hs4.own_row eS_len
  have hrf := hs4.p1.own_row eS_len
  have hs5 : sat h4 R := hs4.drop.drop
  have hlf : (levels f).length ≤ 32 := hsf.2.2.2
  have hln : (levels n).length ≤ 32 := hsn.2.2.2
  clear hs4 hs3
  generalize levels f = lf at *
  generalize levels n = ln at *
  have hl1 := hrf.1
  have hl2 := hrn.1
  (try dsimp only); rw [HM.bind_apply]
  refine loop_gx (γ := Nat) (fun g c h' => h' = h4 ∧ c.1 = (((lf.length - g : Nat)) : Int) ∧ g ≤ lf.length ∧ lf.length - g ≤ ln.length ∧ matchL lf ln = matchL (lf.drop (lf.length - g)) (ln.drop (lf.length - g))) (fun g => g) lf.length ⟨rfl, by simp, Nat.le_refl _, by simp, by simp⟩ ?_
  rintro g ⟨c, ⟨⟩⟩ h' ⟨rfl, hc, hg, hg2, hm⟩
  simp only at hc
  subst hc
  (try dsimp only); rw [HM.ite_apply]
  by_cases hlt : lf.length - g < lf.length
  · rw [if_pos (by simp only [decide_eq_true_eq, hl1]; omega)]
    obtain ⟨x, hx⟩ : ∃ x, lf[lf.length - g]? = some x := ⟨_, List.getElem?_eq_getElem hlt⟩
    have ldf : ∀ {β : Type} {k : ByteArray → HM β} {Q : β → Heap → Prop}, k x h' Q → (HM.bind (HM.idx sf.a sf.len (((lf.length - g : Nat)) : Int) 1) fun a => HM.bind (HM.load1 .str a) k) h' Q := by
      intro β k Q hQ
      (try dsimp only); rw [HM.bind_apply]
      refine idx_row hrf hx fun a ha => ?_
      exact ⟨x, by have := ha 0 (.string x) rfl; rwa [Go.H.add_zero] at this, hQ⟩
    rw [filtG_at hx, matchL_cons] at hm
    have hnext : lf.length - g + 1 = lf.length - (g - 1) := by omega
    have hw2 : IntKind.wrap .i64 (((lf.length - g : Nat) : Int) + 1) = ((lf.length - (g - 1) : Nat) : Int) := by rw [wrap_id (by omega) (by omega)]; omega
    rw [hw2]
    refine ldf ?_
    (try dsimp only); rw [HM.ite_apply]
    by_cases hxh : x = hashS
    · rw [if_pos hxh] at hm
      rw [hm] at hq
      rw [if_pos (by simpa [hashS] using hxh)]
      simp only [Sum.elim_inl, Sum.elim_inr, HM.pure_apply]
      exact hq _ hs5
    rw [if_neg hxh] at hm
    rw [if_neg (by simpa [hashS] using hxh)]
    (try dsimp only); rw [HM.ite_apply]
    by_cases hln2 : ln.length ≤ lf.length - g
    · rw [if_pos (by simp only [decide_eq_true_eq]; omega)]
      rw [show ln.drop (lf.length - g) = [] by simp; omega] at hm
      rw [hm] at hq
      simp only [Sum.elim_inl, Sum.elim_inr, HM.pure_apply]
      exact hq _ hs5
    rw [if_neg (by simp only [decide_eq_true_eq]; omega)]
    obtain ⟨y, hy⟩ : ∃ y, ln[lf.length - g]? = some y := ⟨_, List.getElem?_eq_getElem (by omega)⟩
    rw [filtG_at hy, hnext] at hm
    simp only at hm
    refine bind_cut (fun z h'' => h'' = h' ∧ z.1 = decide (x ≠ plusS ∧ x ≠ y)) ?_ ?_
    · refine ldf ?_
      (try dsimp only); rw [HM.ite_apply]
      by_cases hxp : x = plusS
      · rw [if_neg (by simpa [plusS] using hxp)]
        exact ⟨rfl, by simp [hxp]⟩
      · rw [if_pos (by simpa [plusS] using hxp)]
        refine ldf ?_
        (try dsimp only); rw [HM.bind_apply]
        refine idx_row hrn hy fun a ha => ?_
        refine ⟨y, by have := ha 0 (.string y) rfl; rwa [Go.H.add_zero] at this, rfl, ?_⟩
        by_cases hxy : x = y <;> simp [hxp, hxy]
    rintro ⟨z, ⟨⟩⟩ h'' ⟨rfl, hz⟩
    simp only at hz
    subst hz
    (try dsimp only); rw [HM.ite_apply]
    by_cases hc : x ≠ plusS ∧ x ≠ y
    · rw [if_pos hc] at hm
      rw [hm] at hq
      rw [if_pos (by simpa using hc)]
      simp only [Sum.elim_inl, Sum.elim_inr, HM.pure_apply]
      exact hq _ hs5
    · rw [if_neg hc] at hm
      rw [if_neg (by simpa using hc)]
      simp only [Sum.elim_inl, Sum.elim_inr, HM.pure_apply]
      exact .mk (g - 1) (by omega) ⟨rfl, rfl, by omega, by omega, hm⟩
  · rw [if_neg (by simp only [decide_eq_true_eq, hl1]; omega)]
    simp only [Sum.elim_inl, Sum.elim_inr, HM.pure_apply]
    rw [show lf.drop (lf.length - g) = [] by simp; omega] at hm
    have he : ((sf.len : Int) == (sn.len : Int)) = matchL lf ln := by
      rw [hm]
      simp only [matchL]
      rw [hl1, hl2]
      by_cases he : lf.length = ln.length
      · rw [show ln.drop (lf.length - g) = [] by simp; omega]
        simp [he]
      · cases hd : ln.drop (lf.length - g) with
        | nil => rw [List.drop_eq_nil_iff] at hd; omega
        | cons => simpa using fun e => he (by omega)
    rw [he]
    exact hq _ hs5
end Go.Proofs.YtfhalebbcbgbdaaGreatDoor
namespace Go.Proofs.YtfhalebbcbgbdaaGreatDoor
open Go.H Go.Proofs Go.Lib
set_option linter.unusedSimpArgs false
set_option linter.unusedVariables false
def beT : Nat → Nat → List Int
  | 0, _ => []
  | w + 1, n => ((n / 256 ^ w % 256 : Nat) : Int) :: beT w n
theorem beT_len : ∀ (w n : Nat), (beT w n).length = w
  | 0, _ => rfl
  | w + 1, n => by rw [beT, List.length_cons, beT_len w n]
theorem ints_data (ns : List Int) : (bytesOfInts ns).data.toList = ns.map fun n => UInt8.ofNat n.toNat := by
  unfold bytesOfInts
  have : ∀ (ns : List Int) (r : ByteArray), (ns.foldl (fun r n => r.push (UInt8.ofNat n.toNat)) r).data.toList = r.data.toList ++ ns.map fun n => UInt8.ofNat n.toNat := by
    intro ns
    induction ns with
    | nil => intro r; simp
    | cons n ns ih => intro r; rw [List.foldl_cons, ih]; simp
  rw [this]
  rfl
theorem ints_size (ns : List Int) : (bytesOfInts ns).size = ns.length := by
  have := congrArg List.length (ints_data ns)
  rw [Array.length_toList, List.length_map] at this
  exact this
theorem ints_append (a b : List Int) : bytesOfInts a ++ bytesOfInts b = bytesOfInts (a ++ b) := by
  refine data_inj ?_
  simp only [ByteArray.data_append, Array.toList_append, ints_data, List.map_append]
def fixB (w n : Nat) : ByteArray := bytesOfInts (beT w n)
theorem fixB_size (w n : Nat) : (fixB w n).size = w := by unfold fixB; rw [ints_size, beT_len]
def datB (s : ByteArray) : ByteArray := fixB 2 s.size ++ s
end Go.Proofs.YtfhalebbcbgbdaaGreatDoor
namespace Go.Proofs.YtfhalebbcbgbdaaGreatDoor
open Go.H Go.Proofs Go.Lib
set_option linter.unusedSimpArgs false
set_option linter.unusedVariables false
set_option synthInstance.maxSize 100000
set_option synthInstance.maxHeartbeats 400000
set_option maxRecDepth 100000
abbrev eU (n : Int) : List Value := [.int .u8 n]
theorem eU_len : ∀ x : Int, (eU x).length = 1 := fun _ => rfl
theorem eU_cell : ∀ x : Int, ∀ v ∈ eU x, v.oneCell' = true := fun x v hv => by rw [List.mem_singleton.1 hv]; rfl
theorem eU_flat : ∀ xs : List Int, xs.flatMap eU = xs.map (Value.int .u8)
  | [] => rfl
  | x :: xs => by rw [List.flatMap_cons, eU_flat xs]; rfl
variable {h h0 : Heap} {R : List Asn}
def wideW (w : Nat) : Prop := w = 1 ∨ w = 2 ∨ w = 4
theorem pow_w {w : Nat} (hw : wideW w) : IntKind.wrap .i64 (1 * 2 ^ (min (Int.toNat (IntKind.wrap .i64 (8 * (w : Int)))) (IntKind.bits .i64))) = ((256 ^ w : Nat) : Int) := by
  rcases hw with rfl | rfl | rfl <;> decide
theorem req_w {w : Nat} (hw : wideW w) : 0 ≤ IntKind.wrap .i64 (8 * (w : Int)) := by
  rcases hw with rfl | rfl | rfl <;> decide
theorem w_le {w : Nat} (hw : wideW w) : 1 ≤ w ∧ w ≤ 4 := by
  rcases hw with rfl | rfl | rfl <;> decide
theorem pow_le {w : Nat} (hw : wideW w) : 256 ^ w ≤ 4294967296 := by
  rcases hw with rfl | rfl | rfl <;> decide
theorem wrap_u8 (n : Nat) : IntKind.wrap .u8 (n : Int) = ((n % 256 : Nat) : Int) := by
  simp [IntKind.wrap, IntKind.bits, IntKind.signed]
theorem byte_at {n g : Nat} (hg : g ≤ 3) : IntKind.wrap .u8 (Int.fdiv (n : Int) (2 ^ (min (Int.toNat (IntKind.wrap .i64 (8 * (g : Int)))) (IntKind.bits .i64)))) = ((n / 256 ^ g % 256 : Nat) : Int) := by
  rw [wrap_id (by omega) (by omega)]
  have e1 : min (Int.toNat (8 * (g : Int))) (IntKind.bits .i64) = 8 * g := by
    show min _ 64 = _
    omega
  rw [e1]
  have e2 : ((2 : Int) ^ (8 * g)) = ((256 ^ g : Nat) : Int) := by
    rw [Int.natCast_pow, Int.pow_mul]
    rfl
  rw [e2, Int.fdiv_eq_ediv_of_nonneg _ (Int.natCast_nonneg _), ← Int.natCast_ediv, wrap_u8]
theorem wide_spec {w : Nat} (hw : wideW w) {Q : Value → Heap → Prop} (hq : Q (.bool true) h) : HCalls Tryz.prog 127 #[.int .i64 w] h Q := by
  refine varint_wide_calls w h Q ?_
  unfold varint_wide
  refine bind_cut (fun z h' => h' = h ∧ z.1 = true) ?_ ?_
  · rcases hw with rfl | rfl | rfl
    · (try dsimp only); rw [HM.ite_apply, if_pos (by rfl)]; exact ⟨rfl, rfl⟩
    · (try dsimp only); rw [HM.ite_apply, if_neg (by decide)]
      (try dsimp only); rw [HM.ite_apply, if_pos (by rfl)]; exact ⟨rfl, rfl⟩
    · (try dsimp only); rw [HM.ite_apply, if_neg (by decide)]
      (try dsimp only); rw [HM.ite_apply, if_neg (by decide)]; exact ⟨rfl, rfl⟩
  rintro ⟨z, ⟨⟩⟩ h1 ⟨rfl, hz⟩
  simp only at hz
  subst hz
  exact hq
theorem strOf_own {sl : Slc} {xs : List Int} (hs : sat h (ownS eU 1 sl xs :: R)) {Q : ByteArray → Heap → Prop} (hq : Q (bytesOfInts xs) h) : HM.strOf sl h Q := by
  refine ⟨xs, ?_, hq⟩
  have := row_reads eU_len (hs.own_row eU_len) (by decide)
  rw [Nat.mul_one, eU_flat] at this
  exact this
theorem Fixed_spec (hs : sat h R) {w n : Nat} (hw : wideW w) (hn : n < 256 ^ w) {Q : Value → Heap → Prop} (hq : ∀ h', sat h' R → Q (.tuple #[.string (fixB w n), .int .u8 0]) h') :
    HCalls Tryz.prog 88 #[.int .i64 w, .int .i64 n] h Q := by
  refine varint_Fixed_calls w n h Q ?_
  unfold varint_Fixed
  have hwl := w_le hw
  refine bind_call1 (wide_spec hw ⟨true, rfl, ?_⟩)
  (try dsimp only); rw [HM.ite_apply, if_neg (by simp)]
  refine bind_cut (fun z h' => h' = h ∧ z.1 = false) ?_ ?_
  · (try dsimp only); rw [HM.ite_apply, if_neg (by simp)]
    refine ⟨req_w hw, rfl, ?_⟩
    rw [pow_w hw]
    simp only [decide_eq_false_iff_not]
    omega
  rintro ⟨z, ⟨⟩⟩ h1 ⟨rfl, hz⟩
  simp only at hz
  subst hz
  (try dsimp only); rw [HM.ite_apply, if_neg (by simp)]
  (try dsimp only); rw [HM.bind_apply]
  refine loop_gx (γ := Nat) (fun g c h' => c.2.1 = (g : Int) - 1 ∧ g ≤ w ∧ ∃ xs : List Int, xs ++ beT g n = beT w n ∧ sat h' (ownS eU 1 c.1 xs :: R)) (fun g => g) w
    ⟨by simp only; exact wrap_id (by omega) (by omega), Nat.le_refl _, [], rfl, ownS_nil hs⟩ ?_
  rintro g ⟨out, c, ⟨⟩⟩ h2 ⟨hc, hg, xs, hx, hs2⟩
  simp only at hc hs2
  subst hc
  (try dsimp only); rw [HM.ite_apply]
  cases g with
  | succ g =>
    rw [if_pos (by simp only [decide_eq_true_eq]; omega)]
    have e : ((g + 1 : Nat) : Int) - 1 = (g : Int) := by omega
    rw [e]
    refine ⟨by rw [wrap_id (by omega) (by omega)]; omega, ?_⟩
    rw [byte_at (by omega)]
    have hxl : xs.length ≤ 4 := by
      have := congrArg List.length hx
      rw [List.length_append, beT_len, beT_len] at this
      omega
    refine app_new (x := ((n / 256 ^ g % 256 : Nat) : Int)) eU_len eU_cell rfl hs2 (by decide) (by decide) (by omega) fun s' h3 hs3 => ?_
    simp only [Sum.elim_inl, Sum.elim_inr, HM.pure_apply]
    exact .mk g (by omega) ⟨by simp only; rw [wrap_id (by omega) (by omega)], by omega, _, by rw [List.append_assoc, ← hx]; rfl, hs3⟩
  | zero =>
    rw [if_neg (by simp)]
    simp only [Sum.elim_inl, Sum.elim_inr, HM.pure_apply]
    rw [beT, List.append_nil] at hx
    subst hx
    (try dsimp only); rw [HM.bind_apply]
    refine strOf_own hs2 ?_
    exact hq _ hs2.drop
theorem most_spec {w : Nat} (hw : wideW w) {Q : Value → Heap → Prop} (hq : Q (.int .i64 ((256 ^ w : Nat) : Int)) h) : HCalls Tryz.prog 139 #[.int .i64 w] h Q := by
  refine ref01_most_calls w h Q ?_
  unfold ref01_most
  rcases hw with rfl | rfl | rfl
  · (try dsimp only); rw [HM.ite_apply, if_pos (by rfl)]; exact hq
  · (try dsimp only); rw [HM.ite_apply, if_neg (by decide)]
    (try dsimp only); rw [HM.ite_apply, if_pos (by rfl)]; exact hq
  · (try dsimp only); rw [HM.ite_apply, if_neg (by decide)]
    (try dsimp only); rw [HM.ite_apply, if_neg (by decide)]
    (try dsimp only); rw [HM.ite_apply, if_pos (by rfl)]; exact hq
theorem rFixed_spec (hs : sat h R) {w n : Nat} (hw : wideW w) (hn : n < 256 ^ w) {Q : Value → Heap → Prop} (hq : ∀ h', sat h' R → Q (.tuple #[.string (fixB w n), .int .i64 0]) h') :
    HCalls Tryz.prog 93 #[.int .i64 w, .int .i64 n] h Q := by
  refine ref01_Fixed_calls w n h Q ?_
  unfold ref01_Fixed
  have hwl := w_le hw
  have hpl := pow_le hw
  have hp0 : 0 < 256 ^ w := Nat.pow_pos (by decide)
  refine bind_call1 (most_spec hw ⟨_, rfl, ?_⟩)
  generalize hP : 256 ^ w = P at hn hpl hp0
  (try dsimp only); rw [HM.ite_apply, if_neg (by simp; omega)]
  refine bind_cut (fun z h' => h' = h ∧ z.1 = false) ?_ ?_
  · (try dsimp only); rw [HM.ite_apply, if_neg (by simp)]
    refine ⟨rfl, ?_⟩
    simp only [decide_eq_false_iff_not]
    omega
  rintro ⟨z, ⟨⟩⟩ h1 ⟨rfl, hz⟩
  simp only at hz
  subst hz
  (try dsimp only); rw [HM.ite_apply, if_neg (by simp)]
  (try dsimp only); rw [HM.bind_apply]
  refine loop_gx (γ := Nat) (fun g c h' => g ≤ w ∧ c.1 = fixB (w - g) n ∧ c.2.1 = ((n / 256 ^ (w - g) : Nat) : Int) ∧ c.2.2.1 = ((w - g : Nat) : Int) ∧ sat h' R) (fun g => g) w
    ⟨Nat.le_refl _, by rw [Nat.sub_self]; rfl, by simp, by simp, hs⟩ ?_
  rintro g ⟨t, m, c, ⟨⟩⟩ h2 ⟨hg, ht, hm, hc, hs2⟩
  simp only at ht hm hc
  subst ht hm hc
  (try dsimp only); rw [HM.ite_apply]
  by_cases hi : w - g < w
  · rw [if_pos (by simp only [decide_eq_true_eq]; omega)]
    refine ⟨by decide, ?_⟩
    have hdl : n / 256 ^ (w - g) ≤ n := Nat.div_le_self _ _
    have e1 : IntKind.wrap .u8 (Int.tmod (((n / 256 ^ (w - g) : Nat)) : Int) 256) = ((n / 256 ^ (w - g) % 256 : Nat) : Int) := by
      rw [Int.tmod_eq_emod_of_nonneg (Int.natCast_nonneg _), show (256 : Int) = ((256 : Nat) : Int) from rfl, ← Int.natCast_emod, wrap_u8, Nat.mod_mod]
    have e2 : IntKind.wrap .i64 (Int.tdiv (((n / 256 ^ (w - g) : Nat)) : Int) 256) = ((n / 256 ^ (w - (g - 1)) : Nat) : Int) := by
      rw [Int.tdiv_eq_ediv_of_nonneg (Int.natCast_nonneg _), show (256 : Int) = ((256 : Nat) : Int) from rfl, ← Int.natCast_ediv]
      have h3 : n / 256 ^ (w - g) / 256 ≤ n / 256 ^ (w - g) := Nat.div_le_self _ _
      rw [wrap_id (by omega) (by omega), Nat.div_div_eq_div_mul, show 256 ^ (w - g) * 256 = 256 ^ (w - (g - 1)) from by rw [← Nat.pow_succ]; congr 1; omega]
    rw [e1, e2]
    refine new_cells hs2 fun b h3 hs3 => ?_
    have hs4 := own_flat' (enc := eU) (xs := [((n / 256 ^ (w - g) % 256 : Nat) : Int)]) eU_len rfl hs3
    (try dsimp only); rw [HM.bind_apply]
    refine strOf_own hs4 ?_
    refine ⟨?_, by decide, ?_⟩
    · rw [ints_size, fixB_size]
      simp only [List.length_cons, List.length_nil]
      omega
    simp only [Sum.elim_inl, Sum.elim_inr, HM.pure_apply]
    refine .mk (g - 1) (by omega) ⟨by omega, ?_, rfl, by simp only; rw [wrap_id (by omega) (by omega)]; omega, hs3.drop⟩
    simp only
    unfold fixB
    rw [ints_append, show w - (g - 1) = w - g + 1 by omega]
    rfl
  · rw [if_neg (by simp only [decide_eq_true_eq]; omega)]
    simp only [Sum.elim_inl, Sum.elim_inr, HM.pure_apply]
    have hg0 : w - g = w := by omega
    rw [hg0]
    exact hq _ hs2
where
  own_flat' {α : Type} {enc : α → List Value} {size : Nat} {h : Heap} {R : List Asn} (henc : ∀ x, (enc x).length = size) {b : Nat} {xs : List α} {cs : Array Value} (he : cs = (xs.flatMap enc).toArray) (hs : sat h (cells b cs :: R)) :
    sat h (ownS enc size ⟨some ⟨b, 0, none⟩, xs.length, xs.length⟩ xs :: R) := by
    subst he
    refine ownS_mk (o := 0) ⟨by simp, Nat.le_refl _, rfl, by simp [flat_len henc], ?_⟩ hs
    simp only [Nat.zero_mul, List.drop_zero, List.toList_toArray]
    rw [List.take_of_length_le (by rw [flat_len henc]; exact Nat.le_refl _)]
theorem Data_spec (hs : sat h R) {s : ByteArray} (hsz : s.size ≤ 65535) {Q : Value → Heap → Prop} (hq : ∀ h', sat h' R → Q (.tuple #[.string (datB s), .int .u8 0]) h') : HCalls Tryz.prog 198 #[.string s] h Q := by
  refine varint_Data_calls s h Q ?_
  unfold varint_Data
  (try dsimp only); rw [HM.ite_apply, if_neg (by simp only [decide_eq_true_eq]; omega)]
  refine bind_callN (Fixed_spec (w := 2) hs (.inr (.inl rfl)) (by simpa using Nat.lt_succ_of_le hsz) fun h1 hs1 => ⟨(fixB 2 s.size, 0, ()), rfl, ?_⟩)
  refine ⟨by rw [fixB_size]; omega, ?_⟩
  exact hq _ hs1
theorem rData_spec (hs : sat h R) {s : ByteArray} (hsz : s.size ≤ 65535) {Q : Value → Heap → Prop} (hq : ∀ h', sat h' R → Q (.tuple #[.string (datB s), .int .i64 0]) h') : HCalls Tryz.prog 204 #[.string s] h Q := by
  refine ref01_Data_calls s h Q ?_
  unfold ref01_Data
  (try dsimp only); rw [HM.ite_apply, if_neg (by simp only [decide_eq_true_eq]; omega)]
  refine bind_callN (rFixed_spec (w := 2) hs (.inr (.inl rfl)) (by simpa using Nat.lt_succ_of_le hsz) fun h1 hs1 => ⟨(fixB 2 s.size, 0, ()), rfl, ?_⟩)
  refine ⟨by rw [fixB_size]; omega, ?_⟩
  exact hq _ hs1
end Go.Proofs.YtfhalebbcbgbdaaGreatDoor
namespace Go.Proofs.YtfhalebbcbgbdaaGreatDoor
open Go.H Go.Proofs Go.Lib
set_option linter.unusedSimpArgs false
set_option linter.unusedVariables false
set_option synthInstance.maxSize 100000
set_option synthInstance.maxHeartbeats 400000
set_option maxRecDepth 100000
abbrev RuleT := ByteArray × Int × Int × ByteArray × ByteArray × Unit
abbrev vR (r : RuleT) : Value := .agg #[.string r.1, .int .i64 r.2.1, .int .i64 r.2.2.1, .string r.2.2.2.1, .string r.2.2.2.2.1]
abbrev bigB : Nat := 9223372036854775800
def szR (r : RuleT) : Prop := r.1.size ≤ bigB ∧ r.2.2.2.1.size ≤ bigB ∧ r.2.2.2.2.1.size ≤ bigB
def prefOK (s : ByteArray) : Bool := decide (s = ByteArray.mk #[]) || nameOK s
def chkR (r : RuleT) : Int :=
  if filterOK r.1 = false then 143
  else if (prefOK r.2.2.2.1 && prefOK r.2.2.2.2.1) = false then 144
  else if r.2.1 < 0 ∨ 2 < r.2.1 then 128
  else if r.2.2.1 < 0 ∨ 2 < r.2.2.1 then 155
  else 0
variable {h h0 : Heap} {R : List Asn}
theorem prefix_spec (hs : sat h (old h0 :: R)) (ht : TP h0) {s : ByteArray} (hsz : s.size ≤ bigB) {Q : Value → Heap → Prop} (hq : ∀ h', sat h' (old h0 :: R) → Q (.bool (prefOK s)) h') :
    HCalls Tryz.prog 66 #[.string s] h Q := by
  refine remap_prefix_calls s h Q ?_
  unfold remap_prefix
  refine bind_cut (fun z h' => sat h' (old h0 :: R) ∧ z.1 = prefOK s) ?_ ?_
  · unfold prefOK
    (try dsimp only); rw [HM.ite_apply]
    by_cases h0 : s = ByteArray.mk #[]
    · rw [if_pos (by simpa using h0)]; exact ⟨hs, by simp [h0]⟩
    · rw [if_neg (by simpa using h0)]
      refine bind_call1 (CheckName_spec hs ht (Nat.le_trans hsz (by decide)) fun h1 hs1 => ⟨_, rfl, hs1, ?_⟩)
      unfold nameC
      cases nameOK s <;> simp [h0]
  rintro ⟨z, ⟨⟩⟩ h1 ⟨hs1, hz⟩
  simp only at hz
  subst hz
  exact hq _ hs1
theorem two_tests {x : Nat} {i : Nat} {cs : Array Value} {n : Int} (hs : sat h (cells x cs :: R)) (hc : cs[i]? = some (.int .i64 n)) {Q : Bool × Unit → Heap → Prop} (hq : Q (decide (n < 0 ∨ 2 < n), ()) h) :
    (HM.bind (α := Int) (HM.load1 (.int .i64) (Addr.add ⟨x, 0, none⟩ i)) fun (x9 : Int) =>
      HM.ite (decide (x9 < (0 : Int))) (
      HM.pure (true, ())) (
      HM.bind (α := Int) (HM.load1 (.int .i64) (Addr.add ⟨x, 0, none⟩ i)) fun (x10 : Int) =>
      HM.pure (decide (2 < (x10 : Int)), ()))) h Q := by
  refine ⟨n, by rw [add_own, hs.cell]; exact hc, ?_⟩
  (try dsimp only); rw [HM.ite_apply]
  by_cases h1 : n < 0
  · rw [if_pos (by simpa using h1)]
    simpa [h1] using hq
  · rw [if_neg (by simpa using h1)]
    refine ⟨n, by rw [add_own, hs.cell]; exact hc, ?_⟩
    simpa [h1] using hq
theorem Check_spec (hs : sat h (old h0 :: R)) (ht : TP h0) {r : RuleT} (hz : szR r) {Q : Value → Heap → Prop} (hq : ∀ h', sat h' (old h0 :: R) → Q (.int .u8 (chkR r)) h') :
    HCalls Tryz.prog 36 #[vR r] h Q := by
  refine remap_Rule_Check_calls r h Q ?_
  unfold remap_Rule_Check
  refine new_cells hs fun x h1 hs1 => ?_
  refine ⟨r.1, by rw [add_own]; exact hs1.cell 0, ?_⟩
  refine bind_call1 (CheckFilter_spec hs1.p1 ht (Nat.le_trans hz.1 (by decide)) fun h2 hs2' => ⟨_, rfl, ?_⟩)
  have hs2 := hs2'.p1
  clear hs2' hs1
  unfold chkR at hq
  (try dsimp only); rw [HM.ite_apply]
  cases hf : filterOK r.1 with
  | false =>
    rw [if_pos hf] at hq
    rw [if_pos (by simp [filtC, hf])]
    exact hq _ hs2.drop
  | true =>
  rw [if_neg (by simp [hf])] at hq
  rw [if_neg (by simp [filtC, hf])]
  refine bind_cut (fun z h' => sat h' (cells x #[.string r.1, .int .i64 r.2.1, .int .i64 r.2.2.1, .string r.2.2.2.1, .string r.2.2.2.2.1] :: old h0 :: R) ∧ z.1 = !(prefOK r.2.2.2.1 && prefOK r.2.2.2.2.1)) ?_ ?_
  · refine ⟨r.2.2.2.1, by rw [add_own]; exact hs2.cell 3, ?_⟩
    refine bind_call1 (prefix_spec hs2.p1 ht hz.2.1 fun h3 hs3 => ⟨_, rfl, ?_⟩)
    (try dsimp only); rw [HM.ite_apply]
    cases prefOK r.2.2.2.1 with
    | false => rw [if_pos (by rfl)]; exact ⟨hs3.p1, rfl⟩
    | true =>
      rw [if_neg (by simp)]
      refine ⟨r.2.2.2.2.1, by rw [add_own]; exact hs3.p1.cell 4, ?_⟩
      refine bind_call1 (prefix_spec hs3 ht hz.2.2 fun h4 hs4 => ⟨_, rfl, ?_⟩)
      exact ⟨hs4.p1, by simp⟩
  rintro ⟨z, ⟨⟩⟩ h3 ⟨hs3, hzz⟩
  simp only at hzz
  subst hzz
  (try dsimp only); rw [HM.ite_apply]
  cases hp : (prefOK r.2.2.2.1 && prefOK r.2.2.2.2.1) with
  | false =>
    rw [if_pos hp] at hq
    rw [if_pos (by rfl)]
    exact hq _ hs3.drop
  | true =>
  rw [if_neg (by simp [hp])] at hq
  rw [if_neg (by simp)]
  refine bind_cut (fun z h' => h' = h3 ∧ z.1 = decide (r.2.1 < 0 ∨ 2 < r.2.1)) (two_tests hs3 rfl ⟨rfl, rfl⟩) ?_
  rintro ⟨z, ⟨⟩⟩ h4 ⟨rfl, hzz⟩
  simp only at hzz
  subst hzz
  (try dsimp only); rw [HM.ite_apply]
  by_cases hd : r.2.1 < 0 ∨ 2 < r.2.1
  · rw [if_pos hd] at hq
    rw [if_pos (by simpa using hd)]
    exact hq _ hs3.drop
  rw [if_neg hd] at hq
  rw [if_neg (by simpa using hd)]
  refine bind_cut (fun z h' => h' = h4 ∧ z.1 = decide (r.2.2.1 < 0 ∨ 2 < r.2.2.1)) (two_tests hs3 rfl ⟨rfl, rfl⟩) ?_
  rintro ⟨z, ⟨⟩⟩ h5 ⟨rfl, hzz⟩
  simp only at hzz
  subst hzz
  (try dsimp only); rw [HM.ite_apply]
  by_cases hd2 : r.2.2.1 < 0 ∨ 2 < r.2.2.1
  · rw [if_pos hd2] at hq
    rw [if_pos (by simpa using hd2)]
    exact hq _ hs3.drop
  · rw [if_neg hd2] at hq
    rw [if_neg (by simpa using hd2)]
    exact hq _ hs3.drop
theorem rCheck_spec (hs : sat h R) {r : RuleT} (hz : szR r) {Q : Value → Heap → Prop} (hq : ∀ h', sat h' R → Q (.int .i64 (chkR r)) h') :
    HCalls Tryz.prog 39 #[vR r] h Q := by
  refine ref10_Check_calls r h Q ?_
  unfold ref10_Check
  refine new_cells hs fun x h1 hs1 => ?_
  refine ⟨r.1, by rw [add_own]; exact hs1.cell 0, ?_⟩
  refine bind_call1 (rCheckFilter_spec hs1 hz.1 fun h2 hs2 => ⟨_, rfl, ?_⟩)
  refine ⟨r.2.2.2.1, by rw [add_own]; exact hs2.cell 3, ?_⟩
  refine bind_call1 (rCheckName_spec hs2 hz.2.1 fun h3 hs3 => ⟨_, rfl, ?_⟩)
  refine ⟨r.2.2.2.2.1, by rw [add_own]; exact hs3.cell 4, ?_⟩
  refine bind_call1 (rCheckName_spec hs3 hz.2.2 fun h4 hs4 => ⟨_, rfl, ?_⟩)
  clear hs3 hs2 hs1
  unfold chkR at hq
  (try dsimp only); rw [HM.ite_apply]
  cases hf : filterOK r.1 with
  | false =>
    rw [if_pos hf] at hq
    rw [if_pos (by simp [filtC, hf])]
    exact hq _ hs4.drop
  | true =>
  rw [if_neg (by simp [hf])] at hq
  rw [if_neg (by simp [filtC, hf])]
  refine bind_cut (fun z h' => h' = h4 ∧ z.1 = !(prefOK r.2.2.2.1 && prefOK r.2.2.2.2.1)) ?_ ?_
  · refine ⟨r.2.2.2.1, by rw [add_own]; exact hs4.cell 3, ?_⟩
    unfold prefOK nameC
    (try dsimp only); rw [HM.ite_apply]
    have last : ∀ {Q : Bool × Unit → Heap → Prop}, Q (!(decide (r.2.2.2.2.1 = ByteArray.mk #[]) || nameOK r.2.2.2.2.1), ()) h4 →
        (HM.bind (α := ByteArray) (HM.load1 .str (Addr.add ⟨x, 0, none⟩ 4)) fun (x10 : ByteArray) =>
          HM.ite (!(decide (x10 = (ByteArray.mk #[])))) (
          HM.pure (!((if nameOK r.2.2.2.2.1 = true then (0 : Int) else 144) == 0), ())) (
          HM.pure (false, ()))) h4 Q := by
      intro Q hQ
      refine ⟨r.2.2.2.2.1, by rw [add_own]; exact hs4.cell 4, ?_⟩
      (try dsimp only); rw [HM.ite_apply]
      by_cases he : r.2.2.2.2.1 = ByteArray.mk #[]
      · rw [if_neg (by simpa using he)]
        simpa [he] using hQ
      · rw [if_pos (by simpa using he)]
        cases hn : nameOK r.2.2.2.2.1 <;> simpa [he, hn] using hQ
    by_cases he : r.2.2.2.1 = ByteArray.mk #[]
    · rw [if_neg (by simpa using he)]
      refine last ⟨rfl, ?_⟩
      simp [he]
    · rw [if_pos (by simpa using he)]
      (try dsimp only); rw [HM.ite_apply]
      cases hn : nameOK r.2.2.2.1 with
      | false =>
        rw [if_pos (by simp)]
        exact ⟨rfl, by simp [he]⟩
      | true =>
        rw [if_neg (by simp)]
        refine last ⟨rfl, ?_⟩
        simp [he]
  rintro ⟨z, ⟨⟩⟩ h3 ⟨rfl, hzz⟩
  simp only at hzz
  subst hzz
  (try dsimp only); rw [HM.ite_apply]
  cases hp : (prefOK r.2.2.2.1 && prefOK r.2.2.2.2.1) with
  | false =>
    rw [if_pos hp] at hq
    rw [if_pos (by rfl)]
    exact hq _ hs4.drop
  | true =>
  rw [if_neg (by simp [hp])] at hq
  rw [if_neg (by simp)]
  refine bind_cut (fun z h' => h' = h3 ∧ z.1 = decide (r.2.1 < 0 ∨ 2 < r.2.1)) (two_tests hs4 rfl ⟨rfl, rfl⟩) ?_
  rintro ⟨z, ⟨⟩⟩ h4 ⟨rfl, hzz⟩
  simp only at hzz
  subst hzz
  (try dsimp only); rw [HM.ite_apply]
  by_cases hd : r.2.1 < 0 ∨ 2 < r.2.1
  · rw [if_pos hd] at hq
    rw [if_pos (by simpa using hd)]
    exact hq _ hs4.drop
  rw [if_neg hd] at hq
  rw [if_neg (by simpa using hd)]
  refine bind_cut (fun z h' => h' = h4 ∧ z.1 = decide (r.2.2.1 < 0 ∨ 2 < r.2.2.1)) (two_tests hs4 rfl ⟨rfl, rfl⟩) ?_
  rintro ⟨z, ⟨⟩⟩ h5 ⟨rfl, hzz⟩
  simp only at hzz
  subst hzz
  (try dsimp only); rw [HM.ite_apply]
  by_cases hd2 : r.2.2.1 < 0 ∨ 2 < r.2.2.1
  · rw [if_pos hd2] at hq
    rw [if_pos (by simpa using hd2)]
    exact hq _ hs4.drop
  · rw [if_neg hd2] at hq
    rw [if_neg (by simpa using hd2)]
    exact hq _ hs4.drop
theorem drop_at {α : Type} {l : List α} {i : Nat} {x : α} (hx : l[i]? = some x) : l.drop i = x :: l.drop (i + 1) := by
  obtain ⟨hi, rfl⟩ := List.getElem?_eq_some_iff.1 hx
  exact List.drop_eq_getElem_cons hi
end Go.Proofs.YtfhalebbcbgbdaaGreatDoor
namespace Go.H
set_option linter.unusedSimpArgs false
set_option linter.unusedVariables false
structure BufF (s : Slc) (xs : List Int) (g : Nat) (cur : Array Value) : Prop where
  a : s.a = some ⟨g, 0, none⟩
  le : s.len ≤ s.cap
  len : s.len = xs.length
  size : cur.size = s.cap
  front : cur.toList.take s.len = xs.map (Value.int .u8)
  cap : s.cap ≤ 9223372036854775807
def bufA (T : TypeId) (s : Slc) (xs : List Int) : Asn := fun m =>
  (s = ⟨none, 0, 0⟩ ∧ xs = []) ∨ exA (fun x : Nat × Array Value => star (pr (BufF s xs x.1 x.2)) (blk x.1 (.cells x.2 T (0, 0)))) m
section
variable {h : Heap} {R : List Asn} {T : TypeId} {s : Slc} {xs : List Int}
theorem bufA_cases (hs : sat h (bufA T s xs :: R)) : (s = ⟨none, 0, 0⟩ ∧ xs = [] ∧ sat h R) ∨ ∃ g cur, BufF s xs g cur ∧ sat h (blk g (.cells cur T (0, 0)) :: R) := by
  obtain ⟨m, h1, a, r, hd, rfl, ha, hr⟩ := hs
  rcases ha with ⟨h2, h3⟩ | h2
  · exact .inl ⟨h2, h3, r, (join_sub h1 hd).2, hr⟩
  · right
    have hs' : sat h (exA (fun x : Nat × Array Value => star (pr (BufF s xs x.1 x.2)) (blk x.1 (.cells x.2 T (0, 0)))) :: R) := ⟨_, h1, a, r, hd, rfl, h2, hr⟩
    rw [sat.ex_iff] at hs'
    obtain ⟨⟨g, cur⟩, hs'⟩ := hs'
    rw [sat.star_iff, sat.pr_iff] at hs'
    exact ⟨g, cur, hs'.1, hs'.2⟩
theorem bufA_mk {g : Nat} {cur : Array Value} (ho : BufF s xs g cur) (hs : sat h (blk g (.cells cur T (0, 0)) :: R)) : sat h (bufA T s xs :: R) := by
  have hs' : sat h (exA (fun x : Nat × Array Value => star (pr (BufF s xs x.1 x.2)) (blk x.1 (.cells x.2 T (0, 0)))) :: R) := by
    rw [sat.ex_iff]
    refine ⟨(g, cur), ?_⟩
    rw [sat.star_iff, sat.pr_iff]
    exact ⟨ho, hs⟩
  exact hs'.imp fun m hm => .inr hm
theorem bufA_nil (hs : sat h R) : sat h (bufA T ⟨none, 0, 0⟩ [] :: R) := by
  obtain ⟨m, h1, hr⟩ := hs
  exact ⟨m, h1, fun _ => none, m, fun k => .inl rfl, by funext k; rfl, .inl ⟨rfl, rfl⟩, hr⟩
theorem blk_set {g : Nat} {cur : Array Value} (hs : sat h (blk g (.cells cur T (0, 0)) :: R)) (i : Nat) (v : Value) : sat (setCellH h ⟨g, i, none⟩ v) (blk g (.cells (cur.setIfInBounds i v) T (0, 0)) :: R) := by
  have hlt := hs.lt
  have hg := hs.get
  refine hs.turn ?_ fun k hk => ?_
  · unfold setCellH
    rw [Array.getElem?_modify, if_pos rfl, hg]
    rfl
  · unfold setCellH
    rw [Array.getElem?_modify, if_neg (fun e => hk e.symm)]
theorem blk_sets {g : Nat} : ∀ (vs : List Value) (cur : Array Value) (o i : Nat) {h : Heap} {R : List Asn}, sat h (blk g (.cells cur T (0, 0)) :: R) → o + i + vs.length ≤ cur.size →
    ∃ cs' : Array Value, cs'.size = cur.size ∧ cs'.toList = cur.toList.take (o + i) ++ vs ++ cur.toList.drop (o + i + vs.length) ∧ sat (setCellsH h ⟨g, o, none⟩ vs i) (blk g (.cells cs' T (0, 0)) :: R)
  | [], cs, o, i, h, R, hs, hl => ⟨cs, rfl, by simp, hs⟩
  | v :: vs, cs, o, i, h, R, hs, hl => by
    simp only [List.length_cons] at hl
    have h1 := blk_set hs (o + i) v
    obtain ⟨cs', e1, e2, h2⟩ := blk_sets vs (cs.setIfInBounds (o + i) v) o (i + 1) h1 (by simp; omega)
    refine ⟨cs', by simpa using e1, ?_, by simpa [setCellsH, Addr.add_at] using h2⟩
    rw [e2, Array.toList_setIfInBounds]
    have hlen : o + i < cs.toList.length := by simp; omega
    rw [show o + (i + 1) = (o + i) + 1 from by omega, List.take_succ_eq_append_getElem (by simpa using hlen)]
    rw [List.getElem_set_self, List.take_set_of_le (Nat.le_refl _), List.drop_set_of_lt (by omega)]
    simp only [List.length_cons, List.append_assoc, List.cons_append, List.nil_append]
    rw [show o + i + 1 + vs.length = o + i + (vs.length + 1) from by omega]
def intsS (t : ByteArray) : List Int := t.data.toList.map fun b => (b.toNat : Int)
theorem intsS_len (t : ByteArray) : (intsS t).length = t.size := by
  unfold intsS
  rw [List.length_map, Array.length_toList]
  rfl
theorem append_buf {t : ByteArray} {Q : Slc → Heap → Prop} (hs : sat h (bufA T s xs :: R)) (hb : xs.length + t.size ≤ 140737488355328)
    (hq : ∀ s' h', sat h' (bufA T s' (xs ++ intsS t) :: R) → Q s' h') : HM.append T 1 1 #[.int .u8 0] s t.size (srcStr t) h Q := by
  have hvs : (t.data.map fun b => Value.int .u8 b.toNat).toList = (intsS t).map (Value.int .u8) := by simp [intsS, Function.comp_def]
  have hvl : (t.data.map fun b => Value.int .u8 b.toNat).toList.length = t.size := by rw [hvs, List.length_map, intsS_len]
  constructor
  · intro hc
    refine ⟨_, rfl, ?_⟩
    rcases bufA_cases hs with ⟨rfl, rfl, hs1⟩ | ⟨g, cur, hf, hs1⟩
    · have h0 : t.size = 0 := by simpa using hc
      have hq' := hq ⟨none, 0, 0⟩ h
      have e : intsS t = [] := List.eq_nil_of_length_eq_zero (by rw [intsS_len]; exact h0)
      rw [e] at hq'
      simp only [h0]
      exact hq' (bufA_nil hs1)
    · rw [hf.a]
      simp only [Addr.add_at, Nat.mul_one, Nat.zero_add]
      have hlen : s.len + 0 + (t.data.map fun b => Value.int .u8 b.toNat).toList.length ≤ cur.size := by rw [hvl, hf.size]; omega
      have hget := hs1.get
      refine ⟨fun i v hi => ?_, ?_⟩
      · have hlt : i < t.size := by
          have := (Array.getElem?_eq_some_iff.1 hi).1
          simpa using this
        have hil : s.len + i < cur.size := by rw [hf.size]; omega
        refine ⟨?_, ?_, ?_⟩
        · simp [cellH, hget, Array.getElem?_eq_getElem hil]
        · simp [frozenH, hget]
        · rw [Array.getElem?_map] at hi
          obtain ⟨b, _, rfl⟩ := Option.map_eq_some_iff.1 hi
          rfl
      · obtain ⟨cs', e1, e2, h2⟩ := blk_sets (t.data.map fun b => Value.int .u8 b.toNat).toList cur s.len 0 hs1 hlen
        refine hq _ _ (bufA_mk (g := g) (cur := cs') ⟨rfl, hc, by simp [hf.len, intsS_len], by rw [e1]; exact hf.size, ?_, hf.cap⟩ h2)
        rw [e2, hvs]
        simp only [Nat.add_zero, List.length_map, intsS_len]
        rw [hf.front, ← List.map_append]
        have hl3 : s.len + t.size = (xs ++ intsS t).length := by rw [List.length_append, intsS_len, hf.len]
        rw [hl3, List.take_left' (by rw [List.length_map])]
  · intro hc
    have hl : s.len = xs.length ∧ readsH h s.a (s.len * 1) (xs.map (Value.int .u8)).toArray := by
      rcases bufA_cases hs with ⟨rfl, rfl, hs1⟩ | ⟨g, cur, hf, hs1⟩
      · exact ⟨rfl, rfl⟩
      · refine ⟨hf.len, ?_⟩
        rw [hf.a]
        refine ⟨by simp [hf.len], fun i v hi => ?_⟩
        have hget := hs1.get
        have h1 : (xs.map (Value.int .u8))[i]? = some v := by simpa using hi
        rw [← hf.front, List.getElem?_take] at h1
        split at h1
        · rw [Addr.add_at]
          simp only [cellH, hget]
          simpa using h1
        · cases h1
    have hR : sat h R := hs.drop
    refine ⟨by omega, growslice_fits hc (by omega), _, _, hl.2, rfl, fun c hcc hc2 => hq _ _ ?_⟩
    refine bufA_mk (g := h.size) ⟨rfl, hcc, by simp [hl.1, intsS_len], ?_, ?_, hc2⟩ hR.push
    · simp only [Array.size_append, List.size_toArray, List.length_map, Array.size_map, Builtin.zeroCells, Array.size_range]
      have : t.data.size = t.size := rfl
      simp
      omega
    · simp only [Array.toList_append, hvs, ← List.map_append]
      rw [List.take_append_of_le_length (by rw [List.length_map, List.length_append, intsS_len]; omega), List.take_of_length_le (by rw [List.length_map, List.length_append, intsS_len]; omega)]
theorem fresh_old {hB : Heap} {g : Nat} {o : Obj} (hs : sat h (blk g o :: old hB :: R)) : hB.size ≤ g := by
  obtain ⟨m, h1, a, r, hd, rfl, ha, a2, r2, hd2, rfl, ha2, hr2⟩ := hs
  rcases Nat.lt_or_ge g hB.size with hlt | hge
  · exfalso
    have h2 := ha2 g hB[g] (Array.getElem?_eq_getElem hlt)
    rcases hd g with h3 | h3
    · rw [show a g = some o from ha] at h3; cases h3
    · rw [join_left h2] at h3; cases h3
  · exact hge
end
end Go.H
namespace Go.Proofs.YtfhalebbcbgbdaaGreatDoor
open Go.H Go.Proofs Go.Lib
set_option linter.unusedSimpArgs false
set_option linter.unusedVariables false
theorem filt_size {f : ByteArray} (h : filterOK f = true) : f.size ≤ 256 := sizedT_le (filterOK_sized h)
theorem pref_size {s : ByteArray} (h : prefOK s = true) : s.size ≤ 256 := by
  unfold prefOK at h
  rw [Bool.or_eq_true] at h
  rcases h with h | h
  · rw [decide_eq_true_eq] at h
    subst h
    exact Nat.zero_le _
  · exact sizedT_le (nameOK_sized h)
structure RuleOK (r : RuleT) : Prop where
  p : r.1.size ≤ 256
  l : r.2.2.2.1.size ≤ 256
  rm : r.2.2.2.2.1.size ≤ 256
  d : 0 ≤ r.2.1 ∧ r.2.1 ≤ 2
  q : 0 ≤ r.2.2.1 ∧ r.2.2.1 ≤ 2
theorem chk_ok {r : RuleT} (h : chkR r = 0) : RuleOK r := by
  unfold chkR at h
  split at h
  · exact absurd h (by decide)
  split at h
  · exact absurd h (by decide)
  split at h
  · exact absurd h (by decide)
  split at h
  · exact absurd h (by decide)
  rename_i h1 h2 h3 h4
  have h2' : (prefOK r.2.2.2.1 && prefOK r.2.2.2.2.1) = true := by simpa using h2
  rw [Bool.and_eq_true] at h2'
  exact ⟨filt_size (by simpa using h1), pref_size h2'.1, pref_size h2'.2, by omega, by omega⟩
end Go.Proofs.YtfhalebbcbgbdaaGreatDoor
