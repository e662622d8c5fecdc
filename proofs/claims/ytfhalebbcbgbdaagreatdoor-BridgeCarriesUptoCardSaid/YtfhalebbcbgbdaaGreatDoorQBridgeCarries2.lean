/-
  QBridgeCarries2: what the proof BridgeCarriesProof reaches of our texts: Sh, Si, Cids, Cout, Cpk, Lflo, Cpks, Cofl, Cenc, Ku8, Cu8, Cchr, Ltop, Kcnt, Hk, Hl, Ctop, Ctpm, Lnum, Cnum, Crul, Hbt, Lput, Crte, Crfr, Cofm, Hx, Ctag, Kitoa, Kjoin, Ctxt, Cdel, Cbrg, Cbra, Kwrt, Cwrt, Cvar, Cptx, Cbld.
-/
import Derived.Test.YtfhalebbcbgbdaaGreatDoorQBridgeCarries1
import Derived.Test.YtfhalebbcbgbdaaGreatDoorProg
import Derived.KernelRfl
import Derived.Shelf.Unicode.DecodeAny
import Derived.Shelf.Unicode.DecodeLastEight
import Derived.Lib.DecodeN
import Derived.Lib.Split
import Derived.Lib.SplitLaws
import Derived.Lib.IndexBytes
import Derived.Shelf.Strings.Split
import Derived.Shelf.Strings.Count
import Derived.Shelf.SlIterI.Nil
import Derived.Shelf.SortM.Plain
import Derived.Shelf.SortM.SortNone
import Derived.Shelf.SlIter.Nil
import Derived.Shelf.Strconv.Itoa4
import Derived.Shelf.Strings.OnBuilder
import Derived.Shelf.Strings.Builder1
namespace Go.Proofs.YtfhalebbcbgbdaaGreatDoor
open Go.H Go.Proofs
set_option linter.unusedVariables false
set_option linter.unusedSimpArgs false
set_option maxRecDepth 100000
set_option maxHeartbeats 4000000
def packet_writer_props (p0 : Option Addr) (p1 : Int) (p2 : Slc) : HM (Unit) :=
  HM.bind (α := Nat) (HM.new (.cells #[.int .i64 p1] 25)) fun x1 =>
  HM.bind (α := ByteArray × Int × Unit) (HM.callN Tryz.prog [.one .str, .one (.int .u8)] 165 #[.slice p2.a p2.len p2.cap]) fun x2 =>
  HM.bind (α := Unit) (HM.callN Tryz.prog [] 164 #[.pointer p0, .string x2.1, .int .u8 x2.2.1]) fun x3 =>
  HM.bind (α := Bool) (HM.call1 Tryz.prog (.one .bool) 166 #[.slice p2.a p2.len p2.cap, .func (.func 167) #[] #[.pointer (some ⟨x1, 0, none⟩)]]) fun x4 =>
  HM.bind (α := Unit) (HM.ite x4 (
  HM.bind (α := Unit) (HM.callN Tryz.prog [] 84 #[.pointer p0, .int .u8 130]) fun x6 =>
  HM.pure ()) (
  HM.pure ())) fun x5 =>
  HM.pure ()
theorem packet_writer_props_den (p0 : Option Addr) (p1 : Int) (p2 : Slc) : denFn Tryz.prog [165, 164, 166, 84] 17 [0, 1, 2, 4, 14] [0, 1, 2, 4, 14] Tryz.f122.results.toList [] (bodyOf Tryz.f122) [Kind.val (.one .ptr) p0, Kind.val (.one (.int .i64)) p1, Kind.val (.one .slc) p2] = packet_writer_props p0 p1 p2 := by kernel_rfl
theorem packet_writer_props_calls (p0 : Option Addr) (p1 : Int) (p2 : Slc) (h : Heap) (Q : Value → Heap → Prop) (hh : packet_writer_props p0 p1 p2 h fun x h' => Q (.tuple #[]) h') :
    HCalls Tryz.prog 122 #[.pointer p0, .int .i64 p1, .slice p2.a p2.len p2.cap] h Q :=
  calls_of_eq Tryz.func122 (by kernel_rfl) Tryz.ntmps122 (by kernel_rfl) (CC Tryz.call165 (CC Tryz.call164 (CC Tryz.call166 (CC Tryz.call84 CN)))) orders (packet_writer_props_den p0 p1 p2) hh
def packet_writer_publish (p0 : Option Addr) (p1 : Int × Bool × Bool × Int × Int × ByteArray × ByteArray × Int × Slc × Slc × ByteArray × Bool × Int × Bool × ByteArray × ByteArray × Int × Bool × Slc × Bool × Bool × ByteArray × ByteArray × Bool × Slc × Slc × Unit) : HM (Unit) :=
  HM.bind (α := Nat) (HM.new (.cells #[.int .i64 p1.1, .bool p1.2.1, .bool p1.2.2.1, .int .i64 p1.2.2.2.1, .int .i64 p1.2.2.2.2.1, .string p1.2.2.2.2.2.1, .string p1.2.2.2.2.2.2.1, .int .u8 p1.2.2.2.2.2.2.2.1, .slice p1.2.2.2.2.2.2.2.2.1.a p1.2.2.2.2.2.2.2.2.1.len p1.2.2.2.2.2.2.2.2.1.cap, .slice p1.2.2.2.2.2.2.2.2.2.1.a p1.2.2.2.2.2.2.2.2.2.1.len p1.2.2.2.2.2.2.2.2.2.1.cap, .string p1.2.2.2.2.2.2.2.2.2.2.1, .bool p1.2.2.2.2.2.2.2.2.2.2.2.1, .int .i64 p1.2.2.2.2.2.2.2.2.2.2.2.2.1, .bool p1.2.2.2.2.2.2.2.2.2.2.2.2.2.1, .string p1.2.2.2.2.2.2.2.2.2.2.2.2.2.2.1, .string p1.2.2.2.2.2.2.2.2.2.2.2.2.2.2.2.1, .int .i64 p1.2.2.2.2.2.2.2.2.2.2.2.2.2.2.2.2.1, .bool p1.2.2.2.2.2.2.2.2.2.2.2.2.2.2.2.2.2.1, .slice p1.2.2.2.2.2.2.2.2.2.2.2.2.2.2.2.2.2.2.1.a p1.2.2.2.2.2.2.2.2.2.2.2.2.2.2.2.2.2.2.1.len p1.2.2.2.2.2.2.2.2.2.2.2.2.2.2.2.2.2.2.1.cap, .bool p1.2.2.2.2.2.2.2.2.2.2.2.2.2.2.2.2.2.2.2.1, .bool p1.2.2.2.2.2.2.2.2.2.2.2.2.2.2.2.2.2.2.2.2.1, .string p1.2.2.2.2.2.2.2.2.2.2.2.2.2.2.2.2.2.2.2.2.2.1, .string p1.2.2.2.2.2.2.2.2.2.2.2.2.2.2.2.2.2.2.2.2.2.2.1, .bool p1.2.2.2.2.2.2.2.2.2.2.2.2.2.2.2.2.2.2.2.2.2.2.2.1, .slice p1.2.2.2.2.2.2.2.2.2.2.2.2.2.2.2.2.2.2.2.2.2.2.2.2.1.a p1.2.2.2.2.2.2.2.2.2.2.2.2.2.2.2.2.2.2.2.2.2.2.2.2.1.len p1.2.2.2.2.2.2.2.2.2.2.2.2.2.2.2.2.2.2.2.2.2.2.2.2.1.cap, .slice p1.2.2.2.2.2.2.2.2.2.2.2.2.2.2.2.2.2.2.2.2.2.2.2.2.2.1.a p1.2.2.2.2.2.2.2.2.2.2.2.2.2.2.2.2.2.2.2.2.2.2.2.2.2.1.len p1.2.2.2.2.2.2.2.2.2.2.2.2.2.2.2.2.2.2.2.2.2.2.2.2.2.1.cap] 34)) fun x1 =>
  HM.bind (α := ByteArray) (HM.load1 .str (Addr.add ⟨x1, 0, none⟩ 5)) fun x2 =>
  HM.bind (α := Unit) (HM.callN Tryz.prog [] 161 #[.pointer p0, .string x2]) fun x3 =>
  HM.bind (α := Int) (HM.load1 (.int .i64) (Addr.add ⟨x1, 0, none⟩ 3)) fun x4 =>
  HM.bind (α := Unit) (HM.ite (decide (0 < (x4 : Int))) (
  HM.bind (α := Int) (HM.load1 (.int .i64) (Addr.add ⟨x1, 0, none⟩ 4)) fun x6 =>
  HM.bind (α := Unit) (HM.callN Tryz.prog [] 124 #[.pointer p0, .int .i64 x6]) fun x7 =>
  HM.pure ()) (
  HM.pure ())) fun x5 =>
  HM.bind (α := Slc) (HM.load1 .slc (Addr.add ⟨x1, 0, none⟩ 9)) fun x8 =>
  HM.bind (α := Unit) (HM.callN Tryz.prog [] 122 #[.pointer p0, .int .i64 3, .slice x8.a x8.len x8.cap]) fun x9 =>
  HM.bind (α := ByteArray) (HM.load1 .str (Addr.add ⟨x1, 0, none⟩ 6)) fun x10 =>
  HM.bind (α := Unit) (HM.callN Tryz.prog [] 164 #[.pointer p0, .string x10, .int .u8 0]) fun x11 =>
  HM.pure ()
theorem packet_writer_publish_den (p0 : Option Addr) (p1 : Int × Bool × Bool × Int × Int × ByteArray × ByteArray × Int × Slc × Slc × ByteArray × Bool × Int × Bool × ByteArray × ByteArray × Int × Bool × Slc × Bool × Bool × ByteArray × ByteArray × Bool × Slc × Slc × Unit) : denFn Tryz.prog [161, 124, 122, 164] 23 [0, 1, 3, 10] [0, 1, 3, 10] Tryz.f123.results.toList [] (bodyOf Tryz.f123) [Kind.val (.one .ptr) p0, Kind.val (.agg [.int .i64, .bool, .bool, .int .i64, .int .i64, .str, .str, .int .u8, .slc, .slc, .str, .bool, .int .i64, .bool, .str, .str, .int .i64, .bool, .slc, .bool, .bool, .str, .str, .bool, .slc, .slc]) p1] = packet_writer_publish p0 p1 := by kernel_rfl
theorem packet_writer_publish_calls (p0 : Option Addr) (p1 : Int × Bool × Bool × Int × Int × ByteArray × ByteArray × Int × Slc × Slc × ByteArray × Bool × Int × Bool × ByteArray × ByteArray × Int × Bool × Slc × Bool × Bool × ByteArray × ByteArray × Bool × Slc × Slc × Unit) (h : Heap) (Q : Value → Heap → Prop) (hh : packet_writer_publish p0 p1 h fun x h' => Q (.tuple #[]) h') :
    HCalls Tryz.prog 123 #[.pointer p0, .agg #[.int .i64 p1.1, .bool p1.2.1, .bool p1.2.2.1, .int .i64 p1.2.2.2.1, .int .i64 p1.2.2.2.2.1, .string p1.2.2.2.2.2.1, .string p1.2.2.2.2.2.2.1, .int .u8 p1.2.2.2.2.2.2.2.1, .slice p1.2.2.2.2.2.2.2.2.1.a p1.2.2.2.2.2.2.2.2.1.len p1.2.2.2.2.2.2.2.2.1.cap, .slice p1.2.2.2.2.2.2.2.2.2.1.a p1.2.2.2.2.2.2.2.2.2.1.len p1.2.2.2.2.2.2.2.2.2.1.cap, .string p1.2.2.2.2.2.2.2.2.2.2.1, .bool p1.2.2.2.2.2.2.2.2.2.2.2.1, .int .i64 p1.2.2.2.2.2.2.2.2.2.2.2.2.1, .bool p1.2.2.2.2.2.2.2.2.2.2.2.2.2.1, .string p1.2.2.2.2.2.2.2.2.2.2.2.2.2.2.1, .string p1.2.2.2.2.2.2.2.2.2.2.2.2.2.2.2.1, .int .i64 p1.2.2.2.2.2.2.2.2.2.2.2.2.2.2.2.2.1, .bool p1.2.2.2.2.2.2.2.2.2.2.2.2.2.2.2.2.2.1, .slice p1.2.2.2.2.2.2.2.2.2.2.2.2.2.2.2.2.2.2.1.a p1.2.2.2.2.2.2.2.2.2.2.2.2.2.2.2.2.2.2.1.len p1.2.2.2.2.2.2.2.2.2.2.2.2.2.2.2.2.2.2.1.cap, .bool p1.2.2.2.2.2.2.2.2.2.2.2.2.2.2.2.2.2.2.2.1, .bool p1.2.2.2.2.2.2.2.2.2.2.2.2.2.2.2.2.2.2.2.2.1, .string p1.2.2.2.2.2.2.2.2.2.2.2.2.2.2.2.2.2.2.2.2.2.1, .string p1.2.2.2.2.2.2.2.2.2.2.2.2.2.2.2.2.2.2.2.2.2.2.1, .bool p1.2.2.2.2.2.2.2.2.2.2.2.2.2.2.2.2.2.2.2.2.2.2.2.1, .slice p1.2.2.2.2.2.2.2.2.2.2.2.2.2.2.2.2.2.2.2.2.2.2.2.2.1.a p1.2.2.2.2.2.2.2.2.2.2.2.2.2.2.2.2.2.2.2.2.2.2.2.2.1.len p1.2.2.2.2.2.2.2.2.2.2.2.2.2.2.2.2.2.2.2.2.2.2.2.2.1.cap, .slice p1.2.2.2.2.2.2.2.2.2.2.2.2.2.2.2.2.2.2.2.2.2.2.2.2.2.1.a p1.2.2.2.2.2.2.2.2.2.2.2.2.2.2.2.2.2.2.2.2.2.2.2.2.2.1.len p1.2.2.2.2.2.2.2.2.2.2.2.2.2.2.2.2.2.2.2.2.2.2.2.2.2.1.cap]] h Q :=
  calls_of_eq Tryz.func123 (by kernel_rfl) Tryz.ntmps123 (by kernel_rfl) (CC Tryz.call161 (CC Tryz.call124 (CC Tryz.call122 (CC Tryz.call164 CN)))) orders (packet_writer_publish_den p0 p1) hh
def packet_writer_id (p0 : Option Addr) (p1 : Int) : HM (Unit) :=
  HM.bind (α := Bool × Unit) (HM.ite (decide (p1 < (1 : Int))) (
  HM.pure (true, ())) (
  HM.pure (decide (65535 < (p1 : Int)), ()))) fun x1 =>
  HM.ite x1.1 (
  HM.bind (α := Unit) (HM.callN Tryz.prog [] 84 #[.pointer p0, .int .u8 130]) fun x2 =>
  HM.pure ()) (
  HM.bind (α := Unit) (HM.callN Tryz.prog [] 162 #[.pointer p0, .int .i64 p1]) fun x3 =>
  HM.pure ())
theorem packet_writer_id_den (p0 : Option Addr) (p1 : Int) : denFn Tryz.prog [84, 162] 15 [0, 1, 9] [0, 1, 9] Tryz.f124.results.toList [] (bodyOf Tryz.f124) [Kind.val (.one .ptr) p0, Kind.val (.one (.int .i64)) p1] = packet_writer_id p0 p1 := by kernel_rfl
theorem packet_writer_id_calls (p0 : Option Addr) (p1 : Int) (h : Heap) (Q : Value → Heap → Prop) (hh : packet_writer_id p0 p1 h fun x h' => Q (.tuple #[]) h') :
    HCalls Tryz.prog 124 #[.pointer p0, .int .i64 p1] h Q :=
  calls_of_eq Tryz.func124 (by kernel_rfl) Tryz.ntmps124 (by kernel_rfl) (CC Tryz.call84 (CC Tryz.call162 CN)) orders (packet_writer_id_den p0 p1) hh
def varint_wide (p0 : Int) : HM (Bool × Unit) :=
  HM.bind (α := Bool × Unit) (HM.ite (p0 == 1) (
  HM.pure (true, ())) (
  HM.ite (p0 == 2) (
  HM.pure (true, ())) (
  HM.pure (p0 == 4, ())))) fun x1 =>
  HM.pure (x1.1, ())
theorem varint_wide_den (p0 : Int) : denFn Tryz.prog [] 13 [0, 2] [0] Tryz.f127.results.toList [.one .bool] (bodyOf Tryz.f127) [Kind.val (.one (.int .i64)) p0] = varint_wide p0 := by kernel_rfl
theorem varint_wide_calls (p0 : Int) (h : Heap) (Q : Value → Heap → Prop) (hh : varint_wide p0 h fun x h' => Q (.bool x.1) h') :
    HCalls Tryz.prog 127 #[.int .i64 p0] h Q :=
  calls_of_eq Tryz.func127 (by kernel_rfl) Tryz.ntmps127 (by kernel_rfl) CN orders (varint_wide_den p0) hh
def varint_Size (p0 : Int) : HM (Int × Unit) :=
  HM.bind (α := Int × Unit) (HM.bind (α := (Int × Unit) ⊕ (Int × Unit)) (HM.bind (α := (Int × Unit) ⊕ ((Int × Unit) ⊕ (Int × Unit))) (HM.bind (α := (Int × Unit) ⊕ ((Int × Unit) ⊕ ((Int × Unit) ⊕ (Int × Unit)))) (HM.bind (α := (Unit) ⊕ ((Int × Unit) ⊕ ((Int × Unit) ⊕ ((Int × Unit) ⊕ (Int × Unit))))) (HM.bind (α := (Unit) ⊕ ((Unit) ⊕ ((Int × Unit) ⊕ ((Int × Unit) ⊕ ((Int × Unit) ⊕ (Int × Unit)))))) (HM.bind (α := Bool × Unit) (HM.ite (decide (p0 < (0 : Int))) (
  HM.pure (true, ())) (
  HM.pure (decide (268435455 < (p0 : Int)), ()))) fun x7 =>
  HM.ite x7.1 (
  HM.pure (.inl ())) (
  HM.ite (decide (2097152 ≤ (p0 : Int))) (
  HM.pure (.inr (.inl ()))) (
  HM.ite (decide (16384 ≤ (p0 : Int))) (
  HM.pure (.inr (.inr (.inl (0, ()))))) (
  HM.ite (decide (128 ≤ (p0 : Int))) (
  HM.pure (.inr (.inr (.inr (.inl (0, ())))))) (
  HM.pure (.inr (.inr (.inr (.inr (.inl (0, ()))))))))))) (Sum.elim (fun x6 =>
  HM.pure (.inr (.inr (.inr (.inr (0, ())))))) HM.pure)) (Sum.elim (fun x5 =>
  HM.pure (.inl (IntKind.wrap .i64 (0 + 1), ()))) HM.pure)) (Sum.elim (fun x4 =>
  HM.pure (.inl (IntKind.wrap .i64 (x4.1 + 1), ()))) HM.pure)) (Sum.elim (fun x3 =>
  HM.pure (.inl (IntKind.wrap .i64 (x3.1 + 1), ()))) HM.pure)) (Sum.elim (fun x2 =>
  HM.pure (IntKind.wrap .i64 (x2.1 + 1), ())) HM.pure)) fun x1 =>
  HM.pure (x1.1, ())
theorem varint_Size_den (p0 : Int) : denFn Tryz.prog [] 29 [0, 2, 3, 4, 11, 14, 17] [0, 3, 4, 11, 14, 17] Tryz.f128.results.toList [.one (.int .i64)] (bodyOf Tryz.f128) [Kind.val (.one (.int .i64)) p0] = varint_Size p0 := by kernel_rfl
theorem varint_Size_calls (p0 : Int) (h : Heap) (Q : Value → Heap → Prop) (hh : varint_Size p0 h fun x h' => Q (.int .i64 x.1) h') :
    HCalls Tryz.prog 128 #[.int .i64 p0] h Q :=
  calls_of_eq Tryz.func128 (by kernel_rfl) Tryz.ntmps128 (by kernel_rfl) CN orders (varint_Size_den p0) hh
def strings_CutPrefix (p0 : ByteArray) (p1 : ByteArray) : HM (ByteArray × Bool × Unit) :=
  HM.bind (α := ByteArray × Bool × Unit) (HM.callN Tryz.prog [.one .str, .one .bool] 177 #[.string p0, .string p1]) fun x1 =>
  HM.pure (x1.1, x1.2.1, ())
theorem strings_CutPrefix_den (p0 : ByteArray) (p1 : ByteArray) : denFn Tryz.prog [177] 11 [0, 1, 4, 5] [0, 1, 4, 5] Tryz.f141.results.toList [.one .str, .one .bool] (bodyOf Tryz.f141) [Kind.val (.one .str) p0, Kind.val (.one .str) p1] = strings_CutPrefix p0 p1 := by kernel_rfl
theorem strings_CutPrefix_calls (p0 : ByteArray) (p1 : ByteArray) (h : Heap) (Q : Value → Heap → Prop) (hh : strings_CutPrefix p0 p1 h fun x h' => Q (.tuple #[.string x.1, .bool x.2.1]) h') :
    HCalls Tryz.prog 141 #[.string p0, .string p1] h Q :=
  calls_of_eq Tryz.func141 (by kernel_rfl) Tryz.ntmps141 (by kernel_rfl) (CC Tryz.call177 CN) orders (strings_CutPrefix_den p0 p1) hh
def topic_Match (p0 : ByteArray) (p1 : ByteArray) : HM (Bool × Unit) :=
  HM.bind (α := Bool × Unit) (HM.bind (α := Int) (HM.call1 Tryz.prog (.one (.int .u8)) 65 #[.string p0]) fun x1 =>
  HM.ite (!(x1 == 0)) (
  HM.pure (true, ())) (
  HM.bind (α := Int) (HM.call1 Tryz.prog (.one (.int .u8)) 110 #[.string p1]) fun x2 =>
  HM.pure (!(x2 == 0), ()))) fun x3 =>
  HM.ite x3.1 (
  HM.pure (false, ())) (
  HM.bind (α := Bool × Unit) (HM.bind (α := Int) (HM.strIdx p1 0) fun x4 =>
  HM.ite (x4 == 36) (
  HM.bind (α := ByteArray) (HM.substr p0 none (some 1)) fun x5 =>
  HM.ite (decide (x5 = (ByteArray.mk #[43]))) (
  HM.pure (true, ())) (
  HM.bind (α := ByteArray) (HM.substr p0 none (some 1)) fun x6 =>
  HM.pure (decide (x6 = (ByteArray.mk #[35])), ()))) (
  HM.pure (false, ()))) fun x7 =>
  HM.ite x7.1 (
  HM.pure (false, ())) (
  HM.bind (α := Slc) (HM.call1 Tryz.prog (.one .slc) 108 #[.string p0]) fun x8 =>
  HM.bind (α := Slc) (HM.call1 Tryz.prog (.one .slc) 108 #[.string p1]) fun x9 =>
  HM.bind (α := Addr) (HM.idx x8.a x8.len (IntKind.wrap .i64 (((x8.len : Nat) : Int) - 1)) 1) fun x10 =>
  HM.bind (α := ByteArray) (HM.load1 .str x10) fun x11 =>
  HM.bind (α := Slc × Unit) (HM.ite (decide (x11 = (ByteArray.mk #[35]))) (
  HM.bind (α := Slc) (HM.slice x8 none (some (IntKind.wrap .i64 (((x8.len : Nat) : Int) - 1))) none 1) fun x13 =>
  HM.pure (x13, ())) (
  HM.pure (x8, ()))) fun x12 =>
  HM.bind (α := Bool × Unit) (HM.ite (decide (((x9.len : Nat) : Int) < (((x12.1.len : Nat) : Int) : Int))) (
  HM.pure (true, ())) (
  HM.ite (!(decide (x11 = (ByteArray.mk #[35])))) (
  HM.pure (decide (((x12.1.len : Nat) : Int) < (((x9.len : Nat) : Int) : Int)), ())) (
  HM.pure (false, ())))) fun x14 =>
  HM.ite x14.1 (
  HM.pure (false, ())) (
  HM.bind (α := Slc) (HM.slice x9 none (some ((x12.1.len : Nat) : Int)) none 1) fun x15 =>
  HM.bind (α := Bool) (HM.call1 Tryz.prog (.one .bool) 178 #[.slice x12.1.a x12.1.len x12.1.cap, .slice x15.a x15.len x15.cap, .func (.func 179) #[] #[]]) fun x16 =>
  HM.pure (x16, ()))))
theorem topic_Match_den (p0 : ByteArray) (p1 : ByteArray) : denFn Tryz.prog [65, 110, 108, 178] 68 [0, 1, 4, 5, 6, 7, 15, 28, 40, 61] [0, 1, 5, 6, 7, 15, 28, 40, 61] Tryz.f142.results.toList [.one .bool] (bodyOf Tryz.f142) [Kind.val (.one .str) p0, Kind.val (.one .str) p1] = topic_Match p0 p1 := by kernel_rfl
theorem topic_Match_calls (p0 : ByteArray) (p1 : ByteArray) (h : Heap) (Q : Value → Heap → Prop) (hh : topic_Match p0 p1 h fun x h' => Q (.bool x.1) h') :
    HCalls Tryz.prog 142 #[.string p0, .string p1] h Q :=
  calls_of_eq Tryz.func142 (by kernel_rfl) Tryz.ntmps142 (by kernel_rfl) (CC Tryz.call65 (CC Tryz.call110 (CC Tryz.call108 (CC Tryz.call178 CN)))) orders (topic_Match_den p0 p1) hh
def text_Fault (p0 : ByteArray) : HM (Int × Bool × Unit) :=
  HM.bind (α := (Int × Unit) ⊕ (Int × Bool × Unit)) (HM.loop (σ := Int × Unit) (τ := (Int × Unit) ⊕ (Int × Bool × Unit)) (fun x2 =>
  HM.ite (decide (x2.1 < (((ByteArray.size p0 : Nat) : Int) : Int))) (
  HM.bind (α := ByteArray) (HM.substr p0 (some x2.1) none) fun x3 =>
  HM.bind (α := Int) (HM.call1 Tryz.prog (.one (.int .i64)) 195 #[.string x3]) fun x4 =>
  HM.ite (x4 == 0) (
  HM.pure (.inr (.inr (x2.1, true, ())))) (
  HM.pure (.inl (IntKind.wrap .i64 (x2.1 + x4), ())))) (
  HM.pure (.inr (.inl (x2.1, ()))))) (0, ())) (Sum.elim (fun x1 =>
  HM.pure (0, false, ())) HM.pure)
theorem text_Fault_den (p0 : ByteArray) : denFn Tryz.prog [195] 20 [0, 2, 3, 4, 5, 9, 15] [0, 4, 5, 9, 15] Tryz.f157.results.toList [.one (.int .i64), .one .bool] (bodyOf Tryz.f157) [Kind.val (.one .str) p0] = text_Fault p0 := by kernel_rfl
theorem text_Fault_calls (p0 : ByteArray) (h : Heap) (Q : Value → Heap → Prop) (hh : text_Fault p0 h fun x h' => Q (.tuple #[.int .i64 x.1, .bool x.2.1]) h') :
    HCalls Tryz.prog 157 #[.string p0] h Q :=
  calls_of_eq Tryz.func157 (by kernel_rfl) Tryz.ntmps157 (by kernel_rfl) (CC Tryz.call195 CN) orders (text_Fault_den p0) hh
def ids_Pool_Left (p0 : Option Addr) : HM (Int × Unit) :=
  HM.ite (Option.isNone p0) (
  HM.pure (0, ())) (
  HM.bind (α := Addr) (HM.nonnil p0) fun x1 =>
  HM.bind (α := Int) (HM.load1 (.int .i64) (Addr.add x1 0)) fun x2 =>
  HM.bind (α := Addr) (HM.nonnil p0) fun x3 =>
  HM.bind (α := Option Nat) (HM.load1 .map (Addr.add x3 2)) fun x4 =>
  HM.bind (α := Int) (HM.mapLen x4) fun x5 =>
  HM.pure (IntKind.wrap .i64 (x2 - x5), ()))
theorem ids_Pool_Left_den (p0 : Option Addr) : denFn Tryz.prog [] 15 [0, 2, 4] [0, 4] Tryz.f160.results.toList [.one (.int .i64)] (bodyOf Tryz.f160) [Kind.val (.one .ptr) p0] = ids_Pool_Left p0 := by kernel_rfl
theorem ids_Pool_Left_calls (p0 : Option Addr) (h : Heap) (Q : Value → Heap → Prop) (hh : ids_Pool_Left p0 h fun x h' => Q (.int .i64 x.1) h') :
    HCalls Tryz.prog 160 #[.pointer p0] h Q :=
  calls_of_eq Tryz.func160 (by kernel_rfl) Tryz.ntmps160 (by kernel_rfl) CN orders (ids_Pool_Left_den p0) hh
def packet_writer_text (p0 : Option Addr) (p1 : ByteArray) : HM (Unit) :=
  HM.bind (α := ByteArray × Int × Unit) (HM.callN Tryz.prog [.one .str, .one (.int .u8)] 197 #[.string p1]) fun x1 =>
  HM.bind (α := Unit) (HM.callN Tryz.prog [] 164 #[.pointer p0, .string x1.1, .int .u8 x1.2.1]) fun x2 =>
  HM.pure ()
theorem packet_writer_text_den (p0 : Option Addr) (p1 : ByteArray) : denFn Tryz.prog [197, 164] 10 [0, 1] [0, 1] Tryz.f161.results.toList [] (bodyOf Tryz.f161) [Kind.val (.one .ptr) p0, Kind.val (.one .str) p1] = packet_writer_text p0 p1 := by kernel_rfl
theorem packet_writer_text_calls (p0 : Option Addr) (p1 : ByteArray) (h : Heap) (Q : Value → Heap → Prop) (hh : packet_writer_text p0 p1 h fun x h' => Q (.tuple #[]) h') :
    HCalls Tryz.prog 161 #[.pointer p0, .string p1] h Q :=
  calls_of_eq Tryz.func161 (by kernel_rfl) Tryz.ntmps161 (by kernel_rfl) (CC Tryz.call197 (CC Tryz.call164 CN)) orders (packet_writer_text_den p0 p1) hh
def packet_writer_two (p0 : Option Addr) (p1 : Int) : HM (Unit) :=
  HM.bind (α := ByteArray × Int × Unit) (HM.callN Tryz.prog [.one .str, .one (.int .u8)] 88 #[.int .i64 2, .int .i64 p1]) fun x1 =>
  HM.bind (α := Unit) (HM.callN Tryz.prog [] 164 #[.pointer p0, .string x1.1, .int .u8 x1.2.1]) fun x2 =>
  HM.pure ()
theorem packet_writer_two_den (p0 : Option Addr) (p1 : Int) : denFn Tryz.prog [88, 164] 10 [0, 1] [0, 1] Tryz.f162.results.toList [] (bodyOf Tryz.f162) [Kind.val (.one .ptr) p0, Kind.val (.one (.int .i64)) p1] = packet_writer_two p0 p1 := by kernel_rfl
theorem packet_writer_two_calls (p0 : Option Addr) (p1 : Int) (h : Heap) (Q : Value → Heap → Prop) (hh : packet_writer_two p0 p1 h fun x h' => Q (.tuple #[]) h') :
    HCalls Tryz.prog 162 #[.pointer p0, .int .i64 p1] h Q :=
  calls_of_eq Tryz.func162 (by kernel_rfl) Tryz.ntmps162 (by kernel_rfl) (CC Tryz.call88 (CC Tryz.call164 CN)) orders (packet_writer_two_den p0 p1) hh
def packet_writer_part (p0 : Option Addr) (p1 : ByteArray) (p2 : Int) : HM (Unit) :=
  HM.bind (α := Unit) (HM.callN Tryz.prog [] 84 #[.pointer p0, .int .u8 p2]) fun x1 =>
  HM.bind (α := Addr) (HM.nonnil p0) fun x2 =>
  HM.bind (α := Int × Value × Unit) (HM.callN Tryz.prog [.one (.int .i64), .one .any] 100 #[.pointer (some (Addr.add x2 0)), .string p1]) fun x3 =>
  HM.pure ()
theorem packet_writer_part_den (p0 : Option Addr) (p1 : ByteArray) (p2 : Int) : denFn Tryz.prog [84, 100] 14 [0, 1, 2] [0, 1, 2] Tryz.f164.results.toList [] (bodyOf Tryz.f164) [Kind.val (.one .ptr) p0, Kind.val (.one .str) p1, Kind.val (.one (.int .u8)) p2] = packet_writer_part p0 p1 p2 := by kernel_rfl
theorem packet_writer_part_calls (p0 : Option Addr) (p1 : ByteArray) (p2 : Int) (h : Heap) (Q : Value → Heap → Prop) (hh : packet_writer_part p0 p1 p2 h fun x h' => Q (.tuple #[]) h') :
    HCalls Tryz.prog 164 #[.pointer p0, .string p1, .int .u8 p2] h Q :=
  calls_of_eq Tryz.func164 (by kernel_rfl) Tryz.ntmps164 (by kernel_rfl) (CC Tryz.call84 (CC Tryz.call100 CN)) orders (packet_writer_part_den p0 p1 p2) hh
def prop_Put (p0 : Slc) : HM (ByteArray × Int × Unit) :=
  HM.ite (decide (64 < (((p0.len : Nat) : Int) : Int))) (
  HM.pure (ByteArray.mk #[], 149, ())) (
  HM.bind (α := Nat) (HM.new (.cells #[.pointer none, .slice none 0 0] 199)) fun x1 =>
  HM.bind (α := (Int × Unit) ⊕ (ByteArray × Int × Unit)) (HM.loop (σ := Int × Unit) (τ := (Int × Unit) ⊕ (ByteArray × Int × Unit)) (fun x3 =>
  HM.ite (decide (x3.1 < (((p0.len : Nat) : Int) : Int))) (
  HM.bind (α := Addr) (HM.idx p0.a p0.len x3.1 4) fun x4 =>
  HM.bind (α := Int × Int × ByteArray × ByteArray × Unit) (HM.loadN [.int .i64, .int .i64, .str, .str] x4) fun x5 =>
  HM.bind (α := Nat) (HM.new (.cells #[.int .i64 0, .int .i64 0, .string (ByteArray.mk #[]), .string (ByteArray.mk #[])] 44)) fun x6 =>
  HM.bind (α := Unit) (HM.storeN ⟨x6, 0, none⟩ [.int .i64 x5.1, .int .i64 x5.2.1, .string x5.2.2.1, .string x5.2.2.2.1]) fun _ =>
  HM.bind (α := Int) (HM.load1 (.int .i64) (Addr.add ⟨x6, 0, none⟩ 0)) fun x7 =>
  HM.bind (α := Int) (HM.call1 Tryz.prog (.one (.int .i64)) 199 #[.int .i64 x7]) fun x8 =>
  HM.ite (x8 == 0) (
  HM.pure (.inr (.inr (ByteArray.mk #[], 129, ())))) (
  HM.bind (α := Slc) (HM.slice p0 none (some x3.1) none 4) fun x9 =>
  HM.bind (α := Int) (HM.load1 (.int .i64) (Addr.add ⟨x6, 0, none⟩ 0)) fun x10 =>
  HM.bind (α := Bool) (HM.call1 Tryz.prog (.one .bool) 200 #[.slice x9.a x9.len x9.cap, .int .i64 x10]) fun x11 =>
  HM.ite x11 (
  HM.pure (.inr (.inr (ByteArray.mk #[], 130, ())))) (
  HM.bind (α := Int × Int × ByteArray × ByteArray × Unit) (HM.loadN [.int .i64, .int .i64, .str, .str] ⟨x6, 0, none⟩) fun x12 =>
  HM.bind (α := ByteArray × Int × Unit) (HM.callN Tryz.prog [.one .str, .one (.int .u8)] 201 #[.agg #[.int .i64 x12.1, .int .i64 x12.2.1, .string x12.2.2.1, .string x12.2.2.2.1]]) fun x13 =>
  HM.ite (!(x13.2.1 == 0)) (
  HM.pure (.inr (.inr (ByteArray.mk #[], x13.2.1, ())))) (
  HM.bind (α := Int) (HM.load1 (.int .i64) (Addr.add ⟨x6, 0, none⟩ 0)) fun x14 =>
  HM.bind (α := ByteArray × Int × Unit) (HM.callN Tryz.prog [.one .str, .one (.int .u8)] 89 #[.int .i64 x14]) fun x15 =>
  HM.req (ByteArray.size x15.1 + ByteArray.size x13.1 ≤ 9223372036854775807) <|
  HM.bind (α := Int × Value × Unit) (HM.callN Tryz.prog [.one (.int .i64), .one .any] 100 #[.pointer (some ⟨x1, 0, none⟩), .string (x15.1 ++ x13.1)]) fun x16 =>
  HM.pure (.inl (IntKind.wrap .i64 (x3.1 + 1), ())))))) (
  HM.pure (.inr (.inl (x3.1, ()))))) (0, ())) (Sum.elim (fun x2 =>
  HM.bind (α := Int) (HM.call1 Tryz.prog (.one (.int .i64)) 87 #[.pointer (some ⟨x1, 0, none⟩)]) fun x17 =>
  HM.bind (α := ByteArray × Int × Unit) (HM.callN Tryz.prog [.one .str, .one (.int .u8)] 89 #[.int .i64 x17]) fun x18 =>
  HM.ite (!(x18.2.1 == 0)) (
  HM.pure (ByteArray.mk #[], 149, ())) (
  HM.bind (α := ByteArray) (HM.call1 Tryz.prog (.one .str) 90 #[.pointer (some ⟨x1, 0, none⟩)]) fun x19 =>
  HM.req (ByteArray.size x18.1 + ByteArray.size x19 ≤ 9223372036854775807) <|
  HM.pure (x18.1 ++ x19, 0, ()))) HM.pure))
theorem prop_Put_den (p0 : Slc) : denFn Tryz.prog [199, 200, 201, 89, 100, 87, 90] 64 [0, 2, 3, 4, 5, 6, 7, 8, 9, 11, 12, 15, 16, 17, 18, 19, 23, 28, 41, 60] [0, 4, 5, 6, 7, 8, 9, 11, 12, 15, 16, 17, 18, 19, 23, 28, 41, 60] Tryz.f165.results.toList [.one .str, .one (.int .u8)] (bodyOf Tryz.f165) [Kind.val (.one .slc) p0] = prop_Put p0 := by kernel_rfl
theorem prop_Put_calls (p0 : Slc) (h : Heap) (Q : Value → Heap → Prop) (hh : prop_Put p0 h fun x h' => Q (.tuple #[.string x.1, .int .u8 x.2.1]) h') :
    HCalls Tryz.prog 165 #[.slice p0.a p0.len p0.cap] h Q :=
  calls_of_eq Tryz.func165 (by kernel_rfl) Tryz.ntmps165 (by kernel_rfl) (CC Tryz.call199 (CC Tryz.call200 (CC Tryz.call201 (CC Tryz.call89 (CC Tryz.call100 (CC Tryz.call87 (CC Tryz.call90 CN))))))) orders (prop_Put_den p0) hh
def slices_ContainsFunc (p0 : Slc) (p1 : Value) : HM (Bool × Unit) :=
  HM.bind (α := Int) (HM.call1 Tryz.prog (.one (.int .i64)) 202 #[.slice p0.a p0.len p0.cap, p1]) fun x1 =>
  HM.pure (decide (0 ≤ (x1 : Int)), ())
theorem slices_ContainsFunc_den (p0 : Slc) (p1 : Value) : denFn Tryz.prog [202] 9 [0, 1, 4] [0, 1] Tryz.f166.results.toList [.one .bool] (bodyOf Tryz.f166) [Kind.val (.one .slc) p0, Kind.val (.one .any) p1] = slices_ContainsFunc p0 p1 := by kernel_rfl
theorem slices_ContainsFunc_calls (p0 : Slc) (p1 : Value) (h : Heap) (Q : Value → Heap → Prop) (hh : slices_ContainsFunc p0 p1 h fun x h' => Q (.bool x.1) h') :
    HCalls Tryz.prog 166 #[.slice p0.a p0.len p0.cap, p1] h Q :=
  calls_of_eq Tryz.func166 (by kernel_rfl) Tryz.ntmps166 (by kernel_rfl) (CC Tryz.call202 CN) orders (slices_ContainsFunc_den p0 p1) hh
def packet_writer_props_f1 (p0 : Int × Int × ByteArray × ByteArray × Unit) (p1 : Addr) : HM (Bool × Unit) :=
  HM.bind (α := Nat) (HM.new (.cells #[.int .i64 p0.1, .int .i64 p0.2.1, .string p0.2.2.1, .string p0.2.2.2.1] 44)) fun x1 =>
  HM.bind (α := Int) (HM.load1 (.int .i64) p1) fun x2 =>
  HM.bind (α := Int) (HM.load1 (.int .i64) (Addr.add ⟨x1, 0, none⟩ 0)) fun x3 =>
  HM.bind (α := Bool) (HM.call1 Tryz.prog (.one .bool) 168 #[.int .i64 x2, .int .i64 x3]) fun x4 =>
  HM.pure (!x4, ())
theorem packet_writer_props_f1_den (p0 : Int × Int × ByteArray × ByteArray × Unit) (p1 : Addr) : denFn Tryz.prog [168] 9 [0, 1, 2, 3] [0, 1, 2] Tryz.f167.results.toList [.one .bool] (bodyOf Tryz.f167) [Kind.val (.agg [.int .i64, .int .i64, .str, .str]) p0, Value.pointer (some p1)] = packet_writer_props_f1 p0 p1 := by kernel_rfl
theorem packet_writer_props_f1_calls (p0 : Int × Int × ByteArray × ByteArray × Unit) (p1 : Addr) (h : Heap) (Q : Value → Heap → Prop) (hh : packet_writer_props_f1 p0 p1 h fun x h' => Q (.bool x.1) h') :
    HCalls Tryz.prog 167 #[.agg #[.int .i64 p0.1, .int .i64 p0.2.1, .string p0.2.2.1, .string p0.2.2.2.1], .pointer (some p1)] h Q :=
  calls_of_eq Tryz.func167 (by kernel_rfl) Tryz.ntmps167 (by kernel_rfl) (CC Tryz.call168 CN) orders (packet_writer_props_f1_den p0 p1) hh
def packet_Allowed (p0 : Int) (p1 : Int) : HM (Bool × Unit) :=
  HM.bind (α := Slc × Unit) (HM.ite (p0 == 0) (
  HM.bind (α := Nat) (HM.new (.cells #[.int .i64 1, .int .i64 2, .int .i64 3, .int .i64 8, .int .i64 9, .int .i64 24, .int .i64 38] 3)) fun x2 =>
  HM.pure (⟨some ⟨x2, 0, none⟩, 7, 7⟩, ())) (
  HM.bind (α := Slc × Unit) (HM.ite (p0 == 1) (
  HM.bind (α := Nat) (HM.new (.cells #[.int .i64 17, .int .i64 21, .int .i64 22, .int .i64 23, .int .i64 25, .int .i64 33, .int .i64 34, .int .i64 38, .int .i64 39] 3)) fun x4 =>
  HM.pure (⟨some ⟨x4, 0, none⟩, 9, 9⟩, ())) (
  HM.bind (α := Slc × Unit) (HM.ite (p0 == 2) (
  HM.bind (α := Nat) (HM.new (.cells #[.int .i64 17, .int .i64 18, .int .i64 19, .int .i64 21, .int .i64 22, .int .i64 26, .int .i64 28, .int .i64 31, .int .i64 33, .int .i64 34, .int .i64 36, .int .i64 37, .int .i64 38, .int .i64 39, .int .i64 40, .int .i64 41, .int .i64 42] 3)) fun x6 =>
  HM.pure (⟨some ⟨x6, 0, none⟩, 17, 17⟩, ())) (
  HM.bind (α := Slc × Unit) (HM.ite (p0 == 3) (
  HM.bind (α := Nat) (HM.new (.cells #[.int .i64 1, .int .i64 2, .int .i64 3, .int .i64 8, .int .i64 9, .int .i64 11, .int .i64 35, .int .i64 38] 3)) fun x8 =>
  HM.pure (⟨some ⟨x8, 0, none⟩, 8, 8⟩, ())) (
  HM.bind (α := Slc × Unit) (HM.ite (p0 == 8) (
  HM.bind (α := Nat) (HM.new (.cells #[.int .i64 11, .int .i64 38] 3)) fun x10 =>
  HM.pure (⟨some ⟨x10, 0, none⟩, 2, 2⟩, ())) (
  HM.bind (α := Slc × Unit) (HM.ite (p0 == 10) (
  HM.bind (α := Nat) (HM.new (.cells #[.int .i64 38] 3)) fun x12 =>
  HM.pure (⟨some ⟨x12, 0, none⟩, 1, 1⟩, ())) (
  HM.bind (α := Slc × Unit) (HM.ite (p0 == 14) (
  HM.bind (α := Nat) (HM.new (.cells #[.int .i64 17, .int .i64 28, .int .i64 31, .int .i64 38] 3)) fun x14 =>
  HM.pure (⟨some ⟨x14, 0, none⟩, 4, 4⟩, ())) (
  HM.bind (α := Slc × Unit) (HM.ite (p0 == 15) (
  HM.bind (α := Nat) (HM.new (.cells #[.int .i64 21, .int .i64 22, .int .i64 31, .int .i64 38] 3)) fun x16 =>
  HM.pure (⟨some ⟨x16, 0, none⟩, 4, 4⟩, ())) (
  HM.bind (α := Bool × Unit) (HM.ite (p0 == 4) (
  HM.pure (p0 == 4, ())) (
  HM.bind (α := Bool × Unit) (HM.ite (p0 == 5) (
  HM.pure (p0 == 5, ())) (
  HM.bind (α := Bool × Unit) (HM.ite (p0 == 6) (
  HM.pure (p0 == 6, ())) (
  HM.bind (α := Bool × Unit) (HM.ite (p0 == 7) (
  HM.pure (p0 == 7, ())) (
  HM.bind (α := Bool × Unit) (HM.ite (p0 == 9) (
  HM.pure (p0 == 9, ())) (
  HM.pure (p0 == 11, ()))) fun x21 =>
  HM.pure (x21.1, ()))) fun x20 =>
  HM.pure (x20.1, ()))) fun x19 =>
  HM.pure (x19.1, ()))) fun x18 =>
  HM.pure (x18.1, ()))) fun x17 =>
  HM.bind (α := Slc × Unit) (HM.ite x17.1 (
  HM.bind (α := Nat) (HM.new (.cells #[.int .i64 31, .int .i64 38] 3)) fun x23 =>
  HM.pure (⟨some ⟨x23, 0, none⟩, 2, 2⟩, ())) (
  HM.pure (⟨none, 0, 0⟩, ()))) fun x22 =>
  HM.pure (x22.1, ()))) fun x15 =>
  HM.pure (x15.1, ()))) fun x13 =>
  HM.pure (x13.1, ()))) fun x11 =>
  HM.pure (x11.1, ()))) fun x9 =>
  HM.pure (x9.1, ()))) fun x7 =>
  HM.pure (x7.1, ()))) fun x5 =>
  HM.pure (x5.1, ()))) fun x3 =>
  HM.pure (x3.1, ()))) fun x1 =>
  HM.bind (α := Bool) (HM.call1 Tryz.prog (.one .bool) 203 #[.slice x1.1.a x1.1.len x1.1.cap, .int .i64 p1]) fun x24 =>
  HM.pure (x24, ())
theorem packet_Allowed_den (p0 : Int) (p1 : Int) : denFn Tryz.prog [203] 42 [0, 1, 4, 5, 6, 7, 10, 13, 16, 19, 22, 25, 28, 31] [0, 1, 5, 6, 7, 10, 13, 16, 19, 22, 25, 28, 31] Tryz.f168.results.toList [.one .bool] (bodyOf Tryz.f168) [Kind.val (.one (.int .i64)) p0, Kind.val (.one (.int .i64)) p1] = packet_Allowed p0 p1 := by kernel_rfl
theorem packet_Allowed_calls (p0 : Int) (p1 : Int) (h : Heap) (Q : Value → Heap → Prop) (hh : packet_Allowed p0 p1 h fun x h' => Q (.bool x.1) h') :
    HCalls Tryz.prog 168 #[.int .i64 p0, .int .i64 p1] h Q :=
  calls_of_eq Tryz.func168 (by kernel_rfl) Tryz.ntmps168 (by kernel_rfl) (CC Tryz.call203 CN) orders (packet_Allowed_den p0 p1) hh
def stringslite_CutPrefix (p0 : ByteArray) (p1 : ByteArray) : HM (ByteArray × Bool × Unit) :=
  HM.bind (α := Bool) (HM.call1 Tryz.prog (.one .bool) 209 #[.string p0, .string p1]) fun x1 =>
  HM.ite (!x1) (
  HM.pure (p0, false, ())) (
  HM.bind (α := ByteArray) (HM.substr p0 (some ((ByteArray.size p1 : Nat) : Int)) none) fun x2 =>
  HM.pure (x2, true, ()))
theorem stringslite_CutPrefix_den (p0 : ByteArray) (p1 : ByteArray) : denFn Tryz.prog [209] 15 [0, 1, 4, 5, 9] [0, 1, 4, 5, 9] Tryz.f177.results.toList [.one .str, .one .bool] (bodyOf Tryz.f177) [Kind.val (.one .str) p0, Kind.val (.one .str) p1] = stringslite_CutPrefix p0 p1 := by kernel_rfl
theorem stringslite_CutPrefix_calls (p0 : ByteArray) (p1 : ByteArray) (h : Heap) (Q : Value → Heap → Prop) (hh : stringslite_CutPrefix p0 p1 h fun x h' => Q (.tuple #[.string x.1, .bool x.2.1]) h') :
    HCalls Tryz.prog 177 #[.string p0, .string p1] h Q :=
  calls_of_eq Tryz.func177 (by kernel_rfl) Tryz.ntmps177 (by kernel_rfl) (CC Tryz.call209 CN) orders (stringslite_CutPrefix_den p0 p1) hh
def slices_EqualFunc (p0 : Slc) (p1 : Slc) (p2 : Value) : HM (Bool × Unit) :=
  HM.ite (!(((p0.len : Nat) : Int) == ((p1.len : Nat) : Int))) (
  HM.pure (false, ())) (
  HM.bind (α := (Int × Unit) ⊕ (Bool × Unit)) (HM.loop (σ := Int × Unit) (τ := (Int × Unit) ⊕ (Bool × Unit)) (fun x2 =>
  HM.ite (decide (x2.1 < (((p0.len : Nat) : Int) : Int))) (
  HM.bind (α := Addr) (HM.idx p0.a p0.len x2.1 1) fun x3 =>
  HM.bind (α := ByteArray) (HM.load1 .str x3) fun x4 =>
  HM.bind (α := Addr) (HM.idx p1.a p1.len x2.1 1) fun x5 =>
  HM.bind (α := ByteArray) (HM.load1 .str x5) fun x6 =>
  HM.bind (α := Bool) (HM.callV1 Tryz.prog (.one .bool) p2 #[.string x4, .string x6]) fun x7 =>
  HM.ite (!x7) (
  HM.pure (.inr (.inr (false, ())))) (
  HM.pure (.inl (IntKind.wrap .i64 (x2.1 + 1), ())))) (
  HM.pure (.inr (.inl (x2.1, ()))))) (0, ())) (Sum.elim (fun x1 =>
  HM.pure (true, ())) HM.pure))
theorem slices_EqualFunc_den (p0 : Slc) (p1 : Slc) (p2 : Value) : denFn Tryz.prog [] 32 [0, 1, 2, 6, 7, 8, 9, 14, 15, 16, 17, 18, 30] [0, 1, 2, 7, 8, 9, 14, 15, 16, 17, 18, 30] Tryz.f178.results.toList [.one .bool] (bodyOf Tryz.f178) [Kind.val (.one .slc) p0, Kind.val (.one .slc) p1, Kind.val (.one .any) p2] = slices_EqualFunc p0 p1 p2 := by kernel_rfl
theorem slices_EqualFunc_calls (p0 : Slc) (p1 : Slc) (p2 : Value) (h : Heap) (Q : Value → Heap → Prop) (hh : slices_EqualFunc p0 p1 p2 h fun x h' => Q (.bool x.1) h') :
    HCalls Tryz.prog 178 #[.slice p0.a p0.len p0.cap, .slice p1.a p1.len p1.cap, p2] h Q :=
  calls_of_eq Tryz.func178 (by kernel_rfl) Tryz.ntmps178 (by kernel_rfl) CN orders (slices_EqualFunc_den p0 p1 p2) hh
def topic_Match_f1 (p0 : ByteArray) (p1 : ByteArray) : HM (Bool × Unit) :=
  HM.bind (α := Bool × Unit) (HM.ite (decide (p0 = (ByteArray.mk #[43]))) (
  HM.pure (true, ())) (
  HM.pure (decide (p0 = p1), ()))) fun x1 =>
  HM.pure (x1.1, ())
theorem topic_Match_f1_den (p0 : ByteArray) (p1 : ByteArray) : denFn Tryz.prog [] 12 [0, 1, 4] [0, 1] Tryz.f179.results.toList [.one .bool] (bodyOf Tryz.f179) [Kind.val (.one .str) p0, Kind.val (.one .str) p1] = topic_Match_f1 p0 p1 := by kernel_rfl
theorem topic_Match_f1_calls (p0 : ByteArray) (p1 : ByteArray) (h : Heap) (Q : Value → Heap → Prop) (hh : topic_Match_f1 p0 p1 h fun x h' => Q (.bool x.1) h') :
    HCalls Tryz.prog 179 #[.string p0, .string p1] h Q :=
  calls_of_eq Tryz.func179 (by kernel_rfl) Tryz.ntmps179 (by kernel_rfl) CN orders (topic_Match_f1_den p0 p1) hh
def text_next (p0 : ByteArray) : HM (Int × Unit) :=
  HM.bind (α := Int × Int × Unit) (HM.callN Tryz.prog [.one (.int .i32), .one (.int .i64)] 188 #[.string p0]) fun x1 =>
  HM.bind (α := Bool × Unit) (HM.ite (x1.1 == 0) (
  HM.pure (true, ())) (
  HM.ite (x1.1 == 65533) (
  HM.pure (decide (x1.2.1 < (2 : Int)), ())) (
  HM.pure (false, ())))) fun x2 =>
  HM.ite x2.1 (
  HM.pure (0, ())) (
  HM.pure (x1.2.1, ()))
theorem text_next_den (p0 : ByteArray) : denFn Tryz.prog [188] 21 [0, 2, 3, 4, 19] [0, 3, 4, 19] Tryz.f195.results.toList [.one (.int .i64)] (bodyOf Tryz.f195) [Kind.val (.one .str) p0] = text_next p0 := by kernel_rfl
theorem text_next_calls (p0 : ByteArray) (h : Heap) (Q : Value → Heap → Prop) (hh : text_next p0 h fun x h' => Q (.int .i64 x.1) h') :
    HCalls Tryz.prog 195 #[.string p0] h Q :=
  calls_of_eq Tryz.func195 (by kernel_rfl) Tryz.ntmps195 (by kernel_rfl) (CC Tryz.call188 CN) orders (text_next_den p0) hh
def text_Put (p0 : ByteArray) : HM (ByteArray × Int × Unit) :=
  HM.bind (α := Int × Bool × Unit) (HM.callN Tryz.prog [.one (.int .i64), .one .bool] 157 #[.string p0]) fun x1 =>
  HM.ite x1.2.1 (
  HM.pure (ByteArray.mk #[], 129, ())) (
  HM.bind (α := ByteArray × Int × Unit) (HM.callN Tryz.prog [.one .str, .one (.int .u8)] 198 #[.string p0]) fun x2 =>
  HM.pure (x2.1, x2.2.1, ()))
theorem text_Put_den (p0 : ByteArray) : denFn Tryz.prog [157, 198] 16 [0, 2, 3, 5, 11] [0, 5, 11] Tryz.f197.results.toList [.one .str, .one (.int .u8)] (bodyOf Tryz.f197) [Kind.val (.one .str) p0] = text_Put p0 := by kernel_rfl
theorem text_Put_calls (p0 : ByteArray) (h : Heap) (Q : Value → Heap → Prop) (hh : text_Put p0 h fun x h' => Q (.tuple #[.string x.1, .int .u8 x.2.1]) h') :
    HCalls Tryz.prog 197 #[.string p0] h Q :=
  calls_of_eq Tryz.func197 (by kernel_rfl) Tryz.ntmps197 (by kernel_rfl) (CC Tryz.call157 (CC Tryz.call198 CN)) orders (text_Put_den p0) hh
def varint_Data (p0 : ByteArray) : HM (ByteArray × Int × Unit) :=
  HM.ite (decide (65535 < (((ByteArray.size p0 : Nat) : Int) : Int))) (
  HM.pure (ByteArray.mk #[], 149, ())) (
  HM.bind (α := ByteArray × Int × Unit) (HM.callN Tryz.prog [.one .str, .one (.int .u8)] 88 #[.int .i64 2, .int .i64 ((ByteArray.size p0 : Nat) : Int)]) fun x1 =>
  HM.req (ByteArray.size x1.1 + ByteArray.size p0 ≤ 9223372036854775807) <|
  HM.pure (x1.1 ++ p0, 0, ()))
theorem varint_Data_den (p0 : ByteArray) : denFn Tryz.prog [88] 18 [0, 2, 3, 4, 8] [0, 4, 8] Tryz.f198.results.toList [.one .str, .one (.int .u8)] (bodyOf Tryz.f198) [Kind.val (.one .str) p0] = varint_Data p0 := by kernel_rfl
theorem varint_Data_calls (p0 : ByteArray) (h : Heap) (Q : Value → Heap → Prop) (hh : varint_Data p0 h fun x h' => Q (.tuple #[.string x.1, .int .u8 x.2.1]) h') :
    HCalls Tryz.prog 198 #[.string p0] h Q :=
  calls_of_eq Tryz.func198 (by kernel_rfl) Tryz.ntmps198 (by kernel_rfl) (CC Tryz.call88 CN) orders (varint_Data_den p0) hh
def prop_KindOf (p0 : Int) : HM (Int × Unit) :=
  HM.bind (α := Bool × Unit) (HM.ite (p0 == 1) (
  HM.pure (p0 == 1, ())) (
  HM.bind (α := Bool × Unit) (HM.ite (p0 == 23) (
  HM.pure (p0 == 23, ())) (
  HM.bind (α := Bool × Unit) (HM.ite (p0 == 25) (
  HM.pure (p0 == 25, ())) (
  HM.bind (α := Bool × Unit) (HM.ite (p0 == 36) (
  HM.pure (p0 == 36, ())) (
  HM.bind (α := Bool × Unit) (HM.ite (p0 == 37) (
  HM.pure (p0 == 37, ())) (
  HM.bind (α := Bool × Unit) (HM.ite (p0 == 40) (
  HM.pure (p0 == 40, ())) (
  HM.bind (α := Bool × Unit) (HM.ite (p0 == 41) (
  HM.pure (p0 == 41, ())) (
  HM.pure (p0 == 42, ()))) fun x7 =>
  HM.pure (x7.1, ()))) fun x6 =>
  HM.pure (x6.1, ()))) fun x5 =>
  HM.pure (x5.1, ()))) fun x4 =>
  HM.pure (x4.1, ()))) fun x3 =>
  HM.pure (x3.1, ()))) fun x2 =>
  HM.pure (x2.1, ()))) fun x1 =>
  HM.ite x1.1 (
  HM.pure (1, ())) (
  HM.bind (α := Bool × Unit) (HM.ite (p0 == 19) (
  HM.pure (p0 == 19, ())) (
  HM.bind (α := Bool × Unit) (HM.ite (p0 == 33) (
  HM.pure (p0 == 33, ())) (
  HM.bind (α := Bool × Unit) (HM.ite (p0 == 34) (
  HM.pure (p0 == 34, ())) (
  HM.pure (p0 == 35, ()))) fun x10 =>
  HM.pure (x10.1, ()))) fun x9 =>
  HM.pure (x9.1, ()))) fun x8 =>
  HM.ite x8.1 (
  HM.pure (2, ())) (
  HM.bind (α := Bool × Unit) (HM.ite (p0 == 2) (
  HM.pure (p0 == 2, ())) (
  HM.bind (α := Bool × Unit) (HM.ite (p0 == 17) (
  HM.pure (p0 == 17, ())) (
  HM.bind (α := Bool × Unit) (HM.ite (p0 == 24) (
  HM.pure (p0 == 24, ())) (
  HM.pure (p0 == 39, ()))) fun x13 =>
  HM.pure (x13.1, ()))) fun x12 =>
  HM.pure (x12.1, ()))) fun x11 =>
  HM.ite x11.1 (
  HM.pure (3, ())) (
  HM.ite (p0 == 11) (
  HM.pure (4, ())) (
  HM.bind (α := Bool × Unit) (HM.ite (p0 == 9) (
  HM.pure (p0 == 9, ())) (
  HM.pure (p0 == 22, ()))) fun x14 =>
  HM.ite x14.1 (
  HM.pure (5, ())) (
  HM.bind (α := Bool × Unit) (HM.ite (p0 == 3) (
  HM.pure (p0 == 3, ())) (
  HM.bind (α := Bool × Unit) (HM.ite (p0 == 8) (
  HM.pure (p0 == 8, ())) (
  HM.bind (α := Bool × Unit) (HM.ite (p0 == 18) (
  HM.pure (p0 == 18, ())) (
  HM.bind (α := Bool × Unit) (HM.ite (p0 == 21) (
  HM.pure (p0 == 21, ())) (
  HM.bind (α := Bool × Unit) (HM.ite (p0 == 26) (
  HM.pure (p0 == 26, ())) (
  HM.bind (α := Bool × Unit) (HM.ite (p0 == 28) (
  HM.pure (p0 == 28, ())) (
  HM.pure (p0 == 31, ()))) fun x20 =>
  HM.pure (x20.1, ()))) fun x19 =>
  HM.pure (x19.1, ()))) fun x18 =>
  HM.pure (x18.1, ()))) fun x17 =>
  HM.pure (x17.1, ()))) fun x16 =>
  HM.pure (x16.1, ()))) fun x15 =>
  HM.ite x15.1 (
  HM.pure (6, ())) (
  HM.ite (p0 == 38) (
  HM.pure (7, ())) (
  HM.pure (0, ()))))))))
theorem prop_KindOf_den (p0 : Int) : denFn Tryz.prog [] 38 [0, 2, 3, 4, 13, 18, 23, 25, 28, 36] [0, 3, 4, 13, 18, 23, 25, 28, 36] Tryz.f199.results.toList [.one (.int .i64)] (bodyOf Tryz.f199) [Kind.val (.one (.int .i64)) p0] = prop_KindOf p0 := by kernel_rfl
theorem prop_KindOf_calls (p0 : Int) (h : Heap) (Q : Value → Heap → Prop) (hh : prop_KindOf p0 h fun x h' => Q (.int .i64 x.1) h') :
    HCalls Tryz.prog 199 #[.int .i64 p0] h Q :=
  calls_of_eq Tryz.func199 (by kernel_rfl) Tryz.ntmps199 (by kernel_rfl) CN orders (prop_KindOf_den p0) hh
def prop_has (p0 : Slc) (p1 : Int) : HM (Bool × Unit) :=
  HM.bind (α := (Int × Int × ByteArray × ByteArray × Unit) × Bool × Unit) (HM.callN Tryz.prog [.agg [.int .i64, .int .i64, .str, .str], .one .bool] 218 #[.slice p0.a p0.len p0.cap, .int .i64 p1]) fun x1 =>
  HM.bind (α := Nat) (HM.new (.cells #[.int .i64 0, .int .i64 0, .string (ByteArray.mk #[]), .string (ByteArray.mk #[])] 44)) fun x2 =>
  HM.bind (α := Unit) (HM.storeN ⟨x2, 0, none⟩ [.int .i64 x1.1.1, .int .i64 x1.1.2.1, .string x1.1.2.2.1, .string x1.1.2.2.2.1]) fun _ =>
  HM.bind (α := Bool × Unit) (HM.ite x1.2.1 (
  HM.pure (!(p1 == 38), ())) (
  HM.pure (false, ()))) fun x3 =>
  HM.pure (x3.1, ())
theorem prop_has_den (p0 : Slc) (p1 : Int) : denFn Tryz.prog [218] 18 [0, 1, 4, 6] [0, 1, 6] Tryz.f200.results.toList [.one .bool] (bodyOf Tryz.f200) [Kind.val (.one .slc) p0, Kind.val (.one (.int .i64)) p1] = prop_has p0 p1 := by kernel_rfl
theorem prop_has_calls (p0 : Slc) (p1 : Int) (h : Heap) (Q : Value → Heap → Prop) (hh : prop_has p0 p1 h fun x h' => Q (.bool x.1) h') :
    HCalls Tryz.prog 200 #[.slice p0.a p0.len p0.cap, .int .i64 p1] h Q :=
  calls_of_eq Tryz.func200 (by kernel_rfl) Tryz.ntmps200 (by kernel_rfl) (CC Tryz.call218 CN) orders (prop_has_den p0 p1) hh
def prop_Property_value (p0 : Int × Int × ByteArray × ByteArray × Unit) : HM (ByteArray × Int × Unit) :=
  HM.bind (α := Nat) (HM.new (.cells #[.int .i64 p0.1, .int .i64 p0.2.1, .string p0.2.2.1, .string p0.2.2.2.1] 44)) fun x1 =>
  HM.bind (α := Int) (HM.load1 (.int .i64) (Addr.add ⟨x1, 0, none⟩ 0)) fun x2 =>
  HM.bind (α := Int) (HM.call1 Tryz.prog (.one (.int .i64)) 199 #[.int .i64 x2]) fun x3 =>
  HM.ite (x3 == 4) (
  HM.bind (α := Int) (HM.load1 (.int .i64) (Addr.add ⟨x1, 0, none⟩ 1)) fun x4 =>
  HM.bind (α := ByteArray × Int × Unit) (HM.callN Tryz.prog [.one .str, .one (.int .u8)] 89 #[.int .i64 x4]) fun x5 =>
  HM.pure (x5.1, x5.2.1, ())) (
  HM.ite (x3 == 5) (
  HM.bind (α := ByteArray) (HM.load1 .str (Addr.add ⟨x1, 0, none⟩ 2)) fun x6 =>
  HM.bind (α := ByteArray × Int × Unit) (HM.callN Tryz.prog [.one .str, .one (.int .u8)] 198 #[.string x6]) fun x7 =>
  HM.pure (x7.1, x7.2.1, ())) (
  HM.ite (x3 == 6) (
  HM.bind (α := ByteArray) (HM.load1 .str (Addr.add ⟨x1, 0, none⟩ 2)) fun x8 =>
  HM.bind (α := ByteArray × Int × Unit) (HM.callN Tryz.prog [.one .str, .one (.int .u8)] 197 #[.string x8]) fun x9 =>
  HM.pure (x9.1, x9.2.1, ())) (
  HM.ite (x3 == 7) (
  HM.bind (α := ByteArray) (HM.load1 .str (Addr.add ⟨x1, 0, none⟩ 2)) fun x10 =>
  HM.bind (α := ByteArray × Int × Unit) (HM.callN Tryz.prog [.one .str, .one (.int .u8)] 197 #[.string x10]) fun x11 =>
  HM.ite (!(x11.2.1 == 0)) (
  HM.pure (ByteArray.mk #[], x11.2.1, ())) (
  HM.bind (α := ByteArray) (HM.load1 .str (Addr.add ⟨x1, 0, none⟩ 3)) fun x12 =>
  HM.bind (α := ByteArray × Int × Unit) (HM.callN Tryz.prog [.one .str, .one (.int .u8)] 197 #[.string x12]) fun x13 =>
  HM.req (ByteArray.size x11.1 + ByteArray.size x13.1 ≤ 9223372036854775807) <|
  HM.pure (x11.1 ++ x13.1, x13.2.1, ()))) (
  HM.bind (α := Int) (HM.load1 (.int .i64) (Addr.add ⟨x1, 0, none⟩ 1)) fun x14 =>
  HM.bind (α := Int) (HM.call1 Tryz.prog (.one (.int .i64)) 219 #[.int .i64 x3]) fun x15 =>
  HM.bind (α := Int) (HM.load1 (.int .i64) (Addr.add ⟨x1, 0, none⟩ 1)) fun x16 =>
  HM.req ((.int .i64 x16 : Value) = .int .i64 x14) <|
  HM.bind (α := ByteArray × Int × Unit) (HM.callN Tryz.prog [.one .str, .one (.int .u8)] 88 #[.int .i64 x15, .int .i64 x14]) fun x17 =>
  HM.pure (x17.1, x17.2.1, ())))))
theorem prop_Property_value_den (p0 : Int × Int × ByteArray × ByteArray × Unit) : denFn Tryz.prog [199, 89, 198, 197, 219, 88] 61 [0, 1, 2, 3, 4, 5, 6, 7, 11, 19, 26, 33, 40, 49] [0, 1, 4, 5, 6, 7, 11, 19, 26, 33, 40, 49] Tryz.f201.results.toList [.one .str, .one (.int .u8)] (bodyOf Tryz.f201) [Kind.val (.agg [.int .i64, .int .i64, .str, .str]) p0] = prop_Property_value p0 := by kernel_rfl
theorem prop_Property_value_calls (p0 : Int × Int × ByteArray × ByteArray × Unit) (h : Heap) (Q : Value → Heap → Prop) (hh : prop_Property_value p0 h fun x h' => Q (.tuple #[.string x.1, .int .u8 x.2.1]) h') :
    HCalls Tryz.prog 201 #[.agg #[.int .i64 p0.1, .int .i64 p0.2.1, .string p0.2.2.1, .string p0.2.2.2.1]] h Q :=
  calls_of_eq Tryz.func201 (by kernel_rfl) Tryz.ntmps201 (by kernel_rfl) (CC Tryz.call199 (CC Tryz.call89 (CC Tryz.call198 (CC Tryz.call197 (CC Tryz.call219 (CC Tryz.call88 CN)))))) orders (prop_Property_value_den p0) hh
def slices_IndexFunc_Property (p0 : Slc) (p1 : Value) : HM (Int × Unit) :=
  HM.bind (α := (Int × Unit) ⊕ (Int × Unit)) (HM.loop (σ := Int × Unit) (τ := (Int × Unit) ⊕ (Int × Unit)) (fun x2 =>
  HM.ite (decide (x2.1 < (((p0.len : Nat) : Int) : Int))) (
  HM.bind (α := Addr) (HM.idx p0.a p0.len x2.1 4) fun x3 =>
  HM.bind (α := Int × Int × ByteArray × ByteArray × Unit) (HM.loadN [.int .i64, .int .i64, .str, .str] x3) fun x4 =>
  HM.bind (α := Bool) (HM.callV1 Tryz.prog (.one .bool) p1 #[.agg #[.int .i64 x4.1, .int .i64 x4.2.1, .string x4.2.2.1, .string x4.2.2.2.1]]) fun x5 =>
  HM.ite x5 (
  HM.pure (.inr (.inr (x2.1, ())))) (
  HM.pure (.inl (IntKind.wrap .i64 (x2.1 + 1), ())))) (
  HM.pure (.inr (.inl (x2.1, ()))))) (0, ())) (Sum.elim (fun x1 =>
  HM.pure ((-1), ())) HM.pure)
theorem slices_IndexFunc_Property_den (p0 : Slc) (p1 : Value) : denFn Tryz.prog [] 19 [0, 1, 4, 5, 7, 8, 9, 16] [0, 1, 5, 7, 8, 9, 16] Tryz.f202.results.toList [.one (.int .i64)] (bodyOf Tryz.f202) [Kind.val (.one .slc) p0, Kind.val (.one .any) p1] = slices_IndexFunc_Property p0 p1 := by kernel_rfl
theorem slices_IndexFunc_Property_calls (p0 : Slc) (p1 : Value) (h : Heap) (Q : Value → Heap → Prop) (hh : slices_IndexFunc_Property p0 p1 h fun x h' => Q (.int .i64 x.1) h') :
    HCalls Tryz.prog 202 #[.slice p0.a p0.len p0.cap, p1] h Q :=
  calls_of_eq Tryz.func202 (by kernel_rfl) Tryz.ntmps202 (by kernel_rfl) CN orders (slices_IndexFunc_Property_den p0 p1) hh
def slices_Contains (p0 : Slc) (p1 : Int) : HM (Bool × Unit) :=
  HM.bind (α := Int) (HM.call1 Tryz.prog (.one (.int .i64)) 220 #[.slice p0.a p0.len p0.cap, .int .i64 p1]) fun x1 =>
  HM.pure (decide (0 ≤ (x1 : Int)), ())
theorem slices_Contains_den (p0 : Slc) (p1 : Int) : denFn Tryz.prog [220] 9 [0, 1, 4] [0, 1] Tryz.f203.results.toList [.one .bool] (bodyOf Tryz.f203) [Kind.val (.one .slc) p0, Kind.val (.one (.int .i64)) p1] = slices_Contains p0 p1 := by kernel_rfl
theorem slices_Contains_calls (p0 : Slc) (p1 : Int) (h : Heap) (Q : Value → Heap → Prop) (hh : slices_Contains p0 p1 h fun x h' => Q (.bool x.1) h') :
    HCalls Tryz.prog 203 #[.slice p0.a p0.len p0.cap, .int .i64 p1] h Q :=
  calls_of_eq Tryz.func203 (by kernel_rfl) Tryz.ntmps203 (by kernel_rfl) (CC Tryz.call220 CN) orders (slices_Contains_den p0 p1) hh
def stringslite_HasPrefix (p0 : ByteArray) (p1 : ByteArray) : HM (Bool × Unit) :=
  HM.bind (α := Bool × Unit) (HM.ite (decide (((ByteArray.size p1 : Nat) : Int) ≤ (((ByteArray.size p0 : Nat) : Int) : Int))) (
  HM.bind (α := ByteArray) (HM.substr p0 none (some ((ByteArray.size p1 : Nat) : Int))) fun x1 =>
  HM.pure (decide (x1 = p1), ())) (
  HM.pure (false, ()))) fun x2 =>
  HM.pure (x2.1, ())
theorem stringslite_HasPrefix_den (p0 : ByteArray) (p1 : ByteArray) : denFn Tryz.prog [] 18 [0, 1, 4] [0, 1] Tryz.f209.results.toList [.one .bool] (bodyOf Tryz.f209) [Kind.val (.one .str) p0, Kind.val (.one .str) p1] = stringslite_HasPrefix p0 p1 := by kernel_rfl
theorem stringslite_HasPrefix_calls (p0 : ByteArray) (p1 : ByteArray) (h : Heap) (Q : Value → Heap → Prop) (hh : stringslite_HasPrefix p0 p1 h fun x h' => Q (.bool x.1) h') :
    HCalls Tryz.prog 209 #[.string p0, .string p1] h Q :=
  calls_of_eq Tryz.func209 (by kernel_rfl) Tryz.ntmps209 (by kernel_rfl) CN orders (stringslite_HasPrefix_den p0 p1) hh
def prop_Find (p0 : Slc) (p1 : Int) : HM ((Int × Int × ByteArray × ByteArray × Unit) × Bool × Unit) :=
  HM.bind (α := Nat) (HM.new (.cells #[.int .i64 p1] 3)) fun x1 =>
  HM.bind (α := Nat) (HM.new (.cells #[.int .i64 0, .int .i64 0, .string (ByteArray.mk #[]), .string (ByteArray.mk #[])] 44)) fun x2 =>
  HM.bind (α := Int) (HM.call1 Tryz.prog (.one (.int .i64)) 202 #[.slice p0.a p0.len p0.cap, .func (.func 226) #[] #[.pointer (some ⟨x1, 0, none⟩)]]) fun x3 =>
  HM.ite (decide (x3 < (0 : Int))) (
  HM.bind (α := Unit) (HM.storeN ⟨x2, 0, none⟩ [.int .i64 0, .int .i64 0, .string (ByteArray.mk #[]), .string (ByteArray.mk #[])]) fun _ =>
  HM.bind (α := Int × Int × ByteArray × ByteArray × Unit) (HM.loadN [.int .i64, .int .i64, .str, .str] ⟨x2, 0, none⟩) fun x4 =>
  HM.pure ((x4.1, x4.2.1, x4.2.2.1, x4.2.2.2.1, ()), false, ())) (
  HM.bind (α := Addr) (HM.idx p0.a p0.len x3 4) fun x5 =>
  HM.bind (α := Int × Int × ByteArray × ByteArray × Unit) (HM.loadN [.int .i64, .int .i64, .str, .str] x5) fun x6 =>
  HM.bind (α := Unit) (HM.storeN ⟨x2, 0, none⟩ [.int .i64 x6.1, .int .i64 x6.2.1, .string x6.2.2.1, .string x6.2.2.2.1]) fun _ =>
  HM.bind (α := Int × Int × ByteArray × ByteArray × Unit) (HM.loadN [.int .i64, .int .i64, .str, .str] ⟨x2, 0, none⟩) fun x7 =>
  HM.pure ((x7.1, x7.2.1, x7.2.2.1, x7.2.2.2.1, ()), true, ()))
theorem prop_Find_den (p0 : Slc) (p1 : Int) : denFn Tryz.prog [202] 17 [0, 1, 3, 4, 5, 6, 11] [0, 1, 3, 4, 6, 11] Tryz.f218.results.toList [.agg [.int .i64, .int .i64, .str, .str], .one .bool] (bodyOf Tryz.f218) [Kind.val (.one .slc) p0, Kind.val (.one (.int .i64)) p1] = prop_Find p0 p1 := by kernel_rfl
theorem prop_Find_calls (p0 : Slc) (p1 : Int) (h : Heap) (Q : Value → Heap → Prop) (hh : prop_Find p0 p1 h fun x h' => Q (.tuple #[.agg #[.int .i64 x.1.1, .int .i64 x.1.2.1, .string x.1.2.2.1, .string x.1.2.2.2.1], .bool x.2.1]) h') :
    HCalls Tryz.prog 218 #[.slice p0.a p0.len p0.cap, .int .i64 p1] h Q :=
  calls_of_eq Tryz.func218 (by kernel_rfl) Tryz.ntmps218 (by kernel_rfl) (CC Tryz.call202 CN) orders (prop_Find_den p0 p1) hh
def slices_Index (p0 : Slc) (p1 : Int) : HM (Int × Unit) :=
  HM.bind (α := (Int × Unit) ⊕ (Int × Unit)) (HM.loop (σ := Int × Unit) (τ := (Int × Unit) ⊕ (Int × Unit)) (fun x2 =>
  HM.ite (decide (x2.1 < (((p0.len : Nat) : Int) : Int))) (
  HM.bind (α := Addr) (HM.idx p0.a p0.len x2.1 1) fun x3 =>
  HM.bind (α := Int) (HM.load1 (.int .i64) x3) fun x4 =>
  HM.ite (p1 == x4) (
  HM.pure (.inr (.inr (x2.1, ())))) (
  HM.pure (.inl (IntKind.wrap .i64 (x2.1 + 1), ())))) (
  HM.pure (.inr (.inl (x2.1, ()))))) (0, ())) (Sum.elim (fun x1 =>
  HM.pure ((-1), ())) HM.pure)
theorem slices_Index_den (p0 : Slc) (p1 : Int) : denFn Tryz.prog [] 19 [0, 1, 4, 5, 7, 8, 9, 16] [0, 1, 5, 7, 8, 9, 16] Tryz.f220.results.toList [.one (.int .i64)] (bodyOf Tryz.f220) [Kind.val (.one .slc) p0, Kind.val (.one (.int .i64)) p1] = slices_Index p0 p1 := by kernel_rfl
theorem slices_Index_calls (p0 : Slc) (p1 : Int) (h : Heap) (Q : Value → Heap → Prop) (hh : slices_Index p0 p1 h fun x h' => Q (.int .i64 x.1) h') :
    HCalls Tryz.prog 220 #[.slice p0.a p0.len p0.cap, .int .i64 p1] h Q :=
  calls_of_eq Tryz.func220 (by kernel_rfl) Tryz.ntmps220 (by kernel_rfl) CN orders (slices_Index_den p0 p1) hh
end Go.Proofs.YtfhalebbcbgbdaaGreatDoor
namespace Go.Proofs.YtfhalebbcbgbdaaGreatDoor
open Go.H Go.Proofs
set_option linter.unusedVariables false
set_option linter.unusedSimpArgs false
set_option maxRecDepth 100000
set_option maxHeartbeats 4000000
def strings_Builder_WriteString (p0 : Option Addr) (p1 : ByteArray) : HM (Int × Value × Unit) :=
  HM.bind (α := Unit) (HM.callN Tryz.prog [] 143 #[.pointer p0]) fun x1 =>
  HM.bind (α := Addr) (HM.nonnil p0) fun x2 =>
  HM.bind (α := Slc) (HM.load1 .slc (Addr.add x2 1)) fun x3 =>
  HM.bind (α := Slc) (HM.append 5 1 1 #[.int .u8 0] x3 (ByteArray.size p1) (srcStr p1)) fun x4 =>
  HM.bind (α := Addr) (HM.nonnil p0) fun x5 =>
  HM.bind (α := Unit) (HM.store1 (Addr.add x5 1) (.slice x4.a x4.len x4.cap)) fun _ =>
  HM.pure (((ByteArray.size p1 : Nat) : Int), .nilIface, ())
theorem strings_Builder_WriteString_den (p0 : Option Addr) (p1 : ByteArray) : denFn Tryz.prog [143] 19 [0, 1, 4, 5] [0, 1] Tryz.f100.results.toList [.one (.int .i64), .one .any] (bodyOf Tryz.f100) [Kind.val (.one .ptr) p0, Kind.val (.one .str) p1] = strings_Builder_WriteString p0 p1 := by kernel_rfl
theorem strings_Builder_WriteString_calls (p0 : Option Addr) (p1 : ByteArray) (h : Heap) (Q : Value → Heap → Prop) (hh : strings_Builder_WriteString p0 p1 h fun x h' => Q (.tuple #[.int .i64 x.1, x.2.1]) h') :
    HCalls Tryz.prog 100 #[.pointer p0, .string p1] h Q :=
  calls_of_eq Tryz.func100 (by kernel_rfl) Tryz.ntmps100 (by kernel_rfl) (CC Tryz.call143 CN) orders (strings_Builder_WriteString_den p0 p1) hh
def strings_Builder_Len (p0 : Option Addr) : HM (Int × Unit) :=
  HM.bind (α := Addr) (HM.nonnil p0) fun x1 =>
  HM.bind (α := Slc) (HM.load1 .slc (Addr.add x1 1)) fun x2 =>
  HM.pure (((x2.len : Nat) : Int), ())
theorem strings_Builder_Len_den (p0 : Option Addr) : denFn Tryz.prog [] 8 [0, 2] [0] Tryz.f87.results.toList [.one (.int .i64)] (bodyOf Tryz.f87) [Kind.val (.one .ptr) p0] = strings_Builder_Len p0 := by kernel_rfl
theorem strings_Builder_Len_calls (p0 : Option Addr) (h : Heap) (Q : Value → Heap → Prop) (hh : strings_Builder_Len p0 h fun x h' => Q (.int .i64 x.1) h') :
    HCalls Tryz.prog 87 #[.pointer p0] h Q :=
  calls_of_eq Tryz.func87 (by kernel_rfl) Tryz.ntmps87 (by kernel_rfl) CN orders (strings_Builder_Len_den p0) hh
end Go.Proofs.YtfhalebbcbgbdaaGreatDoor
namespace Go.Proofs.YtfhalebbcbgbdaaGreatDoor
set_option linter.unusedSimpArgs false
open Go.H Go.Proofs
set_option linter.unusedVariables false
set_option synthInstance.maxSize 100000
set_option synthInstance.maxHeartbeats 400000
structure PoolS where
  most : Int
  taken : Int
  used : List Int
structure PoolS.ok (s : PoolS) : Prop where
  most1 : 1 ≤ s.most
  most64 : s.most ≤ 64
  taken0 : 0 ≤ s.taken
  taken1 : s.taken ≤ 65535
  len : (s.used.length : Int) ≤ s.most
  nodup : s.used.Nodup
  range : ∀ k ∈ s.used, 1 ≤ k ∧ k ≤ 65535
def nxt (t : Int) : Int := t % 65535 + 1
inductive Reach (used : List Int) : Nat → Int → Int → Prop
  | here {t : Int} : nxt t ∉ used → Reach used 0 t (nxt t)
  | on {n : Nat} {t u : Int} : nxt t ∈ used → Reach used n (nxt t) u → Reach used (n + 1) t u
def asMap (l : List Int) : List (Int × Bool) := l.map fun k => (k, true)
theorem mget_asMap (l : List Int) (k : Int) : mget (asMap l) k = if k ∈ l then some true else none := by
  induction l with
  | nil => rfl
  | cons a l ih =>
    simp only [asMap, List.map_cons] at ih ⊢
    rw [mget_cons, ih]
    by_cases h : a = k
    · simp [h]
    · simp [h, Ne.symm h]
theorem mset_asMap (l : List Int) (k : Int) (h : k ∉ l) : mset (asMap l) k true = asMap (l ++ [k]) := by
  rw [mset_none _ _ _ (by rw [mget_asMap, if_neg h])]
  simp [asMap]
def poolA (b : Nat) (s : PoolS) : Asn := exA fun m => star (pr s.ok) (star (cells b #[.int .i64 s.most, .int .i64 s.taken, .map (some m)]) (mapA (fun n : Int => .int .i64 n) (Kind.val (.one .bool)) m (asMap s.used)))
theorem poolA_iff {h : Heap} {b : Nat} {s : PoolS} {R : List Asn} : sat h (poolA b s :: R) ↔
    ∃ m, s.ok ∧ sat h (cells b #[.int .i64 s.most, .int .i64 s.taken, .map (some m)] :: mapA (fun n : Int => .int .i64 n) (Kind.val (.one .bool)) m (asMap s.used) :: R) := by
  unfold poolA
  rw [sat.ex_iff]
  constructor
  · rintro ⟨m, hs⟩
    rw [sat.star_iff, sat.pr_iff, sat.star_iff] at hs
    exact ⟨m, hs⟩
  · rintro ⟨m, h1, hs⟩
    exact ⟨m, by rw [sat.star_iff, sat.pr_iff, sat.star_iff]; exact ⟨h1, hs⟩⟩
abbrev kI := key_int .i64
abbrev at0 (b : Nat) : Value := .pointer (some ⟨b, 0, none⟩)
theorem New_spec {h : Heap} {R : List Asn} (hs : sat h R) (most : Int) {Q : Value → Heap → Prop}
    (hq : ∀ b h', sat h' (poolA b ⟨max 1 (min most 64), 0, []⟩ :: R) → Q (at0 b) h') : HCalls Tryz.prog 67 #[.int .i64 most] h Q := by
  refine ids_New_calls most h Q ?_
  unfold ids_New
  simp only [HM.bind_apply]
  refine new_map (ek := fun n : Int => Value.int .i64 n) (ev := Kind.val (.one .bool)) hs fun m h1 hs1 => ?_
  refine new_cells hs1 fun b h2 hs2 => ?_
  simp only [HM.pure_apply]
  refine hq b h2 (poolA_iff.2 ⟨m, ⟨?_, ?_, ?_, ?_, ?_, ?_, ?_⟩, ?_⟩)
  all_goals try (simp; done)
  all_goals try (simp; omega)
  have e : (if 1 < (if 64 < most then (64 : Int) else most) then (if 64 < most then 64 else most) else 1) = max 1 (min most 64) := by
    split <;> split <;> omega
  rw [e] at hs2
  exact hs2
theorem Left_spec {h : Heap} {R : List Asn} {b : Nat} {s : PoolS} (hs : sat h (poolA b s :: R)) {Q : Value → Heap → Prop}
    (hq : Q (.int .i64 (s.most - s.used.length)) h) : HCalls Tryz.prog 160 #[at0 b] h Q := by
  refine ids_Pool_Left_calls _ h Q ?_
  obtain ⟨m, hok, hs⟩ := poolA_iff.1 hs
  have c0 : cellH h ⟨b, 0, none⟩ = some (.int .i64 s.most) := hs.cell 0
  have c2 : cellH h ⟨b, 2, none⟩ = some (.map (some m)) := hs.cell 2
  unfold ids_Pool_Left
  simp [c0, c2]
  refine len_map hs.p1 ?_
  have := hok.len; have := hok.most64
  rw [wrap_id (by simp [asMap]; omega) (by simp [asMap]; omega)]
  simpa [asMap] using hq
theorem ok_add {s : PoolS} (h : s.ok) {k : Int} (h1 : 1 ≤ k) (h2 : k ≤ 65535) (hn : k ∉ s.used) (hl : (s.used.length : Int) < s.most) {t : Int} (t0 : 0 ≤ t) (t1 : t ≤ 65535) : PoolS.ok ⟨s.most, t, s.used ++ [k]⟩ := by
  refine ⟨h.most1, h.most64, t0, t1, by simp; omega, ?_, ?_⟩
  · rw [List.nodup_append]
    refine ⟨h.nodup, by simp, ?_⟩
    rintro a ha b hb rfl
    simp at hb
    subst hb
    exact hn ha
  · intro a ha
    simp at ha
    rcases ha with ha | rfl
    · exact h.range a ha
    · exact ⟨h1, h2⟩
theorem nxt_range {t : Int} (h0 : 0 ≤ t) : 1 ≤ nxt t ∧ nxt t ≤ 65535 := by unfold nxt; omega
theorem Reach.range {used : List Int} {n : Nat} {t u : Int} (h : Reach used n t u) (h0 : 0 ≤ t) : 1 ≤ u ∧ u ≤ 65535 ∧ u ∉ used := by
  induction h with
  | here hn => exact ⟨(nxt_range h0).1, (nxt_range h0).2, hn⟩
  | on _ _ ih => exact ih (by have := (nxt_range h0).1; omega)
theorem len_sub {α : Type} [DecidableEq α] : ∀ (l1 l2 : List α), l1.Nodup → (∀ x ∈ l1, x ∈ l2) → l1.length ≤ l2.length
  | [], _, _, _ => by simp
  | x :: xs, l2, hnd, hs => by
    have h1 := List.nodup_cons.1 hnd
    have h2 := len_sub xs (l2.erase x) h1.2 (fun y hy => (List.mem_erase_of_ne (fun e => h1.1 (by rw [← e]; exact hy))).2 (hs y (List.mem_cons_of_mem _ hy)))
    have h3 := List.length_erase_of_mem (hs x (List.mem_cons_self ..))
    have h4 := List.length_pos_of_mem (hs x (List.mem_cons_self ..))
    simp only [List.length_cons]
    omega
theorem reach_ex (used : List Int) (t : Int) (h0 : 0 ≤ t) (h1 : used.Nodup) (h2 : used.length < 65535) : ∃ n u, Reach used n t u := by
  have key : ∀ (j : Nat), j ≤ 65535 → ∀ t, 0 ≤ t → t ≤ 65535 → (∃ n u, Reach used n t u) ∨ ∀ i, i < j → ((t + i) % 65535 + 1) ∈ used := by
    intro j
    induction j with
    | zero => intro _ t _ _; exact .inr (fun i hi => by omega)
    | succ j ih =>
      intro hj t ht0 ht1
      by_cases hm : nxt t ∈ used
      · have hr := nxt_range ht0
        rcases ih (by omega) (nxt t) (by omega) (by omega) with ⟨n, u, hu⟩ | hall
        · exact .inl ⟨n + 1, u, .on hm hu⟩
        · refine .inr fun i hi => ?_
          cases i with
          | zero => simpa [nxt] using hm
          | succ i =>
            have := hall i (by omega)
            have e : ((nxt t + (i : Int)) % 65535 + 1) = ((t + ((i + 1 : Nat) : Int)) % 65535 + 1) := by unfold nxt; omega
            rw [e] at this
            exact this
      · exact .inl ⟨0, nxt t, .here hm⟩
  have hpre : ∃ t', 0 ≤ t' ∧ t' ≤ 65535 ∧ nxt t' = nxt t ∧ True := ⟨t % 65535, by omega, by omega, by unfold nxt; omega, trivial⟩
  obtain ⟨t', a0, a1, a2, -⟩ := hpre
  have move : ∀ n u, Reach used n t' u → Reach used n t u := by
    intro n u hr
    cases hr with
    | here hn => rw [a2] at hn ⊢; exact .here hn
    | on hm hr => rw [a2] at hm hr; exact .on hm hr
  rcases key 65535 (Nat.le_refl _) t' a0 a1 with ⟨n, u, hu⟩ | hall
  · exact ⟨n, u, move n u hu⟩
  · exfalso
    have hsub : ∀ x ∈ ((List.range 65535).map fun (i : Nat) => ((t' + (i : Int)) % 65535 + 1)), x ∈ used := by
      intro x hx
      obtain ⟨i, hi, rfl⟩ := List.mem_map.1 hx
      exact hall i (List.mem_range.1 hi)
    have hnd : ((List.range 65535).map fun (i : Nat) => ((t' + (i : Int)) % 65535 + 1)).Nodup := by
      refine List.pairwise_map.2 (List.Pairwise.imp_of_mem ?_ List.pairwise_lt_range)
      intro a b ha hb hab
      have := List.mem_range.1 ha
      have := List.mem_range.1 hb
      omega
    have := len_sub _ _ hnd hsub
    simp at this
    omega
theorem Reach.det {used : List Int} {n n' : Nat} {t u u' : Int} (h : Reach used n t u) (h' : Reach used n' t u') : u = u' := by
  induction h generalizing n' with
  | here hn =>
    cases h' with
    | here _ => rfl
    | on hm _ => exact absurd hm hn
  | on hm _ ih =>
    cases h' with
    | here hn => exact absurd hm hn
    | on _ h2 => exact ih h2
theorem wrap_nxt {t : Int} (h0 : 0 ≤ t) : IntKind.wrap .i64 (Int.tmod t 65535 + 1) = nxt t := by
  have e : Int.tmod t 65535 = t % 65535 := Int.tmod_eq_emod_of_nonneg h0
  rw [e, wrap_id (by omega) (by omega)]
  rfl
theorem Take_spec {h : Heap} {R : List Asn} {b : Nat} {s : PoolS} (hs : sat h (poolA b s :: R)) {Q : Value → Heap → Prop}
    (hfull : (s.used.length : Int) = s.most → Q (.tuple #[.int .i64 0, .int .u8 147]) h)
    (hok : (s.used.length : Int) ≠ s.most → ∀ n u, Reach s.used n s.taken u → ∀ h', sat h' (poolA b ⟨s.most, u, s.used ++ [u]⟩ :: R) → Q (.tuple #[.int .i64 u, .int .u8 0]) h') :
    HCalls Tryz.prog 117 #[at0 b] h Q := by
  refine ids_Pool_Take_calls _ h Q ?_
  obtain ⟨m, hi, hs'⟩ := poolA_iff.1 hs
  unfold ids_Pool_Take
  simp
  refine Left_spec hs ?_
  simp
  have hl := hi.len
  have hm64 := hi.most64
  by_cases h4 : (s.used.length : Int) = s.most
  · simp [h4]
    exact hfull h4
  have h5 : ¬ (s.most - (s.used.length : Int) = 0) := by omega
  simp [h5]
  obtain ⟨n, u, hu⟩ := reach_ex s.used s.taken hi.taken0 hi.nodup (by omega)
  have hur := hu.range hi.taken0
  refine loop_gh (γ := Nat × Int) (fun g _ h => Reach s.used g.1 g.2 u ∧ 0 ≤ g.2 ∧ g.2 ≤ 65535 ∧ sat h (cells b #[.int .i64 s.most, .int .i64 g.2, .map (some m)] :: mapA (fun n : Int => .int .i64 n) (Kind.val (.one .bool)) m (asMap s.used) :: R))
    (fun g => g.1) (n, s.taken) ⟨hu, hi.taken0, hi.taken1, hs'⟩ ?_
  · rintro ⟨n, t⟩ - h1 ⟨hr, t0, t1, hs1⟩
    have c1 : cellH h1 ⟨b, 1, none⟩ = some (.int .i64 t) := hs1.cell 1
    simp [c1]
    rw [wrap_nxt t0]
    refine store1_cells hs1 (by simp) rfl fun h2 hs2 => ?_
    have d1 : cellH h2 ⟨b, 1, none⟩ = some (.int .i64 (nxt t)) := hs2.cell 1
    have d2 : cellH h2 ⟨b, 2, none⟩ = some (.map (some m)) := hs2.cell 2
    have hn := nxt_range t0
    simp [d1, d2]
    refine lookup_map kI (kind := .one .bool) (z := false) rfl hs2.p1 ?_
    rw [mget_asMap]
    cases hr with
    | here hn' =>
      simp [hn']
      simp [d2, d1]
      refine set_map kI (inj_int .i64) (ev := Kind.val (.one .bool)) (x := true) hs2.p1 fun h3 hs3 => ?_
      rw [mset_asMap _ _ hn'] at hs3
      have e1 : cellH h3 ⟨b, 1, none⟩ = some (.int .i64 (nxt t)) := hs3.p1.cell 1
      simp [e1]
      refine hok h4 n _ hu h3 (poolA_iff.2 ⟨m, ok_add hi (by omega) (by omega) hn' (by omega) (by omega) (by omega), hs3.p1⟩)
    | on hm' hr' =>
      simp [hm']
      exact ⟨_, Nat.lt_succ_self _, _, hr', Int.le_trans (by omega) hn.1, hn.2, hs2⟩
end Go.Proofs.YtfhalebbcbgbdaaGreatDoor
namespace Go.Proofs.YtfhalebbcbgbdaaGreatDoor
open Go.H Go.Proofs
set_option linter.unusedSimpArgs false
set_option linter.unusedVariables false
set_option synthInstance.maxSize 100000
set_option synthInstance.maxHeartbeats 400000
abbrev MsT := ByteArray × ByteArray × Int × Bool × ByteArray
abbrev encM (x : MsT) : List Value := [.string x.1, .string x.2.1, .int .i64 x.2.2.1, .bool x.2.2.2.1, .string x.2.2.2.2]
abbrev FlT := Int × MsT × Bool
abbrev encF (x : FlT) : List Value := [.int .i64 x.1, .string x.2.1.1, .string x.2.1.2.1, .int .i64 x.2.1.2.2.1, .bool x.2.1.2.2.2.1, .string x.2.1.2.2.2.2, .bool x.2.2]
structure OutS where
  pool : PoolS
  most : Int
  on : Bool
  flights : List FlT
  waiting : List MsT
def outA (b : Nat) (o : OutS) : Asn := exA fun x : Nat × Slc × Slc =>
  star (cells b #[at0 x.1, .int .i64 o.most, .bool o.on, .slice x.2.1.a x.2.1.len x.2.1.cap, .slice x.2.2.a x.2.2.len x.2.2.cap])
    (star (poolA x.1 o.pool) (star (ownS encF 7 x.2.1 o.flights) (ownS encM 5 x.2.2 o.waiting)))
theorem outA_iff {h : Heap} {b : Nat} {o : OutS} {R : List Asn} : sat h (outA b o :: R) ↔ ∃ (pb : Nat) (fl wt : Slc),
    sat h (cells b #[at0 pb, .int .i64 o.most, .bool o.on, .slice fl.a fl.len fl.cap, .slice wt.a wt.len wt.cap] :: poolA pb o.pool :: ownS encF 7 fl o.flights :: ownS encM 5 wt o.waiting :: R) := by
  unfold outA
  rw [sat.ex_iff]
  constructor
  · rintro ⟨⟨pb, fl, wt⟩, hs⟩
    rw [sat.star_iff] at hs
    exact ⟨pb, fl, wt, (sat.star_iff.1 (sat.star_iff.1 hs.p1).p1).re [3, 2, 0, 1]⟩
  · rintro ⟨pb, fl, wt, hs⟩
    refine ⟨(pb, fl, wt), ?_⟩
    rw [sat.star_iff]
    exact (sat.star_iff.2 ((sat.star_iff.2 (hs.re [2, 3, 0, 1])).re [2, 0, 1])).p1
theorem outNew_spec {h : Heap} {R : List Asn} (hs : sat h R) (most : Int) {Q : Value → Heap → Prop}
    (hq : ∀ b h', sat h' (outA b ⟨⟨64, 0, []⟩, max 1 (min most 64), false, [], []⟩ :: R) → Q (at0 b) h') : HCalls Tryz.prog 38 #[.int .i64 most] h Q := by
  refine outflow_New_calls most h Q ?_
  unfold outflow_New
  refine bind_call1 (New_spec hs 64 fun pb h1 hs1 => ⟨some ⟨pb, 0, none⟩, rfl, ?_⟩)
  have e : (if 1 < (if 64 < most then (64 : Int) else most) then (if 64 < most then 64 else most) else 1) = max 1 (min most 64) := by
    split <;> split <;> omega
  refine bind_call1 (outflow_bounded_calls most h1 _ ⟨_, rfl, ?_⟩)
  rw [e]
  refine new_cells hs1 fun b h2 hs2 => ?_
  refine hq b h2 (outA_iff.2 ⟨pb, ⟨none, 0, 0⟩, ⟨none, 0, 0⟩, ?_⟩)
  exact (ownS_nil (ownS_nil hs2)).p3.p3
end Go.Proofs.YtfhalebbcbgbdaaGreatDoor
namespace Go.Proofs.YtfhalebbcbgbdaaGreatDoor
open Go.H Go.Proofs
abbrev Pk : Type := Int × Bool × Bool × Int × Int × ByteArray × ByteArray × Int × Slc × Slc × ByteArray × Bool × Int × Bool × ByteArray × ByteArray × Int × Bool × Slc × Bool × Bool × ByteArray × ByteArray × Bool × Slc × Slc × Unit
abbrev Pk_z : Pk := (0, false, false, 0, 0, ByteArray.mk #[], ByteArray.mk #[], 0, ⟨none, 0, 0⟩, ⟨none, 0, 0⟩, ByteArray.mk #[], false, 0, false, ByteArray.mk #[], ByteArray.mk #[], 0, false, ⟨none, 0, 0⟩, false, false, ByteArray.mk #[], ByteArray.mk #[], false, ⟨none, 0, 0⟩, ⟨none, 0, 0⟩, ())
end Go.Proofs.YtfhalebbcbgbdaaGreatDoor
namespace Go.Proofs.YtfhalebbcbgbdaaGreatDoor
open Go.H Go.Proofs
set_option linter.unusedSimpArgs false
set_option linter.unusedVariables false
abbrev PropT := Int × Int × ByteArray × ByteArray
abbrev e0S : ByteArray := ByteArray.mk #[]
abbrev tagS : ByteArray := ByteArray.mk #[116, 97, 103]
structure PkO where
  kind : Int
  dup : Bool
  retain : Bool
  qos : Int
  id : Int
  topic : ByteArray
  payload : ByteArray
  code : Int
  props : List PropT
  codes : List Int
  session : Bool
def tagP (t : ByteArray) : List PropT := if t = e0S then [] else [(38, 0, tagS, t)]
def pubO (m : MsT) (id : Int) (dup : Bool) : PkO := ⟨3, dup, m.2.2.2.1, m.2.2.1, id, m.1, m.2.1, 0, tagP m.2.2.2.2, [], false⟩
def ackO (k id c : Int) : PkO := ⟨k, false, false, 0, id, e0S, e0S, c, [], [], false⟩
open Classical in
noncomputable def nextI (used : List Int) (t : Int) : Int := if h : ∃ (u : Int) (n : Nat), Reach used n t u then Classical.choose h else 0
theorem nextI_eq {used : List Int} {n : Nat} {t u : Int} (h : Reach used n t u) : nextI used t = u := by
  unfold nextI
  have hex : ∃ (u : Int) (n : Nat), Reach used n t u := ⟨u, n, h⟩
  rw [dif_pos hex]
  obtain ⟨n', h'⟩ := Classical.choose_spec hex
  exact h'.det h
noncomputable def goF (o : OutS) : List MsT → OutS × List PkO
  | [] => ({ o with waiting := [] }, [])
  | m :: w =>
    if 0 < m.2.2.1 ∧ o.most ≤ (o.flights.length : Int) then ({ o with waiting := m :: w }, [])
    else if 0 < m.2.2.1 then
      let id := nextI o.pool.used o.pool.taken
      let r := goF { o with pool := ⟨o.pool.most, id, o.pool.used ++ [id]⟩, flights := o.flights ++ [(id, m, false)] } w
      (r.1, pubO m id false :: r.2)
    else
      let r := goF o w
      (r.1, pubO m 0 false :: r.2)
noncomputable def goOnF (o : OutS) : OutS × List PkO := if o.on = true then goF o o.waiting else (o, [])
noncomputable def sendF (o : OutS) (m : MsT) : (OutS × List PkO) × Int :=
  if m.2.2.1 < 0 ∨ 2 < m.2.2.1 then ((o, []), 155)
  else if m.2.2.1 = 0 ∧ o.on = false then ((o, []), 0)
  else if 256 ≤ o.waiting.length then ((o, []), 151)
  else (goOnF { o with waiting := o.waiting ++ [m] }, 0)
def againF (f : FlT) : PkO := if f.2.2 = true then ackO 6 f.1 0 else pubO f.2.1 f.1 true
noncomputable def beginF (o : OutS) (most : Int) : OutS × List PkO :=
  let r := goOnF { o with on := true, most := max 1 (min most 64) }
  (r.1, o.flights.map againF ++ r.2)
structure FlowOK (o : OutS) : Prop where
  pm : o.pool.most = 64
  pk : o.pool.ok
  m1 : 1 ≤ o.most
  m64 : o.most ≤ 64
  ids : o.flights.map (·.1) = o.pool.used
  wl : o.waiting.length ≤ 256
  fq : ∀ f ∈ o.flights, 1 ≤ f.2.1.2.2.1 ∧ f.2.1.2.2.1 ≤ 2 ∧ (f.2.2 = true → f.2.1.2.2.1 = 2)
  wq : ∀ m ∈ o.waiting, 0 ≤ m.2.2.1 ∧ m.2.2.1 ≤ 2
theorem FlowOK.flen {o : OutS} (h : FlowOK o) : o.flights.length = o.pool.used.length := by rw [← h.ids, List.length_map]
theorem FlowOK.f64 {o : OutS} (h : FlowOK o) : o.flights.length ≤ 64 := by
  have := h.pk.len
  rw [h.pm] at this
  rw [h.flen]; omega
theorem FlowOK.new : FlowOK ⟨⟨64, 0, []⟩, 64, false, [], []⟩ where
  pm := rfl
  pk := ⟨by decide, by decide, by decide, by decide, by simp, by simp, by simp⟩
  m1 := by decide
  m64 := by decide
  ids := rfl
  wl := by simp
  fq := by simp
  wq := by simp
theorem FlowOK.next {o : OutS} (h : FlowOK o) (hl : (o.flights.length : Int) < o.most) : ∃ n, Reach o.pool.used n o.pool.taken (nextI o.pool.used o.pool.taken) := by
  have h1 := h.pk.len
  have h2 := h.pm
  obtain ⟨n, u, hu⟩ := reach_ex o.pool.used o.pool.taken h.pk.taken0 h.pk.nodup (by omega)
  exact ⟨n, by rw [nextI_eq hu]; exact hu⟩
theorem FlowOK.take {o : OutS} (h : FlowOK o) {m : MsT} {w : List MsT} (hw : w.length ≤ 256) (hwq : ∀ x ∈ w, 0 ≤ x.2.2.1 ∧ x.2.2.1 ≤ 2) (hm : 0 < m.2.2.1 ∧ m.2.2.1 ≤ 2) (hl : (o.flights.length : Int) < o.most) :
    FlowOK { o with pool := ⟨o.pool.most, nextI o.pool.used o.pool.taken, o.pool.used ++ [nextI o.pool.used o.pool.taken]⟩, flights := o.flights ++ [(nextI o.pool.used o.pool.taken, m, false)], waiting := w } := by
  obtain ⟨n, hr⟩ := h.next hl
  have hrg := hr.range h.pk.taken0
  have h2 := h.pm
  have h3 := h.flen
  have h4 := h.m64
  refine ⟨h.pm, ok_add h.pk hrg.1 hrg.2.1 hrg.2.2 (by omega) (by omega) (by omega), h.m1, h.m64, ?_, hw, ?_, hwq⟩
  · simp only [List.map_append, List.map_cons, List.map_nil, h.ids]
  · intro f hf
    rcases List.mem_append.1 hf with hf | hf
    · exact h.fq f hf
    · have := List.mem_singleton.1 hf
      subst this
      exact ⟨by simp only; omega, by simp only; omega, fun e => by cases e⟩
theorem goF_ok : ∀ (w : List MsT) {o : OutS}, FlowOK o → w.length ≤ 256 → (∀ x ∈ w, 0 ≤ x.2.2.1 ∧ x.2.2.1 ≤ 2) → FlowOK (goF o w).1 ∧ (goF o w).2.length ≤ w.length ∧ (goF o w).1.on = o.on ∧ (goF o w).1.most = o.most
  | [], o, h, _, _ => ⟨⟨h.pm, h.pk, h.m1, h.m64, h.ids, by simp [goF], h.fq, by simp [goF]⟩, by simp [goF], rfl, rfl⟩
  | m :: w, o, h, hl, hq => by
    have hl' : w.length ≤ 256 := by simp only [List.length_cons] at hl; omega
    have hq' : ∀ x ∈ w, 0 ≤ x.2.2.1 ∧ x.2.2.1 ≤ 2 := fun x hx => hq x (List.mem_cons_of_mem _ hx)
    have hm := hq m (List.mem_cons_self ..)
    unfold goF
    by_cases h1 : 0 < m.2.2.1 ∧ o.most ≤ (o.flights.length : Int)
    · rw [if_pos h1]
      exact ⟨⟨h.pm, h.pk, h.m1, h.m64, h.ids, hl, h.fq, hq⟩, by simp, rfl, rfl⟩
    · rw [if_neg h1]
      by_cases h2 : 0 < m.2.2.1
      · rw [if_pos h2]
        have h3 : (o.flights.length : Int) < o.most := by omega
        have h4 := goF_ok w (h.take (m := m) (w := o.waiting) h.wl h.wq ⟨h2, hm.2⟩ h3) hl' hq'
        refine ⟨h4.1, ?_, h4.2.2.1, h4.2.2.2⟩
        have := h4.2.1
        simp only [List.length_cons]
        exact Nat.succ_le_succ this
      · rw [if_neg h2]
        have h4 := goF_ok w h hl' hq'
        refine ⟨h4.1, ?_, h4.2.2.1, h4.2.2.2⟩
        have := h4.2.1
        simp only [List.length_cons]
        omega
theorem goOnF_ok {o : OutS} (h : FlowOK o) : FlowOK (goOnF o).1 ∧ (goOnF o).2.length ≤ 256 := by
  unfold goOnF
  split
  · have := goF_ok o.waiting h h.wl h.wq
    exact ⟨this.1, Nat.le_trans this.2.1 h.wl⟩
  · exact ⟨h, by simp⟩
theorem FlowOK.wait {o : OutS} (h : FlowOK o) {m : MsT} (hm : 0 ≤ m.2.2.1 ∧ m.2.2.1 ≤ 2) (hl : ¬ 256 ≤ o.waiting.length) : FlowOK { o with waiting := o.waiting ++ [m] } :=
  ⟨h.pm, h.pk, h.m1, h.m64, h.ids, by simp; omega, h.fq, fun x hx => by
    rcases List.mem_append.1 hx with hx | hx
    · exact h.wq x hx
    · rw [List.mem_singleton.1 hx]; exact hm⟩
theorem sendF_ok {o : OutS} (h : FlowOK o) (m : MsT) : FlowOK (sendF o m).1.1 ∧ (sendF o m).1.2.length ≤ 256 := by
  unfold sendF
  split
  · exact ⟨h, by simp⟩
  · split
    · exact ⟨h, by simp⟩
    · split
      · exact ⟨h, by simp⟩
      · rename_i h1 h2 h3
        exact goOnF_ok (h.wait ⟨by omega, by omega⟩ h3)
theorem FlowOK.one {o : OutS} (h : FlowOK o) {f g : FlT} (hf : f ∈ o.flights) (hg : g ∈ o.flights) (e : f.1 = g.1) : f = g := by
  have hn := h.pk.nodup
  rw [← h.ids] at hn
  obtain ⟨i, hi⟩ := List.getElem?_of_mem hf
  obtain ⟨j, hj⟩ := List.getElem?_of_mem hg
  obtain ⟨h1, rfl⟩ := List.getElem?_eq_some_iff.1 hi
  obtain ⟨h2, rfl⟩ := List.getElem?_eq_some_iff.1 hj
  have hp := List.pairwise_iff_getElem.1 (List.pairwise_map.1 hn)
  rcases Nat.lt_trichotomy i j with h3 | h3 | h3
  · exact absurd e (hp i j h1 h2 h3)
  · subst h3; rfl
  · exact absurd e.symm (hp j i h2 h1 h3)
theorem FlowOK.off {o : OutS} (h : FlowOK o) (b : Bool) : FlowOK { o with on := b } := ⟨h.pm, h.pk, h.m1, h.m64, h.ids, h.wl, h.fq, h.wq⟩
end Go.Proofs.YtfhalebbcbgbdaaGreatDoor
namespace Go.Proofs.YtfhalebbcbgbdaaGreatDoor
open Go.H Go.Proofs
set_option linter.unusedSimpArgs false
set_option linter.unusedVariables false
set_option maxRecDepth 100000
variable {h : Heap} {R : List Asn}
abbrev encPr (x : PropT) : List Value := [.int .i64 x.1, .int .i64 x.2.1, .string x.2.2.1, .string x.2.2.2]
theorem ePr_len (x : PropT) : (encPr x).length = 4 := rfl
theorem ePr_cell (x : PropT) : ∀ v ∈ encPr x, v.oneCell' = true := by
  intro v hv; simp at hv; rcases hv with rfl | rfl | rfl | rfl <;> rfl
abbrev eKd (k : IntKind) (n : Int) : List Value := [.int k n]
theorem eKd_len (k : IntKind) (n : Int) : (eKd k n).length = 1 := rfl
theorem eKd_cell (k : IntKind) (n : Int) : ∀ v ∈ eKd k n, v.oneCell' = true := by intro v hv; rw [List.mem_singleton.1 hv]; rfl
abbrev pkT (o : PkO) (c p : Slc) : Pk := (o.kind, o.dup, o.retain, o.qos, o.id, o.topic, o.payload, o.code, c, p, ByteArray.mk #[], false, 0, false, ByteArray.mk #[], ByteArray.mk #[], 0, false, ⟨none, 0, 0⟩, false, false, ByteArray.mk #[], ByteArray.mk #[], o.session, ⟨none, 0, 0⟩, ⟨none, 0, 0⟩, ())
abbrev encPkK (k : IntKind) (p : Pk) : List Value := [.int .i64 p.1, .bool p.2.1, .bool p.2.2.1, .int .i64 p.2.2.2.1, .int .i64 p.2.2.2.2.1, .string p.2.2.2.2.2.1, .string p.2.2.2.2.2.2.1, .int k p.2.2.2.2.2.2.2.1, .slice p.2.2.2.2.2.2.2.2.1.a p.2.2.2.2.2.2.2.2.1.len p.2.2.2.2.2.2.2.2.1.cap, .slice p.2.2.2.2.2.2.2.2.2.1.a p.2.2.2.2.2.2.2.2.2.1.len p.2.2.2.2.2.2.2.2.2.1.cap, .string p.2.2.2.2.2.2.2.2.2.2.1, .bool p.2.2.2.2.2.2.2.2.2.2.2.1, .int .i64 p.2.2.2.2.2.2.2.2.2.2.2.2.1, .bool p.2.2.2.2.2.2.2.2.2.2.2.2.2.1, .string p.2.2.2.2.2.2.2.2.2.2.2.2.2.2.1, .string p.2.2.2.2.2.2.2.2.2.2.2.2.2.2.2.1, .int .i64 p.2.2.2.2.2.2.2.2.2.2.2.2.2.2.2.2.1, .bool p.2.2.2.2.2.2.2.2.2.2.2.2.2.2.2.2.2.1, .slice p.2.2.2.2.2.2.2.2.2.2.2.2.2.2.2.2.2.2.1.a p.2.2.2.2.2.2.2.2.2.2.2.2.2.2.2.2.2.2.1.len p.2.2.2.2.2.2.2.2.2.2.2.2.2.2.2.2.2.2.1.cap, .bool p.2.2.2.2.2.2.2.2.2.2.2.2.2.2.2.2.2.2.2.1, .bool p.2.2.2.2.2.2.2.2.2.2.2.2.2.2.2.2.2.2.2.2.1, .string p.2.2.2.2.2.2.2.2.2.2.2.2.2.2.2.2.2.2.2.2.2.1, .string p.2.2.2.2.2.2.2.2.2.2.2.2.2.2.2.2.2.2.2.2.2.2.1, .bool p.2.2.2.2.2.2.2.2.2.2.2.2.2.2.2.2.2.2.2.2.2.2.2.1, .slice p.2.2.2.2.2.2.2.2.2.2.2.2.2.2.2.2.2.2.2.2.2.2.2.2.1.a p.2.2.2.2.2.2.2.2.2.2.2.2.2.2.2.2.2.2.2.2.2.2.2.2.1.len p.2.2.2.2.2.2.2.2.2.2.2.2.2.2.2.2.2.2.2.2.2.2.2.2.1.cap, .slice p.2.2.2.2.2.2.2.2.2.2.2.2.2.2.2.2.2.2.2.2.2.2.2.2.2.1.a p.2.2.2.2.2.2.2.2.2.2.2.2.2.2.2.2.2.2.2.2.2.2.2.2.2.1.len p.2.2.2.2.2.2.2.2.2.2.2.2.2.2.2.2.2.2.2.2.2.2.2.2.2.1.cap]
abbrev Pk_tK (k : IntKind) : List Tag := [.int .i64, .bool, .bool, .int .i64, .int .i64, .str, .str, .int k, .slc, .slc, .str, .bool, .int .i64, .bool, .str, .str, .int .i64, .bool, .slc, .bool, .bool, .str, .str, .bool, .slc, .slc]
abbrev vPkK (k : IntKind) (p : Pk) : Value := .agg (encPkK k p).toArray
theorem ePkK_len (k : IntKind) (p : Pk) : (encPkK k p).length = 26 := rfl
theorem ePkK_cell (k : IntKind) (p : Pk) : ∀ v ∈ encPkK k p, v.oneCell' = true := by
  intro v hv
  have : (encPkK k p).all (fun v => v.oneCell') = true := rfl
  exact List.all_eq_true.1 this v hv
def pkB (k : IntKind) (t : Slc × Slc × PkO) : Asn := star (ownS (eKd k) 1 t.1 t.2.2.codes) (ownS encPr 4 t.2.1 t.2.2.props)
theorem pkB_iff {k : IntKind} {t : Slc × Slc × PkO} : sat h (pkB k t :: R) ↔ sat h (ownS (eKd k) 1 t.1 t.2.2.codes :: ownS encPr 4 t.2.1 t.2.2.props :: R) := sat.star_iff
theorem pkB_none {k : IntKind} {o : PkO} (hc : o.codes = []) (hp : o.props = []) (hs : sat h R) : sat h (pkB k (⟨none, 0, 0⟩, ⟨none, 0, 0⟩, o) :: R) := by
  refine pkB_iff.2 ?_
  show sat h (ownS (eKd k) 1 ⟨none, 0, 0⟩ o.codes :: ownS encPr 4 ⟨none, 0, 0⟩ o.props :: R)
  rw [hc, hp]
  exact ownS_nil (ownS_nil hs)
abbrev pkF (t : Slc × Slc × PkO) : Pk := pkT t.2.2 t.1 t.2.1
def pksA (k : IntKind) (s : Slc) (os : List PkO) : Asn := exA fun T : List (Slc × Slc × PkO) => star (pr (T.map (·.2.2) = os)) (star (ownS (encPkK k) 26 s (T.map pkF)) (bigA (pkB k) T))
theorem pks_iff {k : IntKind} {s : Slc} {os : List PkO} : sat h (pksA k s os :: R) ↔ ∃ T : List (Slc × Slc × PkO), T.map (·.2.2) = os ∧ sat h (ownS (encPkK k) 26 s (T.map pkF) :: bigA (pkB k) T :: R) := by
  unfold pksA
  rw [sat.ex_iff]
  simp only [sat.star_iff, sat.pr_iff]
theorem pks_nil {k : IntKind} (hs : sat h R) : sat h (pksA k ⟨none, 0, 0⟩ [] :: R) := pks_iff.2 ⟨[], rfl, ownS_nil (bigA_nil.2 hs)⟩
theorem pks_len {k : IntKind} {s : Slc} {os : List PkO} (hs : sat h (pksA k s os :: R)) : s.len = os.length := by
  obtain ⟨T, rfl, hs1⟩ := pks_iff.1 hs
  rw [hs1.own_len, List.length_map, List.length_map]
theorem bigA_cat {α : Type} {f : α → Asn} : ∀ {a b : List α} {R : List Asn}, sat h (bigA f (a ++ b) :: R) ↔ sat h (bigA f a :: bigA f b :: R)
  | [], b, R => by
    rw [List.nil_append]
    exact ⟨fun hs => bigA_nil.2 hs, fun hs => bigA_nil.1 hs⟩
  | x :: a, b, R => by
    rw [List.cons_append, bigA_cons]
    constructor
    · intro hs
      exact bigA_cons.2 ((bigA_cat.1 hs.p1).re [2, 0, 1])
    · intro hs
      exact (bigA_cat.2 ((bigA_cons.1 hs).re [1, 2, 0])).p1
theorem bigA_sing {α : Type} {f : α → Asn} {x : α} : sat h (bigA f [x] :: R) ↔ sat h (f x :: R) := by
  rw [bigA_cons]
  exact ⟨fun hs => bigA_nil.1 hs.p1, fun hs => (bigA_nil.2 hs).p1⟩
theorem pks_push {k : IntKind} {s : Slc} {os : List PkO} {t : Slc × Slc × PkO} (hs : sat h (pksA k s os :: pkB k t :: R)) {elem T : TypeId} {bytes : Nat} {zero : Array Value} (hz : zero.size = 26) (hb0 : 0 < bytes) (hb : (os.length + 1) * bytes ≤ 140737488355328) {Q : Slc → Heap → Prop}
    (hq : ∀ s' h', sat h' (pksA k s' (os ++ [t.2.2]) :: R) → Q s' h') : HM.new (.cells (encPkK k (pkF t)).toArray T) h fun b h' => HM.append elem 26 bytes zero s 1 (srcSlc 26 ⟨some ⟨b, 0, none⟩, 1, 1⟩) h' Q := by
  obtain ⟨L, rfl, hs1⟩ := pks_iff.1 hs
  refine app_new (x := pkF t) (ePkK_len k) (ePkK_cell k) hz hs1 (by decide) hb0 (by simpa using hb) fun s' h' hs2 => ?_
  refine hq s' h' (pks_iff.2 ⟨L ++ [t], by simp, ?_⟩)
  rw [List.map_append]
  exact (bigA_cat.2 ((bigA_sing.2 (hs2.re [2, 1, 0])).p1)).p1
end Go.Proofs.YtfhalebbcbgbdaaGreatDoor
namespace Go.Proofs.YtfhalebbcbgbdaaGreatDoor
open Go.H Go.Proofs
set_option linter.unusedSimpArgs false
set_option linter.unusedVariables false
set_option maxRecDepth 100000
variable {h : Heap} {R : List Asn}
theorem eMs_len (x : MsT) : (encM x).length = 5 := rfl
theorem eMs_cell (x : MsT) : ∀ v ∈ encM x, v.oneCell' = true := by
  intro v hv; simp at hv; rcases hv with rfl | rfl | rfl | rfl | rfl <;> rfl
theorem eF_len (x : FlT) : (encF x).length = 7 := rfl
theorem eF_cell (x : FlT) : ∀ v ∈ encF x, v.oneCell' = true := by
  intro v hv; simp at hv; rcases hv with rfl | rfl | rfl | rfl | rfl | rfl | rfl <;> rfl
abbrev MsU := ByteArray × ByteArray × Int × Bool × ByteArray × Unit
abbrev toU (m : MsT) : MsU := (m.1, m.2.1, m.2.2.1, m.2.2.2.1, m.2.2.2.2, ())
abbrev vMs (m : MsT) : Value := .agg #[.string m.1, .string m.2.1, .int .i64 m.2.2.1, .bool m.2.2.2.1, .string m.2.2.2.2]
theorem load_Ms {a : Addr} {m : MsT} (ha : ∀ j v, (encM m)[j]? = some v → cellH h (a.add j) = some v) {Q : MsU → Heap → Prop} (hq : Q (toU m) h) : HM.loadN [.str, .str, .int .i64, .bool, .str] a h Q :=
  loadN_of (ts := [.str, .str, .int .i64, .bool, .str]) (toU m) (fun i v hv => ha i v hv) hq
theorem packet_of {m : MsT} {id : Int} {dup : Bool} (hs : sat h R) {Q : Value → Heap → Prop} (hq : ∀ c p h', sat h' (pkB .u8 (c, p, pubO m id dup) :: R) → Q (vPkK .u8 (pkT (pubO m id dup) c p)) h') :
    HCalls Tryz.prog 81 #[vMs m, .int .i64 id, .bool dup] h Q := by
  refine outflow_Message_packet_calls (toU m) id dup h Q ?_
  unfold outflow_Message_packet
  refine new_cells hs fun x1 h1 hs1 => ?_
  refine new_cells hs1 fun x2 h2 hs2 => ?_
  refine ⟨m.2.2.1, by rw [add_own]; exact hs2.p1.cell 2, m.2.2.2.1, by rw [add_own]; exact hs2.p1.cell 3, m.1, by rw [add_own]; exact hs2.p1.cell 0, m.2.1, by rw [add_own]; exact hs2.p1.cell 1, ?_⟩
  refine new_cells hs2 fun x7 h3 hs3' => ?_
  (try dsimp only); rw [HM.bind_apply]
  refine storeN_all' hs3' rfl rfl fun h4 hs4 => ?_
  refine ⟨m.2.2.2.2, by rw [add_own]; exact hs4.p2.cell 4, ?_⟩
  refine cut (fun z h' => ∃ p : Slc, sat h' (cells x7 (encPkK .u8 (pkT (pubO m id dup) ⟨none, 0, 0⟩ p)).toArray :: cells x2 (encPkK .u8 Pk_z).toArray :: pkB .u8 (⟨none, 0, 0⟩, p, pubO m id dup) :: R)) ?_ ?_
  · intro K hK
    (try dsimp only); rw [HM.ite_apply]
    by_cases ht : m.2.2.2.2 = ByteArray.mk #[]
    · rw [if_neg (by simp [ht])]
      refine hK _ _ ⟨⟨none, 0, 0⟩, ?_⟩
      have := pkB_none (k := .u8) (o := pubO m id dup) rfl (by simp [pubO, tagP, ht]) hs4
      exact (this.re [1, 2, 0, 3]).p3.drop
    · rw [if_pos (by simp [ht])]
      refine ⟨m.2.2.2.2, by rw [add_own]; exact hs4.p2.cell 4, ?_⟩
      refine new_cells hs4 fun x11 h5 hs5 => ?_
      (try dsimp only); rw [HM.bind_apply, add_own]
      refine store1_cells hs5.p1 (by simp) rfl fun h6 hs6 => ?_
      refine hK _ _ ⟨⟨some ⟨x11, 0, none⟩, 1, 1⟩, ?_⟩
      have hp : (pubO m id dup).props = [(38, 0, tagS, m.2.2.2.2)] := by simp [pubO, tagP, ht]
      have h7 : sat h6 (ownS encPr 4 ⟨some ⟨x11, 0, none⟩, 1, 1⟩ (pubO m id dup).props :: cells x7 (encPkK .u8 (pkT (pubO m id dup) ⟨none, 0, 0⟩ ⟨some ⟨x11, 0, none⟩, 1, 1⟩)).toArray :: cells x2 (encPkK .u8 Pk_z).toArray :: R) := by
        rw [hp]
        exact ownS_mk (o := 0) (cs := (encPr (38, 0, tagS, m.2.2.2.2)).toArray) ⟨rfl, Nat.le_refl _, rfl, by simp, by simp⟩ (hs6.re [1, 0, 2, 3]).p3.drop
      have h8 : sat h6 (ownS (eKd .u8) 1 ⟨none, 0, 0⟩ (pubO m id dup).codes :: ownS encPr 4 ⟨some ⟨x11, 0, none⟩, 1, 1⟩ (pubO m id dup).props :: cells x7 (encPkK .u8 (pkT (pubO m id dup) ⟨none, 0, 0⟩ ⟨some ⟨x11, 0, none⟩, 1, 1⟩)).toArray :: cells x2 (encPkK .u8 Pk_z).toArray :: R) := ownS_nil h7
      exact ((pkB_iff (t := (⟨none, 0, 0⟩, ⟨some ⟨x11, 0, none⟩, 1, 1⟩, pubO m id dup))).2 h8).re [1, 2, 0]
  rintro ⟨⟩ h5 ⟨p, hs5⟩
  refine loadN_cells (ts := Pk_tK .u8) (pkT (pubO m id dup) ⟨none, 0, 0⟩ p) hs5 rfl ?_
  (try dsimp only); rw [HM.bind_apply]
  refine storeN_all' hs5.p1 rfl rfl fun h6 hs6 => ?_
  refine loadN_cells (ts := Pk_tK .u8) (pkT (pubO m id dup) ⟨none, 0, 0⟩ p) hs6 rfl ?_
  exact hq _ _ h6 hs6.drop.drop
theorem goF_cons (o : OutS) (m : MsT) (w : List MsT) : goF o (m :: w) = if 0 < m.2.2.1 ∧ o.most ≤ (o.flights.length : Int) then ({ o with waiting := m :: w }, [])
    else if 0 < m.2.2.1 then ((goF { o with pool := ⟨o.pool.most, nextI o.pool.used o.pool.taken, o.pool.used ++ [nextI o.pool.used o.pool.taken]⟩, flights := o.flights ++ [(nextI o.pool.used o.pool.taken, m, false)] } w).1, pubO m (nextI o.pool.used o.pool.taken) false :: (goF { o with pool := ⟨o.pool.most, nextI o.pool.used o.pool.taken, o.pool.used ++ [nextI o.pool.used o.pool.taken]⟩, flights := o.flights ++ [(nextI o.pool.used o.pool.taken, m, false)] } w).2)
    else ((goF o w).1, pubO m 0 false :: (goF o w).2) := rfl
theorem goF_wait (o : OutS) (l : List MsT) : ∀ (w : List MsT), goF { o with waiting := l } w = goF o w := by
  intro w
  induction w generalizing o with
  | nil => rfl
  | cons m w ih =>
    rw [goF_cons, goF_cons]
    split
    · rfl
    · split
      · have := ih { o with pool := ⟨o.pool.most, nextI o.pool.used o.pool.taken, o.pool.used ++ [nextI o.pool.used o.pool.taken]⟩, flights := o.flights ++ [(nextI o.pool.used o.pool.taken, m, false)] }
        simp only [this]
      · rw [ih o]
set_option maxHeartbeats 4000000 in
theorem goOn_spec {b : Nat} {o : OutS} {ps : List PkO} {s : Slc} (hs : sat h (outA b o :: pksA .u8 s ps :: R)) (hok : FlowOK o) (hps : ps.length ≤ 10000) {Q : Value → Heap → Prop}
    (hq : ∀ h' S, sat h' (outA b (goOnF o).1 :: pksA .u8 S (ps ++ (goOnF o).2) :: R) → Q (.slice S.a S.len S.cap) h') :
    HCalls Tryz.prog 78 #[at0 b, .slice s.a s.len s.cap] h Q := by
  refine outflow_Flow_goOn_calls (some ⟨b, 0, none⟩) s h Q ?_
  unfold outflow_Flow_goOn
  (try dsimp only); rw [HM.bind_apply]
  refine loop_k (γ := OutS × List PkO) (fun g c h' => FlowOK g.1 ∧ g.2.length + g.1.waiting.length ≤ 10300 ∧ (goOnF g.1).1 = (goOnF o).1 ∧ g.2 ++ (goOnF g.1).2 = ps ++ (goOnF o).2 ∧ sat h' (outA b g.1 :: pksA .u8 c.1 g.2 :: R)) (fun g => g.1.waiting.length) (o, ps)
    ⟨hok, by have := hok.wl; simp only; omega, rfl, rfl, hs⟩ ?_
  clear hs hps hok
  rintro ⟨o1, os⟩ ⟨out, ⟨⟩⟩ h1 ⟨hok, hps, he1, he2, hs0⟩ K hnx hd
  simp only at hok hps he1 he2 hs0
  obtain ⟨pb, fl, wt, hs1⟩ := outA_iff.1 hs0
  have hwl : wt.len = o1.waiting.length := (hs1.p3).own_len
  have hfl : fl.len = o1.flights.length := (hs1.p2).own_len
  refine cut (fun z h' => h' = h1 ∧ z.1 = (o1.on && decide (0 < o1.waiting.length))) ?_ ?_
  · intro K2 hK2
    refine ⟨_, rfl, o1.on, by rw [add_own]; exact hs1.cell 2, ?_⟩
    (try dsimp only); rw [HM.ite_apply]
    cases hon : o1.on with
    | false => rw [if_neg (by simp)]; exact hK2 _ _ ⟨rfl, by simp [hon]⟩
    | true =>
      rw [if_pos rfl]
      refine ⟨_, rfl, wt, by rw [add_own]; exact hs1.cell 4, ?_⟩
      refine hK2 _ _ ⟨rfl, ?_⟩
      simp only [hwl, hon, Bool.true_and]
      exact decide_eq_decide.2 (by omega)
  rintro ⟨z, ⟨⟩⟩ h2 ⟨rfl, hz⟩
  simp only at hz
  subst hz
  (try dsimp only); rw [HM.ite_apply]
  by_cases hgo : o1.on = true ∧ 0 < o1.waiting.length
  case neg =>
    rw [if_neg (by rw [Bool.and_eq_true, decide_eq_true_eq]; exact hgo)]
    have e : goOnF o1 = (o1, []) := by
      unfold goOnF
      by_cases hon : o1.on = true
      · rw [if_pos hon]
        have hw : o1.waiting = [] := by
          cases hw : o1.waiting with
          | nil => rfl
          | cons m w => exact absurd ⟨hon, by rw [hw]; simp⟩ hgo
        rw [hw]
        show ({ o1 with waiting := [] }, []) = _
        rw [← hw]
      · rw [if_neg hon]
    rw [e] at he1 he2
    rw [List.append_nil] at he2
    refine hd _ _ (hq h2 out ?_)
    rw [← he1, ← he2]
    exact hs0
  obtain ⟨hon, hw0⟩ := hgo
  rw [if_pos (by simp [hon, hw0])]
  cases hwait : o1.waiting with
  | nil => rw [hwait] at hw0; simp at hw0
  | cons m w =>
  have hwl1 := hok.wl
  have hmq := hok.wq m (by rw [hwait]; exact List.mem_cons_self ..)
  have hwq : ∀ x ∈ w, 0 ≤ x.2.2.1 ∧ x.2.2.1 ≤ 2 := fun x hx => hok.wq x (by rw [hwait]; exact List.mem_cons_of_mem _ hx)
  have hgo : goOnF o1 = goF o1 (m :: w) := by unfold goOnF; rw [if_pos hon, hwait]
  rw [hgo, goF_cons] at he1 he2
  rw [hwait] at hps hs1 hwl hwl1
  have hf64 := hok.f64
  have hm64 := hok.m64
  refine ⟨_, rfl, wt, by rw [add_own]; exact hs1.cell 4, ?_⟩
  (try dsimp only); rw [HM.bind_apply]
  refine idx_row (i := 0) (hs1.p3.own_row eMs_len) (x := m) rfl fun p hp => ?_
  (try dsimp only); rw [HM.bind_apply]
  refine load_Ms hp ?_
  refine new_cells hs1 fun x12 h3 hs2' => ?_
  (try dsimp only); rw [HM.bind_apply]
  refine storeN_all' hs2' rfl rfl fun h4 hs2'' => ?_
  have hs2 : sat h4 (cells x12 (encM m).toArray :: cells b #[at0 pb, .int .i64 o1.most, .bool o1.on, .slice fl.a fl.len fl.cap, .slice wt.a wt.len wt.cap] :: poolA pb o1.pool :: ownS encF 7 fl o1.flights :: ownS encM 5 wt (m :: w) :: pksA .u8 out os :: R) := hs2''
  clear hs2'' hs2' hs1
  refine cut (fun z h' => h' = h4 ∧ z.1 = decide (0 < m.2.2.1 ∧ o1.most ≤ (o1.flights.length : Int))) ?_ ?_
  · intro K2 hK2
    refine ⟨m.2.2.1, by rw [add_own]; exact hs2.cell 2, ?_⟩
    (try dsimp only); rw [HM.ite_apply]
    by_cases hm0 : 0 < m.2.2.1
    · rw [if_pos (by simpa using hm0)]
      refine ⟨_, rfl, fl, by rw [add_own]; exact hs2.p1.cell 3, _, rfl, o1.most, by rw [add_own]; exact hs2.p1.cell 1, ?_⟩
      refine hK2 _ _ ⟨rfl, ?_⟩
      simp only [hfl]
      rw [decide_eq_decide]
      simp [hm0]
    · rw [if_neg (by simpa using hm0)]
      exact hK2 _ _ ⟨rfl, by simp [hm0]⟩
  rintro ⟨z, ⟨⟩⟩ h5 ⟨rfl, hz⟩
  simp only at hz
  subst hz
  (try dsimp only); rw [HM.ite_apply]
  by_cases hfull : 0 < m.2.2.1 ∧ o1.most ≤ (o1.flights.length : Int)
  · rw [if_pos (by simpa using hfull)]
    rw [if_pos hfull] at he1 he2
    rw [List.append_nil] at he2
    refine hd _ _ (hq h5 out ?_)
    rw [← he1, ← he2]
    have : sat h5 (outA b { o1 with waiting := m :: w } :: pksA .u8 out os :: R) := outA_iff.2 ⟨pb, fl, wt, hs2.drop⟩
    exact this
  rw [if_neg (by simpa using hfull)]
  rw [if_neg hfull] at he1 he2
  refine ⟨_, rfl, wt, by rw [add_own]; exact hs2.p1.cell 4, ?_⟩
  (try dsimp only); rw [HM.bind_apply]
  refine slice_own (mx := none) (lo := 1) (hi := (m :: w).length) hs2.p4 eMs_len (by simp) (Nat.le_refl _) ⟨rfl, by simp⟩ (by rw [hwl]; rfl) fun wt' hs3 => ?_
  rw [List.take_length] at hs3
  have hs3' : sat h5 (ownS encM 5 wt' w :: cells x12 (encM m).toArray :: cells b #[at0 pb, .int .i64 o1.most, .bool o1.on, .slice fl.a fl.len fl.cap, .slice wt.a wt.len wt.cap] :: poolA pb o1.pool :: ownS encF 7 fl o1.flights :: pksA .u8 out os :: R) := hs3
  clear hs3 hs2
  refine ⟨_, rfl, ?_⟩
  (try dsimp only); rw [HM.bind_apply, add_own]
  refine store1_cells hs3'.p2 (by simp) rfl fun h6 hs4' => ?_
  have hs4 : sat h6 (cells b #[at0 pb, .int .i64 o1.most, .bool o1.on, .slice fl.a fl.len fl.cap, .slice wt'.a wt'.len wt'.cap] :: ownS encM 5 wt' w :: cells x12 (encM m).toArray :: poolA pb o1.pool :: ownS encF 7 fl o1.flights :: pksA .u8 out os :: R) := hs4'
  clear hs4' hs3'
  refine ⟨m.2.2.1, by rw [add_own]; exact hs4.p2.cell 2, ?_⟩
  refine cut (fun z h' => ∃ (fl' : Slc) (o2 : OutS), o2.on = true ∧ o2.waiting = w ∧ FlowOK o2 ∧ (goF o2 w).1 = (goOnF o).1 ∧ os ++ pubO m z.1 false :: (goF o2 w).2 = ps ++ (goOnF o).2 ∧
      sat h' (cells x12 (encM m).toArray :: cells b #[at0 pb, .int .i64 o2.most, .bool o2.on, .slice fl'.a fl'.len fl'.cap, .slice wt'.a wt'.len wt'.cap] :: poolA pb o2.pool :: ownS encF 7 fl' o2.flights :: ownS encM 5 wt' w :: pksA .u8 out os :: R)) ?_ ?_
  · intro K2 hK2
    (try dsimp only); rw [HM.ite_apply]
    by_cases hm0 : 0 < m.2.2.1
    · rw [if_pos (by simpa using hm0)]
      rw [if_pos hm0] at he1 he2
      dsimp only at he1 he2
      have hroom : (o1.flights.length : Int) < o1.most := by omega
      refine ⟨_, rfl, some ⟨pb, 0, none⟩, by rw [add_own]; exact hs4.cell 0, ?_⟩
      have hfln := hok.flen
      have hpm := hok.pm
      refine bind_callN (Take_spec hs4.p3 (fun hf => absurd hf (by omega)) (fun _ n u hr h7 hs7' => ⟨(u, 0, ()), rfl, ?_⟩))
      have hu := nextI_eq hr
      have hs7 : sat h7 (poolA pb ⟨o1.pool.most, u, o1.pool.used ++ [u]⟩ :: cells b #[at0 pb, .int .i64 o1.most, .bool o1.on, .slice fl.a fl.len fl.cap, .slice wt'.a wt'.len wt'.cap] :: ownS encM 5 wt' w :: cells x12 (encM m).toArray :: ownS encF 7 fl o1.flights :: pksA .u8 out os :: R) := hs7'
      clear hs7'
      refine ⟨_, rfl, fl, by rw [add_own]; exact hs7.p1.cell 3, ?_⟩
      refine loadN_cells (ts := [.str, .str, .int .i64, .bool, .str]) (toU m) hs7.p3 rfl ?_
      refine new_cells hs7 fun x31 h8 hs8 => ?_
      refine ⟨fl, by rw [add_own]; exact hs8.p2.cell 3, rfl, ?_⟩
      (try dsimp only); rw [HM.bind_apply]
      refine append_own (enc := encF) (ys := [(u, m, false)]) eF_len eF_cell rfl hs8.p5 rfl ?_ (by decide) (by decide) (by omega) fun fl' h9 hs9 => ?_
      · simp only [srcSlc, Nat.one_mul, List.flatMap_cons, List.flatMap_nil, List.append_nil]
        exact hs8.reads rfl
      refine ⟨_, rfl, ?_⟩
      (try dsimp only); rw [HM.bind_apply, add_own]
      refine store1_cells hs9.p3 (by simp) rfl fun h10 hs10 => ?_
      have htk := hok.take (m := m) (w := w) (by simp only [List.length_cons] at hwl1; omega) hwq ⟨hm0, hmq.2⟩ hroom
      rw [hu] at he1 he2 htk
      refine hK2 _ _ ⟨fl', { o1 with pool := ⟨o1.pool.most, u, o1.pool.used ++ [u]⟩, flights := o1.flights ++ [(u, m, false)], waiting := w }, hon, rfl, htk, ?_, ?_, (hs10.re [2, 5, 0, 3, 1, 4, 6]).drop⟩
      · rw [← he1]
        exact congrArg Prod.fst (goF_wait { o1 with pool := ⟨o1.pool.most, u, o1.pool.used ++ [u]⟩, flights := o1.flights ++ [(u, m, false)] } w w)
      · rw [← he2]
        have := congrArg Prod.snd (goF_wait { o1 with pool := ⟨o1.pool.most, u, o1.pool.used ++ [u]⟩, flights := o1.flights ++ [(u, m, false)] } w w)
        simp only at this ⊢
        rw [this]
    · rw [if_neg (by simpa using hm0)]
      rw [if_neg hm0] at he1 he2
      dsimp only at he1 he2
      refine hK2 _ _ ⟨fl, { o1 with waiting := w }, hon, rfl, ⟨hok.pm, hok.pk, hok.m1, hok.m64, hok.ids, by simp only [List.length_cons] at hwl1 ⊢; omega, hok.fq, hwq⟩, ?_, ?_, hs4.re [2, 0, 3, 4, 1]⟩
      · rw [← he1, goF_wait]
      · rw [← he2, goF_wait]
  rintro ⟨id, ⟨⟩⟩ h7 ⟨fl', o2, hon2, hw2, hok2, he3, he4, hs5⟩
  simp only at he4
  refine loadN_cells (ts := [.str, .str, .int .i64, .bool, .str]) (toU m) hs5 rfl ?_
  refine bind_call1 (packet_of (m := m) (id := id) (dup := false) hs5 fun c p h8 hs6 => ⟨pkT (pubO m id false) c p, rfl, ?_⟩)
  refine pks_push (t := (c, p, pubO m id false)) (hs6.re [6, 0, 1, 2, 3, 4, 5]) rfl (by decide) (by simp only [List.length_cons] at hps; omega) fun out' h9 hs7 => ?_
  have e2 : goOnF o2 = goF o2 w := by unfold goOnF; rw [if_pos hon2, hw2]
  refine hnx (o2, os ++ [pubO m id false]) _ _ (by simp only [hwait, hw2, List.length_cons]; omega) ⟨hok2, ?_, by rw [e2]; exact he3, by rw [e2, List.append_assoc]; exact he4, ?_⟩
  · simp only [hw2, List.length_append, List.length_cons, List.length_nil] at hps ⊢
    omega
  · refine outA_iff.2 ⟨pb, fl', wt', ?_⟩
    rw [hw2]
    exact (hs7.re [2, 3, 4, 5, 0, 1]).re [0, 1, 2, 3, 4, 5] |> fun hh => (hh.re [5, 0, 1, 2, 3, 4]).drop
end Go.Proofs.YtfhalebbcbgbdaaGreatDoor
namespace Go.Proofs.YtfhalebbcbgbdaaGreatDoor
open Go.H Go.Proofs
instance : Enc encM 5 := ⟨eMs_len, eMs_cell, by decide⟩
instance : Enc encF 7 := ⟨eF_len, eF_cell, by decide⟩
instance (k : IntKind) : Enc (encPkK k) 26 := ⟨ePkK_len k, ePkK_cell k, by decide⟩
instance (k : IntKind) : Enc (eKd k) 1 := ⟨eKd_len k, eKd_cell k, by decide⟩
instance : Enc encPr 4 := ⟨ePr_len, ePr_cell, by decide⟩
end Go.Proofs.YtfhalebbcbgbdaaGreatDoor
namespace Go.Proofs.YtfhalebbcbgbdaaGreatDoor
set_option linter.unusedSimpArgs false
set_option linter.unusedVariables false
open Go.Proofs Go.Shelf
def u8_ren : Go.Shelf.Ren := ⟨fun n => match n with | 197 => 188 | 260 => 212 | n => n, fun n => match n with | 9 => 9 | 21 => 21 | 3 => 3 | 4 => 4 | 5 => 5 | 105 => 278 | 119 => 308 | 0 => 0 | 46 => 204 | 139 => 311 | 138 => 310 | n => n, fun n => match n with | 3 => 6 | 4 => 7 | n => n⟩
theorem u8 : Lays.n197 Tryz.prog u8_ren where
  mixed := by kernel_rfl
  f197 := Tryz.func188.trans (congrArg some (by kernel_rfl))
  f260 := Tryz.func212.trans (congrArg some (by kernel_rfl))
  t0 := Tryz.underlying0
  a0 := Tryz.isAgg0
  z0 := Tryz.sizeOf0
  v0 := Tryz.zeroValue0
  t3 := Tryz.underlying3
  a3 := Tryz.isAgg3
  z3 := Tryz.sizeOf3
  v3 := Tryz.zeroValue3
  t4 := Tryz.underlying4
  a4 := Tryz.isAgg4
  z4 := Tryz.sizeOf4
  v4 := Tryz.zeroValue4
  t5 := Tryz.underlying5
  a5 := Tryz.isAgg5
  z5 := Tryz.sizeOf5
  v5 := Tryz.zeroValue5
  t9 := Tryz.underlying9
  a9 := Tryz.isAgg9
  z9 := Tryz.sizeOf9
  v9 := Tryz.zeroValue9
  t21 := Tryz.underlying21
  a21 := Tryz.isAgg21
  z21 := Tryz.sizeOf21
  v21 := Tryz.zeroValue21
  t46 := Tryz.underlying204
  a46 := Tryz.isAgg204
  z46 := Tryz.sizeOf204
  v46 := Tryz.zeroValue204
  t105 := Tryz.underlying278
  a105 := Tryz.isAgg278
  z105 := Tryz.sizeOf278
  v105 := Tryz.zeroValue278
  t119 := Tryz.underlying308
  a119 := Tryz.isAgg308
  z119 := Tryz.sizeOf308
  t138 := Tryz.underlying310
  a138 := Tryz.isAgg310
  z138 := Tryz.sizeOf310
  v138 := Tryz.zeroValue310
  t139 := Tryz.underlying311
  a139 := Tryz.isAgg311
  z139 := Tryz.sizeOf311
  v139 := Tryz.zeroValue311
  g3 := by kernel_rfl
  g4 := by kernel_rfl
end Go.Proofs.YtfhalebbcbgbdaaGreatDoor
namespace Go.Proofs.YtfhalebbcbgbdaaGreatDoor
open Go.H Go.Proofs
set_option linter.unusedSimpArgs false
set_option linter.unusedVariables false
set_option synthInstance.maxSize 100000
set_option synthInstance.maxHeartbeats 400000
def U8 (h0 : Heap) : Prop :=
  (∀ c, c < 256 → cellH h0 ⟨u8_ren.g 3, c, none⟩ = some (.int .u8 (Lib.firstT c))) ∧
  (∀ i, i < 16 → cellH h0 ⟨u8_ren.g 4, 2 * i, none⟩ = some (.int .u8 (Lib.accLo i)) ∧ cellH h0 ⟨u8_ren.g 4, 2 * i + 1, none⟩ = some (.int .u8 (Lib.accHi i)))
theorem U8.tabs {h h0 : Heap} {R : List Asn} (ht : U8 h0) (hs : sat h (old h0 :: R)) {w : World} (hw : w.heap = h) : Lib.Utf8Tabs (u8_ren.g 3) (u8_ren.g 4) w := by
  subst hw
  exact ⟨fun c hc => hs.old_cell (ht.1 c hc), fun i hi => ⟨hs.old_cell (ht.2 i hi).1, hs.old_cell (ht.2 i hi).2⟩⟩
theorem Decode_spec {h h0 : Heap} {R : List Asn} (hs : sat h (old h0 :: R)) (ht : U8 h0) (s : ByteArray) {Q : Value → Heap → Prop}
    (hq : ∀ h', sat h' (old h0 :: R) → Q (.tuple #[.int .i32 (Lib.decodeGo s).1, .int .i64 (Lib.decodeGo s).2]) h') : HCalls Tryz.prog 188 #[.string s] h Q :=
  calls_below hs (fun w hw => Any.utf8_DecodeRuneInString u8 s w (ht.tabs hs hw)) hq
def nextLen (s : ByteArray) : Nat := if (Lib.decodeGo s).1 = 0 ∨ ((Lib.decodeGo s).1 = 65533 ∧ (Lib.decodeGo s).2 < 2) then 0 else (Lib.decodeGo s).2
theorem nextLen_le (s : ByteArray) : nextLen s ≤ s.size := by
  unfold nextLen
  split
  · exact Nat.zero_le _
  · exact Lib.decodeGo_le_size s
theorem next_spec {h h0 : Heap} {R : List Asn} (hs : sat h (old h0 :: R)) (ht : U8 h0) (s : ByteArray) {Q : Value → Heap → Prop}
    (hq : ∀ h', sat h' (old h0 :: R) → Q (.int .i64 (nextLen s)) h') : HCalls Tryz.prog 195 #[.string s] h Q := by
  refine text_next_calls s h Q ?_
  unfold text_next
  simp
  refine Decode_spec hs ht s fun h' hs' => ?_
  have := hq h' hs'
  unfold nextLen at this
  by_cases g1 : (Lib.decodeGo s).1 = 0
  · simpa [g1] using this
  · by_cases g2 : (Lib.decodeGo s).1 = 65533
    · by_cases g3 : (Lib.decodeGo s).2 < 2
      · have g3' : ((Lib.decodeGo s).2 : Int) < 2 := by omega
        simpa [g1, g2, g3, g3'] using this
      · have g3' : ¬ ((Lib.decodeGo s).2 : Int) < 2 := by omega
        simpa [g1, g2, g3, g3'] using this
    · have g2' : ¬ ((Lib.decodeGo s).1 : Int) = 65533 := by omega
      simpa [g1, g2, g2'] using this
def faultGo (s : ByteArray) : Nat → Nat → Option Nat
  | 0, _ => none
  | f + 1, at' => if at' < s.size then (if nextLen (s.extract at' s.size) = 0 then some at' else faultGo s f (at' + nextLen (s.extract at' s.size))) else none
def faultOf (s : ByteArray) : Option Nat := faultGo s (s.size + 1) 0
def faultV : Option Nat → Value
  | some n => .tuple #[.int .i64 n, .bool true]
  | none => .tuple #[.int .i64 0, .bool false]
theorem Fault_spec {h h0 : Heap} {R : List Asn} (hs : sat h (old h0 :: R)) (ht : U8 h0) (s : ByteArray) (hsz : s.size ≤ 9223372036854775807) {Q : Value → Heap → Prop}
    (hq : ∀ h', sat h' (old h0 :: R) → Q (faultV (faultOf s)) h') : HCalls Tryz.prog 157 #[.string s] h Q := by
  refine text_Fault_calls s h Q ?_
  unfold text_Fault
  simp only [HM.bind_apply]
  refine loop_gx (γ := Nat × Nat) (fun g c h' => c.1 = (g.2 : Int) ∧ g.2 ≤ s.size ∧ s.size - g.2 < g.1 ∧ faultGo s g.1 g.2 = faultOf s ∧ sat h' (old h0 :: R)) (fun g => g.1) (s.size + 1, 0) ⟨rfl, Nat.zero_le _, by simp, rfl, hs⟩ ?_
  rintro ⟨f, at'⟩ ⟨c, ⟨⟩⟩ h1 ⟨hc, hle, hf, hg, hs1⟩
  simp only at hc hle hf hg
  subst hc
  cases f with
  | zero => omega
  | succ f =>
  simp only [faultGo] at hg
  by_cases hlt : at' < s.size
  · rw [if_pos hlt] at hg
    have hlt' : (at' : Int) < (s.size : Int) := by omega
    simp [hlt']
    refine ⟨at', s.size, rfl, ⟨rfl, by omega⟩, ?_⟩
    refine next_spec hs1 ht _ fun h2 hs2 => ?_
    have hn := nextLen_le (s.extract at' s.size)
    generalize nextLen (s.extract at' s.size) = n at hg hn ⊢
    have hsize : (s.extract at' s.size).size = s.size - at' := by simp
    rw [hsize] at hn
    by_cases h0 : n = 0
    · rw [if_pos h0] at hg
      have := hq h2 hs2
      rw [← hg] at this
      simpa [h0, faultV] using this
    · rw [if_neg h0] at hg
      simp [h0]
      exact .mk (f, at' + n) (by simp) ⟨by simp only []; rw [wrap_id (by omega) (by omega)]; rfl, by simp only []; omega, by simp only []; omega, hg, hs2⟩
  · rw [if_neg hlt] at hg
    have hlt' : ¬ (at' : Int) < (s.size : Int) := by omega
    have := hq h1 hs1
    rw [← hg] at this
    simpa [hlt', faultV] using this
end Go.Proofs.YtfhalebbcbgbdaaGreatDoor
namespace Go.Proofs.YtfhalebbcbgbdaaGreatDoor
open Go.H Go.Proofs Go.Lib
set_option linter.unusedSimpArgs false
set_option linter.unusedVariables false
set_option synthInstance.maxSize 100000
set_option synthInstance.maxHeartbeats 400000
theorem get_bang {s : ByteArray} {k : Nat} (h : k < s.size) : s[k]? = some (s.get! k) := by
  rw [getElem?_pos s k h]
  have h1 : k < s.data.size := h
  show some (s.data[k]) = some (s.data[k]!)
  rw [getElem!_pos s.data k h1]
variable {h : Heap} {R : List Asn}
end Go.Proofs.YtfhalebbcbgbdaaGreatDoor
namespace Go.Proofs.YtfhalebbcbgbdaaGreatDoor
open Go.H Go.Proofs Go.Lib
set_option linter.unusedSimpArgs false
set_option linter.unusedVariables false
theorem index_hit_c (c : UInt8) : ∀ (x r : List UInt8), c ∉ x → indexByte (x ++ c :: r) c = x.length
  | [], r, _ => by simp [indexByte]
  | b :: x, r, h => by
    simp only [List.mem_cons, not_or] at h
    have hb : (b == c) = false := by simpa using fun e => h.1 e.symm
    have ih := index_hit_c c x r h.2
    simp only [List.cons_append, indexByte, hb, ih]
    have : ¬ (((x.length : Nat) : Int) == -1) = true := by simp
    simp only [Bool.false_eq_true, if_false, if_neg this, List.length_cons]
    omega
theorem index_miss_c (c : UInt8) : ∀ (x : List UInt8), c ∉ x → indexByte x c = -1
  | [], _ => rfl
  | b :: x, h => by
    simp only [List.mem_cons, not_or] at h
    have hb : (b == c) = false := by simpa using fun e => h.1 e.symm
    simp [indexByte, hb, index_miss_c c x h.2]
theorem hit_c (c : UInt8) (x r : List UInt8) (h : c ∉ x) : index (x ++ c :: r) [c] = x.length := by rw [index_one]; exact index_hit_c c x r h
theorem miss_c (c : UInt8) (x : List UInt8) (h : c ∉ x) : index x [c] = -1 := by rw [index_one]; exact index_miss_c c x h
theorem split_hit_c (c : UInt8) (x r : List UInt8) (k : Nat) (h : c ∉ x) : splitK [c] 0 (k + 1) (x ++ c :: r) = x :: splitK [c] 0 k r := by
  have hi := hit_c c x r h
  have hn : ¬ (index (x ++ c :: r) [c] == -1) = true := by rw [hi]; simp
  simp only [splitK, if_neg hn, hi]
  congr 1
  all_goals simp
theorem split_miss_c (c : UInt8) (x : List UInt8) (k : Nat) (h : c ∉ x) : splitK [c] 0 k x = [x] := by
  cases k with
  | zero => rfl
  | succ k => simp [splitK, miss_c c x h]
theorem count_hit_c (c : UInt8) (x r : List UInt8) (h : c ∉ x) : count (x ++ c :: r) [c] = 1 + count r [c] := by
  rw [count_hit (by simp) (hit_c c x r h)]
  simp
theorem count_miss_c (c : UInt8) (x : List UInt8) (h : c ∉ x) : count x [c] = 0 := count_miss (miss_c c x h)
def lev (c : UInt8) : List UInt8 → List UInt8 → List (List UInt8)
  | x, [] => [x]
  | x, b :: r => if b = c then x :: lev c [] r else lev c (x ++ [b]) r
theorem lev_split (c : UInt8) : ∀ (r x : List UInt8), c ∉ x → splitK [c] 0 (count (x ++ r) [c]) (x ++ r) = lev c x r
  | [], x, h => by
    rw [List.append_nil, count_miss_c c x h, split_miss_c c x _ h]
    rfl
  | b :: r, x, h => by
    by_cases hb : b = c
    · subst hb
      rw [count_hit_c b x r h, Nat.add_comm, split_hit_c b x r _ h]
      have ih := lev_split b r [] (by simp)
      rw [List.nil_append] at ih
      rw [ih]
      simp [lev]
    · have ih := lev_split c r (x ++ [b]) (by simp [h, Ne.symm hb])
      rw [List.append_assoc] at ih
      simp only [lev, if_neg hb]
      exact ih
theorem lev_len (c : UInt8) : ∀ (r x : List UInt8), (lev c x r).length = r.count c + 1
  | [], x => rfl
  | b :: r, x => by
    by_cases hb : b = c
    · subst hb
      simp only [lev, if_pos, List.length_cons, List.count_cons_self, lev_len b r []]
    · simp only [lev, if_neg hb, lev_len c r (x ++ [b]), List.count_cons_of_ne hb]
theorem data_inj {x y : ByteArray} (h : x.data.toList = y.data.toList) : x = y := by
  cases x; cases y
  simp at h
  rw [h]
def slash : ByteArray := ByteArray.mk #[47]
def levels (s : ByteArray) : List ByteArray := splitB slash 0 (countB s slash) s
theorem levels_data (s : ByteArray) : (levels s).map (·.data.toList) = lev 47 [] s.data.toList := by
  unfold levels
  rw [splitB_data]
  exact lev_split 47 s.data.toList [] (by simp)
theorem levels_len (s : ByteArray) : (levels s).length = s.data.toList.count 47 + 1 := by
  have := congrArg List.length (levels_data s)
  rw [List.length_map, lev_len] at this
  exact this
theorem levels_ne (s : ByteArray) : levels s ≠ [] := fun h => by
  have := levels_len s
  rw [h] at this
  simp at this
def plusS : ByteArray := ByteArray.mk #[43]
def hashS : ByteArray := ByteArray.mk #[35]
def hasB (c : UInt8) (s : ByteArray) : Bool := decide (c ∈ s.data.toList)
theorem index_pos (c : UInt8) : ∀ l : List UInt8, 0 ≤ indexByte l c ↔ c ∈ l
  | [] => by simp [indexByte]
  | b :: l => by
    by_cases hb : b = c
    · subst hb
      simp [indexByte]
    · have ih := index_pos c l
      have hb' : (b == c) = false := by simpa using hb
      have hge := indexByte_ge l c
      simp only [indexByte, hb', Bool.false_eq_true, if_false, List.mem_cons, Ne.symm hb, false_or]
      rw [← ih]
      by_cases h1 : indexByte l c = -1
      · simp [h1]
      · have h2 : ¬ (indexByte l c == -1) = true := by simpa using h1
        rw [if_neg h2]
        omega
theorem has_index (c : UInt8) (s : ByteArray) : decide (0 ≤ indexByte s.data.toList c) = hasB c s := by
  unfold hasB
  simp only [index_pos]
def sizedT (s : ByteArray) : Bool := (faultOf s).isNone && decide (s.size ≠ 0) && decide (s.size ≤ 256) && decide ((levels s).length ≤ 32)
def nameOK (s : ByteArray) : Bool := sizedT s && !hasB 43 s && !hasB 35 s
def filtG : List ByteArray → Bool
  | [] => true
  | x :: r => (if hasB 35 x then (r.isEmpty && decide (x.size ≤ 1)) else (!hasB 43 x || decide (x.size ≤ 1))) && filtG r
def filterOK (s : ByteArray) : Bool := sizedT s && filtG (levels s)
theorem sizedT_iff {s : ByteArray} : sizedT s = true ↔ faultOf s = none ∧ s.size ≠ 0 ∧ s.size ≤ 256 ∧ (levels s).length ≤ 32 := by
  unfold sizedT
  simp [Option.isNone_iff_eq_none, and_assoc]
theorem sizedT_le {s : ByteArray} (h : sizedT s = true) : s.size ≤ 256 := (sizedT_iff.1 h).2.2.1
theorem nameOK_sized {s : ByteArray} (h : nameOK s = true) : sizedT s = true := by
  unfold nameOK at h
  simp only [Bool.and_eq_true] at h
  exact h.1.1
theorem filterOK_sized {s : ByteArray} (h : filterOK s = true) : sizedT s = true := by
  unfold filterOK at h
  simp only [Bool.and_eq_true] at h
  exact h.1
theorem has_one {c : UInt8} {x : ByteArray} (h : hasB c x = true) : x.size ≤ 1 ↔ x = ByteArray.mk #[c] := by
  unfold hasB at h
  rw [decide_eq_true_eq] at h
  constructor
  · intro h1
    refine data_inj ?_
    have hl : x.data.toList.length ≤ 1 := by rw [Array.length_toList]; exact h1
    generalize x.data.toList = l at h hl
    match l, h, hl with
    | [b], h, _ => rw [List.mem_singleton.1 h]
    | _ :: _ :: _, _, hl => simp at hl
  · rintro rfl
    exact Nat.le_refl 1
def levBad (x : ByteArray) (last : Bool) : Bool := (hasB 43 x && decide (x ≠ plusS)) || (hasB 35 x && (decide (x ≠ hashS) || !last))
theorem filtG_cons (x : ByteArray) (r : List ByteArray) : filtG (x :: r) = (!levBad x r.isEmpty && filtG r) := by
  unfold levBad
  rw [filtG]
  congr 1
  by_cases h35 : hasB 35 x = true
  · rw [if_pos h35, h35]
    by_cases hx : x = hashS
    · subst hx
      have : hasB 43 hashS = false := rfl
      rw [this]
      cases r.isEmpty <;> rfl
    · have hs : ¬ x.size ≤ 1 := fun h => hx ((has_one h35).1 h)
      simp [hs, hx]
  · rw [if_neg h35]
    simp only [Bool.not_eq_true] at h35
    rw [h35]
    by_cases h43 : hasB 43 x = true
    · rw [h43]
      by_cases hx : x = plusS
      · subst hx
        rfl
      · have hs : ¬ x.size ≤ 1 := fun h => hx ((has_one h43).1 h)
        simp [hs, hx]
    · simp only [Bool.not_eq_true] at h43
      rw [h43]
      rfl
def matchL : List ByteArray → List ByteArray → Bool
  | [], n => n.isEmpty
  | f :: fs, n => if f = hashS then true else match n with
    | [] => false
    | m :: ns => if f ≠ plusS ∧ f ≠ m then false else matchL fs ns
theorem matchL_cons (f : ByteArray) (fs n : List ByteArray) : matchL (f :: fs) n = if f = hashS then true else match n with
    | [] => false
    | m :: ns => if f ≠ plusS ∧ f ≠ m then false else matchL fs ns := by cases n <;> rfl
def eqL : List ByteArray → List ByteArray → Bool
  | [], [] => true
  | a :: l, b :: m => (decide (a = plusS) || decide (a = b)) && eqL l m
  | _, _ => false
def allR (f : List ByteArray) : Bool := decide (f[f.length - 1]? = some hashS)
def cutR (f : List ByteArray) : List ByteArray := if allR f = true then f.take (f.length - 1) else f
def matchP (f n : List ByteArray) : Bool :=
  if n.length < (cutR f).length ∨ (allR f = false ∧ (cutR f).length < n.length) then false else eqL (cutR f) (n.take (cutR f).length)
theorem allR_cons (x y : ByteArray) (r : List ByteArray) : allR (x :: y :: r) = allR (y :: r) := by
  unfold allR
  simp
theorem cutR_cons (x y : ByteArray) (r : List ByteArray) : cutR (x :: y :: r) = x :: cutR (y :: r) := by
  unfold cutR
  rw [allR_cons]
  split
  · simp
  · rfl
theorem match_prog : ∀ (f n : List ByteArray), f ≠ [] → filtG f = true → matchL f n = matchP f n
  | [], _, h, _ => absurd rfl h
  | [x], n, _, hf => by
    rw [matchL_cons]
    unfold matchP
    by_cases hx : x = hashS
    · have ha : allR [x] = true := by simp [allR, hx]
      have hc : cutR [x] = [] := by simp [cutR, ha]
      rw [if_pos hx, ha, hc]
      simp [eqL]
    · have ha : allR [x] = false := by simp [allR, hx]
      have hc : cutR [x] = [x] := by simp [cutR, ha]
      rw [if_neg hx, ha, hc]
      match n with
      | [] => simp
      | [m] =>
        by_cases h1 : x = plusS
        · simp [eqL, matchL, h1]
        · by_cases h2 : x = m <;> simp [eqL, matchL, h1, h2]
      | m :: m' :: ns =>
        by_cases h1 : x = plusS
        · simp [matchL, h1]
        · by_cases h2 : x = m <;> simp [matchL, h1, h2]
  | x :: y :: r, n, _, hf => by
    have hfr : filtG (y :: r) = true := by
      rw [filtG, Bool.and_eq_true] at hf
      exact hf.2
    have hx : x ≠ hashS := fun h => by
      subst h
      rw [filtG_cons] at hf
      have : levBad hashS (y :: r).isEmpty = true := rfl
      rw [this] at hf
      simp at hf
    have ih := fun ns => match_prog (y :: r) ns (by simp) hfr
    rw [matchL_cons, if_neg hx]
    unfold matchP at ih ⊢
    rw [allR_cons, cutR_cons]
    match n with
    | [] => simp
    | m :: ns =>
      have ih := ih ns
      simp only [List.length_cons, Nat.add_lt_add_iff_right, List.take_succ_cons]
      by_cases hc : x ≠ plusS ∧ x ≠ m
      · rw [if_pos hc]
        split
        · rfl
        · simp [eqL, hc.1, hc.2]
      · rw [if_neg hc, ih]
        have hd : (decide (x = plusS) || decide (x = m)) = true := by
          by_cases h1 : x = plusS
          · simp [h1]
          · by_cases h2 : x = m
            · simp [h2]
            · exact absurd ⟨h1, h2⟩ hc
        split
        · rfl
        · simp only [eqL, hd, Bool.true_and]
def dollarB (filter name : ByteArray) : Bool := decide (name.get! 0 = 36) && (decide (filter.get! 0 = 43) || decide (filter.get! 0 = 35))
def matchB (filter name : ByteArray) : Bool := filterOK filter && nameOK name && !dollarB filter name && matchL (levels filter) (levels name)
theorem first_one {s : ByteArray} (h : s.size ≠ 0) (c : UInt8) : s.extract 0 1 = ByteArray.mk #[c] ↔ s.get! 0 = c := by
  obtain ⟨⟨l⟩⟩ := s
  match l with
  | [] => exact absurd rfl h
  | b :: l =>
    have e1 : (ByteArray.mk (List.toArray (b :: l))).get! 0 = b := rfl
    rw [e1]
    constructor
    · intro he
      have := congrArg (fun x : ByteArray => x.data.toList) he
      simp at this
      exact this
    · rintro rfl
      refine data_inj ?_
      simp
end Go.Proofs.YtfhalebbcbgbdaaGreatDoor
namespace Go.Proofs.YtfhalebbcbgbdaaGreatDoor
set_option linter.unusedSimpArgs false
set_option linter.unusedVariables false
open Go.Proofs Go.Shelf
def countL_ren : Go.Shelf.Ren := ⟨fun n => match n with | 138 => 150 | 195 => 187 | 218 => 189 | 143 => 151 | 219 => 190 | 217 => 213 | 225 => 214 | 224 => 215 | 267 => 216 | 266 => 224 | 314 => 225 | n => n, fun n => match n with | 9 => 9 | 3 => 3 | 4 => 4 | 5 => 5 | 0 => 0 | 46 => 204 | 146 => 312 | 51 => 275 | n => n, fun n => match n with | 1 => 3 | n => n⟩
theorem countL : Lays.n138 Tryz.prog countL_ren where
  mixed := by kernel_rfl
  f138 := Tryz.func150.trans (congrArg some (by kernel_rfl))
  f143 := Tryz.func151.trans (congrArg some (by kernel_rfl))
  f195 := Tryz.func187.trans (congrArg some (by kernel_rfl))
  f217 := Tryz.func213.trans (congrArg some (by kernel_rfl))
  f218 := Tryz.func189.trans (congrArg some (by kernel_rfl))
  f219 := Tryz.func190.trans (congrArg some (by kernel_rfl))
  f224 := Tryz.func215.trans (congrArg some (by kernel_rfl))
  f225 := Tryz.func214.trans (congrArg some (by kernel_rfl))
  f266 := Tryz.func224.trans (congrArg some (by kernel_rfl))
  f267 := Tryz.func216.trans (congrArg some (by kernel_rfl))
  f314 := Tryz.func225.trans (congrArg some (by kernel_rfl))
  t0 := Tryz.underlying0
  a0 := Tryz.isAgg0
  z0 := Tryz.sizeOf0
  v0 := Tryz.zeroValue0
  t3 := Tryz.underlying3
  a3 := Tryz.isAgg3
  z3 := Tryz.sizeOf3
  v3 := Tryz.zeroValue3
  t4 := Tryz.underlying4
  a4 := Tryz.isAgg4
  z4 := Tryz.sizeOf4
  v4 := Tryz.zeroValue4
  t5 := Tryz.underlying5
  a5 := Tryz.isAgg5
  z5 := Tryz.sizeOf5
  v5 := Tryz.zeroValue5
  t9 := Tryz.underlying9
  a9 := Tryz.isAgg9
  z9 := Tryz.sizeOf9
  v9 := Tryz.zeroValue9
  t46 := Tryz.underlying204
  a46 := Tryz.isAgg204
  z46 := Tryz.sizeOf204
  v46 := Tryz.zeroValue204
  t51 := Tryz.underlying275
  a51 := Tryz.isAgg275
  z51 := Tryz.sizeOf275
  v51 := Tryz.zeroValue275
  t146 := Tryz.underlying312
  a146 := Tryz.isAgg312
  z146 := Tryz.sizeOf312
  v146 := Tryz.zeroValue312
  g1 := by kernel_rfl
def contL_ren : Go.Shelf.Ren := ⟨fun n => match n with | 144 => 109 | 143 => 151 | 219 => 190 | 217 => 213 | 225 => 214 | 224 => 215 | 267 => 216 | 266 => 224 | 314 => 225 | n => n, fun n => match n with | 9 => 9 | 4 => 4 | 3 => 3 | 5 => 5 | 46 => 204 | 146 => 312 | 51 => 275 | n => n, fun n => match n with | 1 => 3 | n => n⟩
theorem contL : Lays.n144 Tryz.prog contL_ren where
  mixed := by kernel_rfl
  f143 := Tryz.func151.trans (congrArg some (by kernel_rfl))
  f144 := Tryz.func109.trans (congrArg some (by kernel_rfl))
  f217 := Tryz.func213.trans (congrArg some (by kernel_rfl))
  f219 := Tryz.func190.trans (congrArg some (by kernel_rfl))
  f224 := Tryz.func215.trans (congrArg some (by kernel_rfl))
  f225 := Tryz.func214.trans (congrArg some (by kernel_rfl))
  f266 := Tryz.func224.trans (congrArg some (by kernel_rfl))
  f267 := Tryz.func216.trans (congrArg some (by kernel_rfl))
  f314 := Tryz.func225.trans (congrArg some (by kernel_rfl))
  t3 := Tryz.underlying3
  a3 := Tryz.isAgg3
  z3 := Tryz.sizeOf3
  v3 := Tryz.zeroValue3
  t4 := Tryz.underlying4
  a4 := Tryz.isAgg4
  z4 := Tryz.sizeOf4
  v4 := Tryz.zeroValue4
  t5 := Tryz.underlying5
  a5 := Tryz.isAgg5
  z5 := Tryz.sizeOf5
  v5 := Tryz.zeroValue5
  t9 := Tryz.underlying9
  a9 := Tryz.isAgg9
  z9 := Tryz.sizeOf9
  v9 := Tryz.zeroValue9
  t46 := Tryz.underlying204
  a46 := Tryz.isAgg204
  z46 := Tryz.sizeOf204
  v46 := Tryz.zeroValue204
  t51 := Tryz.underlying275
  a51 := Tryz.isAgg275
  z51 := Tryz.sizeOf275
  v51 := Tryz.zeroValue275
  t146 := Tryz.underlying312
  a146 := Tryz.isAgg312
  z146 := Tryz.sizeOf312
  v146 := Tryz.zeroValue312
  g1 := by kernel_rfl
def splitS_ren : Go.Shelf.Ren := ⟨fun n => match n with | 146 => 61 | 221 => 103 | 268 => 149 | 138 => 150 | 143 => 151 | 195 => 187 | 197 => 188 | 218 => 189 | 219 => 190 | 260 => 212 | 217 => 213 | 225 => 214 | 224 => 215 | 267 => 216 | 266 => 224 | 314 => 225 | n => n, fun n => match n with | 9 => 9 | 31 => 32 | 3 => 3 | 4 => 4 | 0 => 0 | 105 => 278 | 21 => 21 | 5 => 5 | 46 => 204 | 119 => 308 | 139 => 311 | 138 => 310 | 146 => 312 | 51 => 275 | n => n, fun n => match n with | 1 => 3 | 3 => 6 | 4 => 7 | n => n⟩
theorem splitS : Lays.n146 Tryz.prog splitS_ren where
  mixed := by kernel_rfl
  f138 := Tryz.func150.trans (congrArg some (by kernel_rfl))
  f143 := Tryz.func151.trans (congrArg some (by kernel_rfl))
  f146 := Tryz.func61.trans (congrArg some (by kernel_rfl))
  f195 := Tryz.func187.trans (congrArg some (by kernel_rfl))
  f197 := Tryz.func188.trans (congrArg some (by kernel_rfl))
  f217 := Tryz.func213.trans (congrArg some (by kernel_rfl))
  f218 := Tryz.func189.trans (congrArg some (by kernel_rfl))
  f219 := Tryz.func190.trans (congrArg some (by kernel_rfl))
  f221 := Tryz.func103.trans (congrArg some (by kernel_rfl))
  f224 := Tryz.func215.trans (congrArg some (by kernel_rfl))
  f225 := Tryz.func214.trans (congrArg some (by kernel_rfl))
  f260 := Tryz.func212.trans (congrArg some (by kernel_rfl))
  f266 := Tryz.func224.trans (congrArg some (by kernel_rfl))
  f267 := Tryz.func216.trans (congrArg some (by kernel_rfl))
  f268 := Tryz.func149.trans (congrArg some (by kernel_rfl))
  f314 := Tryz.func225.trans (congrArg some (by kernel_rfl))
  t0 := Tryz.underlying0
  a0 := Tryz.isAgg0
  z0 := Tryz.sizeOf0
  v0 := Tryz.zeroValue0
  t3 := Tryz.underlying3
  a3 := Tryz.isAgg3
  z3 := Tryz.sizeOf3
  v3 := Tryz.zeroValue3
  t4 := Tryz.underlying4
  a4 := Tryz.isAgg4
  z4 := Tryz.sizeOf4
  v4 := Tryz.zeroValue4
  t5 := Tryz.underlying5
  a5 := Tryz.isAgg5
  z5 := Tryz.sizeOf5
  v5 := Tryz.zeroValue5
  t9 := Tryz.underlying9
  a9 := Tryz.isAgg9
  z9 := Tryz.sizeOf9
  v9 := Tryz.zeroValue9
  t21 := Tryz.underlying21
  a21 := Tryz.isAgg21
  z21 := Tryz.sizeOf21
  v21 := Tryz.zeroValue21
  t31 := Tryz.underlying32
  a31 := Tryz.isAgg32
  z31 := Tryz.sizeOf32
  v31 := Tryz.zeroValue32
  t46 := Tryz.underlying204
  a46 := Tryz.isAgg204
  z46 := Tryz.sizeOf204
  v46 := Tryz.zeroValue204
  t51 := Tryz.underlying275
  a51 := Tryz.isAgg275
  z51 := Tryz.sizeOf275
  v51 := Tryz.zeroValue275
  t105 := Tryz.underlying278
  a105 := Tryz.isAgg278
  z105 := Tryz.sizeOf278
  v105 := Tryz.zeroValue278
  t119 := Tryz.underlying308
  a119 := Tryz.isAgg308
  z119 := Tryz.sizeOf308
  t138 := Tryz.underlying310
  a138 := Tryz.isAgg310
  z138 := Tryz.sizeOf310
  v138 := Tryz.zeroValue310
  t139 := Tryz.underlying311
  a139 := Tryz.isAgg311
  z139 := Tryz.sizeOf311
  v139 := Tryz.zeroValue311
  t146 := Tryz.underlying312
  a146 := Tryz.isAgg312
  z146 := Tryz.sizeOf312
  v146 := Tryz.zeroValue312
  g1 := by kernel_rfl
  g3 := by kernel_rfl
  g4 := by kernel_rfl
end Go.Proofs.YtfhalebbcbgbdaaGreatDoor
namespace Go.H
set_option linter.unusedSimpArgs false
set_option linter.unusedVariables false
open Go.RowKit Go.Maps Go.Sort Go.Shelf Go.Proofs
theorem below_grow {w w' : World} (hb : Below w.heap.size w w') : ∀ (k : Nat) o, w.heap[k]? = some o → w'.heap[k]? = some o := fun k o ho => by
  have hk := (Array.getElem?_eq_some_iff.1 ho).1
  rw [hb.block k hk]; exact ho
theorem below_same {B : Nat} {w w' : World} (hb : Below B w w') : Same w w' := ⟨hb.os, hb.tape, hb.output⟩
abbrev eI (x : Int) : List Value := [.int .i64 x]
section
variable {P : Program} {ρk ρs ρt : Ren} {V : Type} {ev : V → Value} {h : Heap} {R : List Asn}
end
end Go.H
namespace Go.H
set_option linter.unusedSimpArgs false
set_option linter.unusedVariables false
open Go.RowKit Go.Maps Go.Sort Go.Shelf Go.Proofs
abbrev eS (x : ByteArray) : List Value := [.string x]
section
variable {P : Program} {ρk ρs ρt : Ren} {V : Type} {ev : V → Value} {h : Heap} {R : List Asn}
end
end Go.H
namespace Go.Proofs.YtfhalebbcbgbdaaGreatDoor
open Go.H Go.Proofs Go.Lib
set_option linter.unusedSimpArgs false
set_option linter.unusedVariables false
set_option synthInstance.maxSize 100000
set_option synthInstance.maxHeartbeats 400000
structure TP (h0 : Heap) : Prop where
  u8 : U8 h0
  maxl : ∃ m, cellH h0 ⟨3, 0, none⟩ = some (.int .i64 m)
theorem eS_len : ∀ x : ByteArray, (eS x).length = 1 := fun _ => rfl
variable {h h0 : Heap} {R : List Asn}
theorem own_full {b : Nat} {xs : List ByteArray} (hs : sat h (cells b (xs.map Value.string).toArray :: R)) : sat h (ownS eS 1 ⟨some ⟨b, 0, none⟩, xs.length, xs.length⟩ xs :: R) := by
  refine ownS_mk (o := 0) ⟨rfl, Nat.le_refl _, rfl, by simp, ?_⟩ hs
  simp only [Nat.zero_mul, List.drop_zero, Nat.mul_one, List.toList_toArray]
  rw [List.take_of_length_le (by simp)]
  induction xs with
  | nil => rfl
  | cons x xs ih =>
    rw [List.map_cons, List.flatMap_cons]
    have : ∀ xs : List ByteArray, xs.map Value.string = xs.flatMap eS := fun xs => by
      induction xs with
      | nil => rfl
      | cons y ys ih => rw [List.map_cons, List.flatMap_cons, ih]; rfl
    rw [this xs]
    rfl
theorem Count_spec {s : ByteArray} {Q : Value → Heap → Prop} (hq : Q (.int .i64 ((s.data.toList.count 47 : Nat) : Int)) h) :
    HCalls Tryz.prog 150 #[.string s, .string (ByteArray.mk #[47])] h Q := fun w hw => by
  subst hw
  refine (Any.strings_Count_one countL s 47 w).mono ?_
  rintro e w' ⟨rfl, rfl⟩
  exact ⟨_, rfl, ⟨rfl, rfl, rfl⟩, hq⟩
theorem Contains_spec {s : ByteArray} {c : UInt8} {Q : Value → Heap → Prop} (hq : Q (.bool (hasB c s)) h) :
    HCalls Tryz.prog 109 #[.string s, .string (ByteArray.mk #[c])] h Q := fun w hw => by
  subst hw
  refine (Any.strings_Contains_one contL s c w).mono ?_
  rintro e w' ⟨rfl, rfl⟩
  rw [has_index]
  exact ⟨_, rfl, ⟨rfl, rfl, rfl⟩, hq⟩
theorem Levels_spec (hs : sat h (old h0 :: R)) (ht : TP h0) {s : ByteArray} (hsz : s.size ≤ 256) {Q : Value → Heap → Prop}
    (hq : ∀ (sl : Slc) h', sat h' (ownS eS 1 sl (levels s) :: old h0 :: R) → Q (.slice sl.a sl.len sl.cap) h') :
    HCalls Tryz.prog 108 #[.string s] h Q := by
  refine topic_Levels_calls s h Q ?_
  unfold topic_Levels
  refine bind_call1 (fun w hw => ?_)
  subst hw
  obtain ⟨m, hm⟩ := ht.maxl
  refine (Any.strings_Split splitS (by kernel_rfl) s (ByteArray.mk #[47]) m w (by omega) (hs.old_cell hm) (by decide)).mono ?_
  rintro e w' ⟨rfl, rfl⟩
  have hl : (levels s).length = countB s slash + 1 := splitB_all slash (by decide) 0 _ s rfl
  have := hq ⟨some ⟨w.heap.size, 0, none⟩, (levels s).length, (levels s).length⟩ _ (own_full (hs.push_cells (T := splitS_ren.t 9)))
  rw [hl] at this
  exact ⟨_, rfl, ⟨rfl, rfl, rfl⟩, ⟨some ⟨w.heap.size, 0, none⟩, countB s slash + 1, countB s slash + 1⟩, rfl, this⟩
theorem sized_spec (hs : sat h (old h0 :: R)) (ht : TP h0) {s : ByteArray} (hsz : s.size ≤ 9223372036854775807) {Q : Value → Heap → Prop}
    (hq : ∀ h', sat h' (old h0 :: R) → Q (.bool (sizedT s)) h') : HCalls Tryz.prog 107 #[.string s] h Q := by
  refine topic_sized_calls s h Q ?_
  unfold topic_sized
  refine bind_callN (Fault_spec hs ht.u8 s (by omega) fun h1 hs1 => ⟨(match faultOf s with | some n => ((n : Int), true, ()) | none => (0, false, ())), by cases faultOf s <;> rfl, ?_⟩)
  refine bind_cut (fun x h' => h' = h1 ∧ x.1 = sizedT s) ?_ ?_
  · (try dsimp only); rw [HM.ite_apply]
    cases hf : faultOf s with
    | some n =>
      rw [if_neg (by simp)]
      exact ⟨rfl, by simp [sizedT, hf]⟩
    | none =>
      rw [if_pos (by rfl), HM.ite_apply]
      have he : s = ByteArray.mk #[] ↔ s.size = 0 := by
        constructor
        · rintro rfl; rfl
        · intro h0
          refine data_inj ?_
          have : s.data.toList.length = 0 := by rw [Array.length_toList]; exact h0
          rw [List.length_eq_zero_iff.1 this]
      by_cases h0 : s.size = 0
      · rw [if_neg (by simp [he.2 h0])]
        exact ⟨rfl, by simp [sizedT, h0]⟩
      rw [if_pos (by simpa using fun e => h0 (he.1 e)), HM.ite_apply]
      by_cases h1 : s.size ≤ 256
      · rw [if_pos (by simp only [decide_eq_true_eq]; omega)]
        refine bind_call1 (Count_spec ⟨_, rfl, ?_⟩)
        refine ⟨rfl, ?_⟩
        have e : sizedT s = decide ((levels s).length ≤ 32) := by simp [sizedT, hf, h0, h1]
        rw [e, levels_len]
        simp only [decide_eq_decide]
        omega
      · rw [if_neg (by simp only [decide_eq_true_eq]; omega)]
        exact ⟨rfl, by simp [sizedT, h1]⟩
  rintro ⟨x, ⟨⟩⟩ h2 ⟨rfl, rfl⟩
  exact hq _ hs1
def nameC (s : ByteArray) : Int := if nameOK s = true then 0 else 144
def filtC (s : ByteArray) : Int := if filterOK s = true then 0 else 143
theorem CheckName_spec (hs : sat h (old h0 :: R)) (ht : TP h0) {s : ByteArray} (hsz : s.size ≤ 9223372036854775807) {Q : Value → Heap → Prop}
    (hq : ∀ h', sat h' (old h0 :: R) → Q (.int .u8 (nameC s)) h') : HCalls Tryz.prog 110 #[.string s] h Q := by
  refine topic_CheckName_calls s h Q ?_
  unfold topic_CheckName
  refine bind_cut (fun x h' => sat h' (old h0 :: R) ∧ x.1 = !nameOK s) ?_ ?_
  · refine bind_call1 (sized_spec hs ht hsz fun h1 hs1 => ⟨_, rfl, ?_⟩)
    (try dsimp only); rw [HM.ite_apply]
    cases hz : sizedT s with
    | false =>
      rw [if_pos (by rfl)]
      exact ⟨hs1, by simp [nameOK, hz]⟩
    | true =>
      rw [if_neg (by simp)]
      refine bind_call1 (Contains_spec (c := 43) ⟨_, rfl, ?_⟩)
      (try dsimp only); rw [HM.ite_apply]
      cases h43 : hasB 43 s with
      | true =>
        rw [if_pos rfl]
        exact ⟨hs1, by simp [nameOK, hz, h43]⟩
      | false =>
        rw [if_neg (by simp)]
        refine bind_call1 (Contains_spec (c := 35) ⟨_, rfl, ?_⟩)
        exact ⟨hs1, by simp [nameOK, hz, h43]⟩
  rintro ⟨x, ⟨⟩⟩ h1 ⟨hs1, hx⟩
  simp only at hx
  subst hx
  have := hq _ hs1
  unfold nameC at this
  (try dsimp only); rw [HM.ite_apply]
  cases hn : nameOK s with
  | true => rw [hn, if_pos rfl] at this; rw [if_neg (by simp)]; exact this
  | false => rw [hn, if_neg (by simp)] at this; rw [if_pos (by rfl)]; exact this
theorem filtG_at {l : List ByteArray} {i : Nat} {x : ByteArray} (hx : l[i]? = some x) : l.drop i = x :: l.drop (i + 1) := by
  obtain ⟨hi, rfl⟩ := List.getElem?_eq_some_iff.1 hx
  exact List.drop_eq_getElem_cons hi
set_option maxRecDepth 100000 in
theorem CheckFilter_spec (hs : sat h (old h0 :: R)) (ht : TP h0) {s : ByteArray} (hsz : s.size ≤ 9223372036854775807) {Q : Value → Heap → Prop}
    (hq : ∀ h', sat h' (old h0 :: R) → Q (.int .u8 (filtC s)) h') : HCalls Tryz.prog 65 #[.string s] h Q := by
  refine topic_CheckFilter_calls s h Q ?_
  unfold topic_CheckFilter
  refine bind_call1 (sized_spec hs ht hsz fun h1 hs1 => ⟨_, rfl, ?_⟩)
  (try dsimp only); rw [HM.ite_apply]
  unfold filtC filterOK at hq
  cases hz : sizedT s with
  | false =>
    rw [hz] at hq
    rw [if_pos (by rfl)]
    exact hq _ hs1
  | true =>
  rw [hz, Bool.true_and] at hq
  rw [if_neg (by simp)]
  have hle := sizedT_le hz
  refine bind_call1 (Levels_spec hs1 ht hle fun sl h2 hs2 => ⟨sl, rfl, ?_⟩)
  have hlen := hs2.own_len
  have hrow := hs2.own_row eS_len
  have hn : (levels s).length ≤ 32 := (sizedT_iff.1 hz).2.2.2
  generalize levels s = l at hlen hrow hn hq
  have hs3 := hs2.drop
  clear hs2
  (try dsimp only); rw [HM.bind_apply]
  refine loop_gx (γ := Nat) (fun g c h' => h' = h2 ∧ c.1 = (((l.length - g : Nat)) : Int) ∧ g ≤ l.length ∧ filtG l = filtG (l.drop (l.length - g))) (fun g => g) l.length ⟨rfl, by simp, Nat.le_refl _, by simp⟩ ?_
  rintro g ⟨c, ⟨⟩⟩ h' ⟨rfl, hc, hg, hf⟩
  simp only at hc
  subst hc
  (try dsimp only); rw [HM.ite_apply]
  by_cases hlt : l.length - g < l.length
  · rw [if_pos (by simp only [decide_eq_true_eq, hlen]; omega)]
    obtain ⟨x, hx⟩ : ∃ x, l[l.length - g]? = some x := ⟨_, List.getElem?_eq_getElem hlt⟩
    have hd := filtG_at hx
    rw [hd] at hf
    (try dsimp only); rw [HM.bind_apply]
    refine idx_row hrow hx fun a ha => ?_
    refine ⟨x, by have := ha 0 (.string x) rfl; rwa [Go.H.add_zero] at this, ?_⟩
    simp only [filtG] at hf
    have hrest : (l.drop (l.length - g + 1)).isEmpty = decide (l.length - g + 1 = l.length) := by
      by_cases he : l.length - g + 1 = l.length
      · rw [he]; simp
      · have : l.drop (l.length - g + 1) ≠ [] := by simp; omega
        cases hh : l.drop (l.length - g + 1) with
        | nil => exact absurd hh this
        | cons => simp [he]
    rw [hrest] at hf
    have hw : IntKind.wrap .i64 ((sl.len : Int) - 1) = (l.length : Int) - 1 := by rw [hlen]; exact wrap_id (by omega) (by omega)
    have hw2 : IntKind.wrap .i64 (((l.length - g : Nat) : Int) + 1) = ((l.length - (g - 1) : Nat) : Int) := by rw [wrap_id (by omega) (by omega)]; omega
    have hnext : l.length - g + 1 = l.length - (g - 1) := by omega
    rw [hnext] at hf
    rw [hw, hw2]
    by_cases h35 : hasB 35 x = true
    · rw [if_pos h35] at hf
      by_cases hlast : l.length - (g - 1) = l.length
      · by_cases h1 : x.size ≤ 1
        · rw [decide_eq_true hlast, decide_eq_true h1, Bool.true_and, Bool.true_and] at hf
          refine bind_cut (fun z h'' => h'' = h' ∧ z = .inl ()) ?_ ?_
          · refine bind_cut (fun z h'' => h'' = h' ∧ z = .inl ()) ?_ ?_
            · refine bind_cut (fun z h'' => h'' = h' ∧ z = .inl ()) ?_ ?_
              · refine bind_call1 (Contains_spec (c := 35) ⟨_, rfl, ?_⟩)
                (try dsimp only); rw [HM.ite_apply, if_pos h35]
                exact ⟨rfl, rfl⟩
              rintro z h'' ⟨rfl, rfl⟩
              simp only [Sum.elim_inl]
              (try dsimp only); rw [HM.ite_apply, if_neg (by simp only [decide_eq_true_eq]; omega)]
              exact ⟨rfl, rfl⟩
            rintro z h'' ⟨rfl, rfl⟩
            simp only [Sum.elim_inl]
            (try dsimp only); rw [HM.ite_apply, if_neg (by simp only [decide_eq_true_eq]; omega)]
            exact ⟨rfl, rfl⟩
          rintro z h'' ⟨rfl, rfl⟩
          simp only [Sum.elim_inl, Sum.elim_inr, HM.pure_apply]
          exact .mk (g - 1) (by omega) ⟨rfl, rfl, by omega, hf⟩
        · rw [decide_eq_false h1, Bool.and_false, Bool.false_and] at hf
          rw [hf, if_neg (by simp)] at hq
          refine bind_cut (fun z h'' => h'' = h' ∧ z = .inr (.inr (.inr (143, ())))) ?_ ?_
          · refine bind_cut (fun z h'' => h'' = h' ∧ z = .inl ()) ?_ ?_
            · refine bind_cut (fun z h'' => h'' = h' ∧ z = .inl ()) ?_ ?_
              · refine bind_call1 (Contains_spec (c := 35) ⟨_, rfl, ?_⟩)
                (try dsimp only); rw [HM.ite_apply, if_pos h35]
                exact ⟨rfl, rfl⟩
              rintro z h'' ⟨rfl, rfl⟩
              simp only [Sum.elim_inl]
              (try dsimp only); rw [HM.ite_apply, if_neg (by simp only [decide_eq_true_eq]; omega)]
              exact ⟨rfl, rfl⟩
            rintro z h'' ⟨rfl, rfl⟩
            simp only [Sum.elim_inl]
            (try dsimp only); rw [HM.ite_apply, if_pos (by simp only [decide_eq_true_eq]; omega)]
            exact ⟨rfl, rfl⟩
          rintro z h'' ⟨rfl, rfl⟩
          simp only [Sum.elim_inl, Sum.elim_inr, HM.pure_apply]
          exact hq _ hs3
      · rw [decide_eq_false hlast, Bool.false_and, Bool.false_and] at hf
        rw [hf, if_neg (by simp)] at hq
        refine bind_cut (fun z h'' => h'' = h' ∧ z = .inr (.inr (.inr (143, ())))) ?_ ?_
        · refine bind_cut (fun z h'' => h'' = h' ∧ z = .inr (.inr (.inr (.inr (143, ()))))) ?_ ?_
          · refine bind_cut (fun z h'' => h'' = h' ∧ z = .inl ()) ?_ ?_
            · refine bind_call1 (Contains_spec (c := 35) ⟨_, rfl, ?_⟩)
              (try dsimp only); rw [HM.ite_apply, if_pos h35]
              exact ⟨rfl, rfl⟩
            rintro z h'' ⟨rfl, rfl⟩
            simp only [Sum.elim_inl]
            (try dsimp only); rw [HM.ite_apply, if_pos (by simp only [decide_eq_true_eq]; omega)]
            exact ⟨rfl, rfl⟩
          rintro z h'' ⟨rfl, rfl⟩
          exact ⟨rfl, rfl⟩
        rintro z h'' ⟨rfl, rfl⟩
        simp only [Sum.elim_inl, Sum.elim_inr, HM.pure_apply]
        exact hq _ hs3
    · rw [if_neg h35] at hf
      by_cases h43 : hasB 43 x = true
      · by_cases h1 : x.size ≤ 1
        · rw [h43, decide_eq_true h1, Bool.or_true, Bool.true_and] at hf
          refine bind_cut (fun z h'' => h'' = h' ∧ z = .inl ()) ?_ ?_
          · refine bind_cut (fun z h'' => h'' = h' ∧ z = .inl ()) ?_ ?_
            · refine bind_cut (fun z h'' => h'' = h' ∧ z = .inr (.inl ())) ?_ ?_
              · refine bind_call1 (Contains_spec (c := 35) ⟨_, rfl, ?_⟩)
                (try dsimp only); rw [HM.ite_apply, if_neg h35]
                refine bind_call1 (Contains_spec (c := 43) ⟨_, rfl, ?_⟩)
                (try dsimp only); rw [HM.ite_apply, if_pos h43]
                exact ⟨rfl, rfl⟩
              rintro z h'' ⟨rfl, rfl⟩
              exact ⟨rfl, rfl⟩
            rintro z h'' ⟨rfl, rfl⟩
            simp only [Sum.elim_inl]
            (try dsimp only); rw [HM.ite_apply, if_neg (by simp only [decide_eq_true_eq]; omega)]
            exact ⟨rfl, rfl⟩
          rintro z h'' ⟨rfl, rfl⟩
          simp only [Sum.elim_inl, Sum.elim_inr, HM.pure_apply]
          exact .mk (g - 1) (by omega) ⟨rfl, rfl, by omega, hf⟩
        · rw [h43, decide_eq_false h1, Bool.or_false, Bool.not_true, Bool.false_and] at hf
          rw [hf, if_neg (by simp)] at hq
          refine bind_cut (fun z h'' => h'' = h' ∧ z = .inr (.inr (.inr (143, ())))) ?_ ?_
          · refine bind_cut (fun z h'' => h'' = h' ∧ z = .inl ()) ?_ ?_
            · refine bind_cut (fun z h'' => h'' = h' ∧ z = .inr (.inl ())) ?_ ?_
              · refine bind_call1 (Contains_spec (c := 35) ⟨_, rfl, ?_⟩)
                (try dsimp only); rw [HM.ite_apply, if_neg h35]
                refine bind_call1 (Contains_spec (c := 43) ⟨_, rfl, ?_⟩)
                (try dsimp only); rw [HM.ite_apply, if_pos h43]
                exact ⟨rfl, rfl⟩
              rintro z h'' ⟨rfl, rfl⟩
              exact ⟨rfl, rfl⟩
            rintro z h'' ⟨rfl, rfl⟩
            simp only [Sum.elim_inl]
            (try dsimp only); rw [HM.ite_apply, if_pos (by simp only [decide_eq_true_eq]; omega)]
            exact ⟨rfl, rfl⟩
          rintro z h'' ⟨rfl, rfl⟩
          simp only [Sum.elim_inl, Sum.elim_inr, HM.pure_apply]
          exact hq _ hs3
      · simp only [Bool.not_eq_true] at h43
        rw [h43, Bool.not_false, Bool.true_or, Bool.true_and] at hf
        refine bind_cut (fun z h'' => h'' = h' ∧ z = .inl ()) ?_ ?_
        · refine bind_cut (fun z h'' => h'' = h' ∧ z = .inr (.inl ())) ?_ ?_
          · refine bind_cut (fun z h'' => h'' = h' ∧ z = .inr (.inr (.inl ()))) ?_ ?_
            · refine bind_call1 (Contains_spec (c := 35) ⟨_, rfl, ?_⟩)
              (try dsimp only); rw [HM.ite_apply, if_neg h35]
              refine bind_call1 (Contains_spec (c := 43) ⟨_, rfl, ?_⟩)
              (try dsimp only); rw [HM.ite_apply, if_neg (by rw [h43]; simp)]
              exact ⟨rfl, rfl⟩
            rintro z h'' ⟨rfl, rfl⟩
            exact ⟨rfl, rfl⟩
          rintro z h'' ⟨rfl, rfl⟩
          exact ⟨rfl, rfl⟩
        rintro z h'' ⟨rfl, rfl⟩
        simp only [Sum.elim_inl, Sum.elim_inr, HM.pure_apply]
        exact .mk (g - 1) (by omega) ⟨rfl, rfl, by omega, hf⟩
  · rw [if_neg (by simp only [decide_eq_true_eq, hlen]; omega)]
    simp only [Sum.elim_inl, Sum.elim_inr, HM.pure_apply]
    have : l.drop (l.length - g) = [] := by simp; omega
    rw [this] at hf
    rw [hf] at hq
    exact hq _ hs3
end Go.Proofs.YtfhalebbcbgbdaaGreatDoor
namespace Go.Proofs.YtfhalebbcbgbdaaGreatDoor
open Go.H Go.Proofs Go.Lib
set_option linter.unusedSimpArgs false
set_option linter.unusedVariables false
set_option synthInstance.maxSize 100000
set_option synthInstance.maxHeartbeats 400000
variable {h h0 : Heap} {R : List Asn}
theorem EqualFunc_spec {s t : Slc} {xs ys : List ByteArray} (hr : RowAt eS 1 h s xs) (ht : RowAt eS 1 h t ys) (hl : xs.length ≤ 1000000) {Q : Value → Heap → Prop} (hq : Q (.bool (eqL xs ys)) h) :
    HCalls Tryz.prog 178 #[.slice s.a s.len s.cap, .slice t.a t.len t.cap, .func (.func 179) #[] #[]] h Q := by
  refine slices_EqualFunc_calls s t _ h Q ?_
  unfold slices_EqualFunc
  have hls := hr.1
  have hlt := ht.1
  (try dsimp only); rw [HM.ite_apply]
  by_cases hne : xs.length = ys.length
  · rw [if_neg (by simp [hls, hlt, hne])]
    (try dsimp only); rw [HM.bind_apply]
    refine loop_gx (γ := Nat) (fun g c h' => h' = h ∧ c.1 = (((xs.length - g : Nat)) : Int) ∧ g ≤ xs.length ∧ eqL xs ys = eqL (xs.drop (xs.length - g)) (ys.drop (xs.length - g))) (fun g => g) xs.length ⟨rfl, by simp, Nat.le_refl _, by simp⟩ ?_
    rintro g ⟨c, ⟨⟩⟩ h' ⟨rfl, hc, hg, hf⟩
    simp only at hc
    subst hc
    (try dsimp only); rw [HM.ite_apply]
    by_cases hi : xs.length - g < xs.length
    · rw [if_pos (by simp only [decide_eq_true_eq, hls]; omega)]
      obtain ⟨x, hx⟩ : ∃ x, xs[xs.length - g]? = some x := ⟨_, List.getElem?_eq_getElem hi⟩
      obtain ⟨y, hy⟩ : ∃ y, ys[xs.length - g]? = some y := ⟨_, List.getElem?_eq_getElem (by omega)⟩
      rw [filtG_at hx, filtG_at hy] at hf
      (try dsimp only); rw [HM.bind_apply]
      refine idx_row hr hx fun a ha => ?_
      refine ⟨x, by have := ha 0 (.string x) rfl; rwa [Go.H.add_zero] at this, ?_⟩
      (try dsimp only); rw [HM.bind_apply]
      refine idx_row ht hy fun a' ha' => ?_
      refine ⟨y, by have := ha' 0 (.string y) rfl; rwa [Go.H.add_zero] at this, ?_⟩
      refine ⟨179, #[], #[], rfl, Tryz.call179, ?_⟩
      refine topic_Match_f1_calls x y h' _ ?_
      unfold topic_Match_f1
      have fin : ∀ z : Bool, z = (decide (x = plusS) || decide (x = y)) → (if (!z) = true then Q (.bool false) h' else Go.H.Next (fun g (c : Int × Unit) h'' => h'' = h' ∧ c.1 = (((xs.length - g : Nat)) : Int) ∧ g ≤ xs.length ∧ eqL xs ys = eqL (xs.drop (xs.length - g)) (ys.drop (xs.length - g))) (fun g => g) g (IntKind.wrap .i64 ((((xs.length - g : Nat)) : Int) + 1), ()) h') := by
        rintro z rfl
        simp only [eqL] at hf
        have hnext : xs.length - g + 1 = xs.length - (g - 1) := by omega
        rw [hnext] at hf
        cases hz : (decide (x = plusS) || decide (x = y)) with
        | false =>
          rw [hz, Bool.false_and] at hf
          rw [hf] at hq
          rw [if_pos (by rfl)]
          exact hq
        | true =>
          rw [hz, Bool.true_and] at hf
          rw [if_neg (by simp)]
          exact .mk (g - 1) (by omega) ⟨rfl, by simp only; rw [wrap_id (by omega) (by omega)]; omega, by omega, hf⟩
      refine bind_cut (fun z h'' => h'' = h' ∧ z.1 = (decide (x = plusS) || decide (x = y))) ?_ ?_
      · (try dsimp only); rw [HM.ite_apply]
        by_cases h1 : x = plusS
        · rw [if_pos (by simpa [plusS] using h1)]
          exact ⟨rfl, by simp [h1]⟩
        · rw [if_neg (by simpa [plusS] using h1)]
          exact ⟨rfl, by simp [h1]⟩
      rintro ⟨z, ⟨⟩⟩ h'' ⟨rfl, hz⟩
      refine ⟨z, rfl, ?_⟩
      have hfin := fin z hz
      (try dsimp only); rw [HM.ite_apply]
      by_cases hzz : (!z) = true
      · rw [if_pos hzz] at hfin ⊢
        exact hfin
      · rw [if_neg hzz] at hfin ⊢
        exact hfin
    · rw [if_neg (by simp only [decide_eq_true_eq, hls]; omega)]
      simp only [Sum.elim_inl, Sum.elim_inr, HM.pure_apply]
      have h1 : xs.drop (xs.length - g) = [] := by simp; omega
      have h2 : ys.drop (xs.length - g) = [] := by simp; omega
      rw [h1, h2] at hf
      rw [hf] at hq
      exact hq
  · have hfalse : ∀ (xs ys : List ByteArray), xs.length ≠ ys.length → eqL xs ys = false := by
      intro xs
      induction xs with
      | nil => intro ys hh; cases ys with
        | nil => exact absurd rfl hh
        | cons => rfl
      | cons x xs ih => intro ys hh; cases ys with
        | nil => rfl
        | cons y ys => simp only [eqL, ih ys (by simpa using hh), Bool.and_false]
    rw [hfalse xs ys hne] at hq
    rw [if_pos (by simp [hls, hlt]; omega)]
    exact hq
theorem byte_is (b c : UInt8) : ((b.toNat : Int) == (c.toNat : Int)) = decide (b = c) := by
  by_cases h : b = c
  · simp [h]
  · rw [decide_eq_false h]
    simp only [beq_eq_false_iff_ne, ne_eq]
    intro e
    exact h (UInt8.toNat_inj.1 (by omega))
set_option maxRecDepth 100000 in
theorem Match_spec (hs : sat h (old h0 :: R)) (ht : TP h0) {f n : ByteArray} (hfz : f.size ≤ 9223372036854775807) (hnz : n.size ≤ 9223372036854775807) {Q : Value → Heap → Prop}
    (hq : ∀ h', sat h' (old h0 :: R) → Q (.bool (matchB f n)) h') : HCalls Tryz.prog 142 #[.string f, .string n] h Q := by
  refine topic_Match_calls f n h Q ?_
  unfold topic_Match
  refine bind_cut (fun x h' => sat h' (old h0 :: R) ∧ x.1 = !(filterOK f && nameOK n)) ?_ ?_
  · refine bind_call1 (CheckFilter_spec hs ht hfz fun h1 hs1 => ⟨_, rfl, ?_⟩)
    unfold filtC
    (try dsimp only); rw [HM.ite_apply]
    cases hf : filterOK f with
    | false => rw [if_pos (by rfl)]; exact ⟨hs1, rfl⟩
    | true =>
      rw [if_neg (by simp)]
      refine bind_call1 (CheckName_spec hs1 ht hnz fun h2 hs2 => ⟨_, rfl, ?_⟩)
      unfold nameC
      cases hn : nameOK n <;> exact ⟨hs2, rfl⟩
  rintro ⟨x, ⟨⟩⟩ h1 ⟨hs1, hx⟩
  simp only at hx
  subst hx
  unfold matchB at hq
  (try dsimp only); rw [HM.ite_apply]
  cases hok : (filterOK f && nameOK n) with
  | false =>
    rw [hok] at hq
    rw [if_pos (by rfl)]
    exact hq _ hs1
  | true =>
  rw [hok, Bool.true_and] at hq
  rw [if_neg (by simp)]
  rw [Bool.and_eq_true] at hok
  have hsf := sizedT_iff.1 (filterOK_sized hok.1)
  have hsn := sizedT_iff.1 (nameOK_sized hok.2)
  have hgf : filtG (levels f) = true := by
    have := hok.1
    unfold filterOK at this
    rw [Bool.and_eq_true] at this
    exact this.2
  refine bind_cut (fun x h' => h' = h1 ∧ x.1 = dollarB f n) ?_ ?_
  · unfold dollarB
    refine ⟨n.get! 0, by decide, get_bang (k := 0) (by omega), ?_⟩
    (try dsimp only); rw [HM.ite_apply]
    have e36 := byte_is (n.get! 0) 36
    by_cases h36 : n.get! 0 = 36
    · rw [if_pos (by rw [show (36 : Int) = ((36 : UInt8).toNat : Int) from rfl, e36, h36]; rfl)]
      refine ⟨0, 1, ⟨rfl, by omega⟩, rfl, ?_⟩
      (try dsimp only); rw [HM.ite_apply]
      by_cases h43 : f.get! 0 = 43
      · rw [if_pos (by simpa using (first_one hsf.2.1 43).2 h43)]
        exact ⟨rfl, by simp [h36, h43]⟩
      · rw [if_neg (by simpa using fun e => h43 ((first_one hsf.2.1 43).1 e))]
        refine ⟨0, 1, ⟨rfl, by omega⟩, rfl, rfl, ?_⟩
        have e35 : decide (f.extract 0 1 = ByteArray.mk #[35]) = decide (f.get! 0 = 35) := by rw [decide_eq_decide]; exact first_one hsf.2.1 35
        simp only [h36, h43, decide_true, decide_false, Bool.true_and, Bool.false_or]
        exact e35
    · rw [if_neg (by rw [show (36 : Int) = ((36 : UInt8).toNat : Int) from rfl, e36]; simpa using h36)]
      exact ⟨rfl, by simp [h36]⟩
  rintro ⟨x, ⟨⟩⟩ h2 ⟨rfl, hx⟩
  simp only at hx
  subst hx
  (try dsimp only); rw [HM.ite_apply]
  cases hdl : dollarB f n with
  | true =>
    rw [hdl] at hq
    rw [if_pos rfl]
    exact hq _ hs1
  | false =>
  rw [hdl, Bool.not_false, Bool.true_and, match_prog _ _ (levels_ne f) hgf] at hq
  rw [if_neg (by simp)]
  refine bind_call1 (Levels_spec hs1 ht hsf.2.2.1 fun sf h3 hs3 => ⟨sf, rfl, ?_⟩)
  refine bind_call1 (Levels_spec hs3.p1 ht hsn.2.2.1 fun sn h4 hs4 => ⟨sn, rfl, ?_⟩)
  have hrn := hs4.own_row eS_len
  have hrf := (hs4.re [2, 0, 1]).own_row eS_len
  have hs5 : sat h4 (old h0 :: R) := (hs4.re [0, 2, 1]).drop.drop
  have hlf : (levels f).length ≤ 32 := hsf.2.2.2
  have hln : (levels n).length ≤ 32 := hsn.2.2.2
  have hne : 1 ≤ (levels f).length := by
    have := levels_len f
    omega
  clear hs4 hs3
  generalize levels f = lf at *
  generalize levels n = ln at *
  have hl1 := hrf.1
  have hl2 := hrn.1
  have hw : IntKind.wrap .i64 ((sf.len : Int) - 1) = ((lf.length - 1 : Nat) : Int) := by rw [hl1, wrap_id (by omega) (by omega)]; omega
  rw [hw]
  obtain ⟨x, hx⟩ : ∃ x, lf[lf.length - 1]? = some x := ⟨_, List.getElem?_eq_getElem (by omega)⟩
  have hall : allR lf = decide (x = hashS) := by unfold allR; rw [hx]; simp
  (try dsimp only); rw [HM.bind_apply]
  refine idx_row hrf hx fun a ha => ?_
  refine ⟨x, by have := ha 0 (.string x) rfl; rwa [Go.H.add_zero] at this, ?_⟩
  refine bind_cut (fun x h' => h' = h4 ∧ RowAt eS 1 h4 x.1 (cutR lf)) ?_ ?_
  · unfold cutR
    (try dsimp only); rw [HM.ite_apply]
    by_cases hh : x = hashS
    · rw [if_pos (by simpa [hashS] using hh), if_pos (by rw [hall]; simpa using hh)]
      (try dsimp only); rw [HM.bind_apply]
      exact slice_row hrf (by omega) fun s' hs' => ⟨rfl, hs'⟩
    · rw [if_neg (by simpa [hashS] using hh), if_neg (by rw [hall]; simpa using hh)]
      exact ⟨rfl, hrf⟩
  rintro ⟨sc, ⟨⟩⟩ h5 ⟨rfl, hrc⟩
  simp only at hrc
  have hl3 := hrc.1
  have hcl : (cutR lf).length ≤ 32 := by
    unfold cutR
    split
    · simp; omega
    · exact hlf
  refine bind_cut (fun x h' => h' = h5 ∧ x.1 = decide (ln.length < (cutR lf).length ∨ (allR lf = false ∧ (cutR lf).length < ln.length))) ?_ ?_
  · (try dsimp only); rw [HM.ite_apply]
    by_cases hh : ln.length < (cutR lf).length
    · rw [if_pos (by simp only [decide_eq_true_eq]; omega)]
      exact ⟨rfl, by simp [hh]⟩
    · rw [if_neg (by simp only [decide_eq_true_eq]; omega)]
      (try dsimp only); rw [HM.ite_apply]
      by_cases hxh : x = hashS
      · rw [if_neg (by simpa [hashS] using hxh)]
        exact ⟨rfl, by simp [hh, hall, hxh]⟩
      · rw [if_pos (by simpa [hashS] using hxh)]
        refine ⟨rfl, ?_⟩
        simp only [decide_eq_decide, hall, hxh, decide_false, true_and]
        omega
  rintro ⟨y, ⟨⟩⟩ h6 ⟨rfl, hy⟩
  simp only at hy
  subst hy
  unfold matchP at hq
  (try dsimp only); rw [HM.ite_apply]
  by_cases hc : ln.length < (cutR lf).length ∨ (allR lf = false ∧ (cutR lf).length < ln.length)
  · rw [if_pos hc] at hq
    rw [if_pos (by simpa using hc)]
    exact hq _ hs5
  · rw [if_neg hc] at hq
    rw [if_neg (by simpa using hc)]
    (try dsimp only); rw [HM.bind_apply]
    refine slice_row (n := sc.len) hrn (by omega) fun s' hs' => ?_
    rw [hl3] at hs'
    (try dsimp only)
    refine bind_call1 (EqualFunc_spec hrc hs' (by omega) ⟨_, rfl, ?_⟩)
    exact hq _ hs5
end Go.Proofs.YtfhalebbcbgbdaaGreatDoor
namespace Go.Proofs.YtfhalebbcbgbdaaGreatDoor
open Go.H Go.Proofs Go.Lib
set_option linter.unusedSimpArgs false
set_option linter.unusedVariables false
def beT : Nat → Nat → List Int
  | 0, _ => []
  | w + 1, n => ((n / 256 ^ w % 256 : Nat) : Int) :: beT w n
theorem beT_len : ∀ (w n : Nat), (beT w n).length = w
  | 0, _ => rfl
  | w + 1, n => by rw [beT, List.length_cons, beT_len w n]
theorem ints_data (ns : List Int) : (bytesOfInts ns).data.toList = ns.map fun n => UInt8.ofNat n.toNat := by
  unfold bytesOfInts
  have : ∀ (ns : List Int) (r : ByteArray), (ns.foldl (fun r n => r.push (UInt8.ofNat n.toNat)) r).data.toList = r.data.toList ++ ns.map fun n => UInt8.ofNat n.toNat := by
    intro ns
    induction ns with
    | nil => intro r; simp
    | cons n ns ih => intro r; rw [List.foldl_cons, ih]; simp
  rw [this]
  rfl
theorem ints_size (ns : List Int) : (bytesOfInts ns).size = ns.length := by
  have := congrArg List.length (ints_data ns)
  rw [Array.length_toList, List.length_map] at this
  exact this
def fixB (w n : Nat) : ByteArray := bytesOfInts (beT w n)
theorem fixB_size (w n : Nat) : (fixB w n).size = w := by unfold fixB; rw [ints_size, beT_len]
def datB (s : ByteArray) : ByteArray := fixB 2 s.size ++ s
end Go.Proofs.YtfhalebbcbgbdaaGreatDoor
namespace Go.Proofs.YtfhalebbcbgbdaaGreatDoor
open Go.H Go.Proofs Go.Lib
set_option linter.unusedSimpArgs false
set_option linter.unusedVariables false
set_option synthInstance.maxSize 100000
set_option synthInstance.maxHeartbeats 400000
set_option maxRecDepth 100000
abbrev eU (n : Int) : List Value := [.int .u8 n]
theorem eU_len : ∀ x : Int, (eU x).length = 1 := fun _ => rfl
theorem eU_cell : ∀ x : Int, ∀ v ∈ eU x, v.oneCell' = true := fun x v hv => by rw [List.mem_singleton.1 hv]; rfl
theorem eU_flat : ∀ xs : List Int, xs.flatMap eU = xs.map (Value.int .u8)
  | [] => rfl
  | x :: xs => by rw [List.flatMap_cons, eU_flat xs]; rfl
variable {h h0 : Heap} {R : List Asn}
def wideW (w : Nat) : Prop := w = 1 ∨ w = 2 ∨ w = 4
theorem pow_w {w : Nat} (hw : wideW w) : IntKind.wrap .i64 (1 * 2 ^ (min (Int.toNat (IntKind.wrap .i64 (8 * (w : Int)))) (IntKind.bits .i64))) = ((256 ^ w : Nat) : Int) := by
  rcases hw with rfl | rfl | rfl <;> decide
theorem req_w {w : Nat} (hw : wideW w) : 0 ≤ IntKind.wrap .i64 (8 * (w : Int)) := by
  rcases hw with rfl | rfl | rfl <;> decide
theorem w_le {w : Nat} (hw : wideW w) : 1 ≤ w ∧ w ≤ 4 := by
  rcases hw with rfl | rfl | rfl <;> decide
theorem wrap_u8 (n : Nat) : IntKind.wrap .u8 (n : Int) = ((n % 256 : Nat) : Int) := by
  simp [IntKind.wrap, IntKind.bits, IntKind.signed]
theorem byte_at {n g : Nat} (hg : g ≤ 3) : IntKind.wrap .u8 (Int.fdiv (n : Int) (2 ^ (min (Int.toNat (IntKind.wrap .i64 (8 * (g : Int)))) (IntKind.bits .i64)))) = ((n / 256 ^ g % 256 : Nat) : Int) := by
  rw [wrap_id (by omega) (by omega)]
  have e1 : min (Int.toNat (8 * (g : Int))) (IntKind.bits .i64) = 8 * g := by
    show min _ 64 = _
    omega
  rw [e1]
  have e2 : ((2 : Int) ^ (8 * g)) = ((256 ^ g : Nat) : Int) := by
    rw [Int.natCast_pow, Int.pow_mul]
    rfl
  rw [e2, Int.fdiv_eq_ediv_of_nonneg _ (Int.natCast_nonneg _), ← Int.natCast_ediv, wrap_u8]
theorem wide_spec {w : Nat} (hw : wideW w) {Q : Value → Heap → Prop} (hq : Q (.bool true) h) : HCalls Tryz.prog 127 #[.int .i64 w] h Q := by
  refine varint_wide_calls w h Q ?_
  unfold varint_wide
  refine bind_cut (fun z h' => h' = h ∧ z.1 = true) ?_ ?_
  · rcases hw with rfl | rfl | rfl
    · (try dsimp only); rw [HM.ite_apply, if_pos (by rfl)]; exact ⟨rfl, rfl⟩
    · (try dsimp only); rw [HM.ite_apply, if_neg (by decide)]
      (try dsimp only); rw [HM.ite_apply, if_pos (by rfl)]; exact ⟨rfl, rfl⟩
    · (try dsimp only); rw [HM.ite_apply, if_neg (by decide)]
      (try dsimp only); rw [HM.ite_apply, if_neg (by decide)]; exact ⟨rfl, rfl⟩
  rintro ⟨z, ⟨⟩⟩ h1 ⟨rfl, hz⟩
  simp only at hz
  subst hz
  exact hq
theorem strOf_own {sl : Slc} {xs : List Int} (hs : sat h (ownS eU 1 sl xs :: R)) {Q : ByteArray → Heap → Prop} (hq : Q (bytesOfInts xs) h) : HM.strOf sl h Q := by
  refine ⟨xs, ?_, hq⟩
  have := row_reads eU_len (hs.own_row eU_len) (by decide)
  rw [Nat.mul_one, eU_flat] at this
  exact this
theorem Fixed_spec (hs : sat h R) {w n : Nat} (hw : wideW w) (hn : n < 256 ^ w) {Q : Value → Heap → Prop} (hq : ∀ h', sat h' R → Q (.tuple #[.string (fixB w n), .int .u8 0]) h') :
    HCalls Tryz.prog 88 #[.int .i64 w, .int .i64 n] h Q := by
  refine varint_Fixed_calls w n h Q ?_
  unfold varint_Fixed
  have hwl := w_le hw
  refine bind_call1 (wide_spec hw ⟨true, rfl, ?_⟩)
  (try dsimp only); rw [HM.ite_apply, if_neg (by simp)]
  refine bind_cut (fun z h' => h' = h ∧ z.1 = false) ?_ ?_
  · (try dsimp only); rw [HM.ite_apply, if_neg (by simp)]
    refine ⟨req_w hw, rfl, ?_⟩
    rw [pow_w hw]
    simp only [decide_eq_false_iff_not]
    omega
  rintro ⟨z, ⟨⟩⟩ h1 ⟨rfl, hz⟩
  simp only at hz
  subst hz
  (try dsimp only); rw [HM.ite_apply, if_neg (by simp)]
  (try dsimp only); rw [HM.bind_apply]
  refine loop_gx (γ := Nat) (fun g c h' => c.2.1 = (g : Int) - 1 ∧ g ≤ w ∧ ∃ xs : List Int, xs ++ beT g n = beT w n ∧ sat h' (ownS eU 1 c.1 xs :: R)) (fun g => g) w
    ⟨by simp only; exact wrap_id (by omega) (by omega), Nat.le_refl _, [], rfl, ownS_nil hs⟩ ?_
  rintro g ⟨out, c, ⟨⟩⟩ h2 ⟨hc, hg, xs, hx, hs2⟩
  simp only at hc hs2
  subst hc
  (try dsimp only); rw [HM.ite_apply]
  cases g with
  | succ g =>
    rw [if_pos (by simp only [decide_eq_true_eq]; omega)]
    have e : ((g + 1 : Nat) : Int) - 1 = (g : Int) := by omega
    rw [e]
    refine ⟨by rw [wrap_id (by omega) (by omega)]; omega, ?_⟩
    rw [byte_at (by omega)]
    have hxl : xs.length ≤ 4 := by
      have := congrArg List.length hx
      rw [List.length_append, beT_len, beT_len] at this
      omega
    refine app_new (x := ((n / 256 ^ g % 256 : Nat) : Int)) eU_len eU_cell rfl hs2 (by decide) (by decide) (by omega) fun s' h3 hs3 => ?_
    simp only [Sum.elim_inl, Sum.elim_inr, HM.pure_apply]
    exact .mk g (by omega) ⟨by simp only; rw [wrap_id (by omega) (by omega)], by omega, _, by rw [List.append_assoc, ← hx]; rfl, hs3⟩
  | zero =>
    rw [if_neg (by simp)]
    simp only [Sum.elim_inl, Sum.elim_inr, HM.pure_apply]
    rw [beT, List.append_nil] at hx
    subst hx
    (try dsimp only); rw [HM.bind_apply]
    refine strOf_own hs2 ?_
    exact hq _ hs2.drop
theorem Data_spec (hs : sat h R) {s : ByteArray} (hsz : s.size ≤ 65535) {Q : Value → Heap → Prop} (hq : ∀ h', sat h' R → Q (.tuple #[.string (datB s), .int .u8 0]) h') : HCalls Tryz.prog 198 #[.string s] h Q := by
  refine varint_Data_calls s h Q ?_
  unfold varint_Data
  (try dsimp only); rw [HM.ite_apply, if_neg (by simp only [decide_eq_true_eq]; omega)]
  refine bind_callN (Fixed_spec (w := 2) hs (.inr (.inl rfl)) (by simpa using Nat.lt_succ_of_le hsz) fun h1 hs1 => ⟨(fixB 2 s.size, 0, ()), rfl, ?_⟩)
  refine ⟨by rw [fixB_size]; omega, ?_⟩
  exact hq _ hs1
end Go.Proofs.YtfhalebbcbgbdaaGreatDoor
namespace Go.Proofs.YtfhalebbcbgbdaaGreatDoor
open Go.H Go.Proofs Go.Lib
set_option linter.unusedSimpArgs false
set_option linter.unusedVariables false
set_option synthInstance.maxSize 100000
set_option synthInstance.maxHeartbeats 400000
set_option maxRecDepth 100000
abbrev RuleT := ByteArray × Int × Int × ByteArray × ByteArray × Unit
abbrev vR (r : RuleT) : Value := .agg #[.string r.1, .int .i64 r.2.1, .int .i64 r.2.2.1, .string r.2.2.2.1, .string r.2.2.2.2.1]
abbrev bigB : Nat := 9223372036854775800
def szR (r : RuleT) : Prop := r.1.size ≤ bigB ∧ r.2.2.2.1.size ≤ bigB ∧ r.2.2.2.2.1.size ≤ bigB
def prefOK (s : ByteArray) : Bool := decide (s = ByteArray.mk #[]) || nameOK s
def chkR (r : RuleT) : Int :=
  if filterOK r.1 = false then 143
  else if (prefOK r.2.2.2.1 && prefOK r.2.2.2.2.1) = false then 144
  else if r.2.1 < 0 ∨ 2 < r.2.1 then 128
  else if r.2.2.1 < 0 ∨ 2 < r.2.2.1 then 155
  else 0
variable {h h0 : Heap} {R : List Asn}
theorem prefix_spec (hs : sat h (old h0 :: R)) (ht : TP h0) {s : ByteArray} (hsz : s.size ≤ bigB) {Q : Value → Heap → Prop} (hq : ∀ h', sat h' (old h0 :: R) → Q (.bool (prefOK s)) h') :
    HCalls Tryz.prog 66 #[.string s] h Q := by
  refine remap_prefix_calls s h Q ?_
  unfold remap_prefix
  refine bind_cut (fun z h' => sat h' (old h0 :: R) ∧ z.1 = prefOK s) ?_ ?_
  · unfold prefOK
    (try dsimp only); rw [HM.ite_apply]
    by_cases h0 : s = ByteArray.mk #[]
    · rw [if_pos (by simpa using h0)]; exact ⟨hs, by simp [h0]⟩
    · rw [if_neg (by simpa using h0)]
      refine bind_call1 (CheckName_spec hs ht (Nat.le_trans hsz (by decide)) fun h1 hs1 => ⟨_, rfl, hs1, ?_⟩)
      unfold nameC
      cases nameOK s <;> simp [h0]
  rintro ⟨z, ⟨⟩⟩ h1 ⟨hs1, hz⟩
  simp only at hz
  subst hz
  exact hq _ hs1
theorem two_tests {x : Nat} {i : Nat} {cs : Array Value} {n : Int} (hs : sat h (cells x cs :: R)) (hc : cs[i]? = some (.int .i64 n)) {Q : Bool × Unit → Heap → Prop} (hq : Q (decide (n < 0 ∨ 2 < n), ()) h) :
    (HM.bind (α := Int) (HM.load1 (.int .i64) (Addr.add ⟨x, 0, none⟩ i)) fun (x9 : Int) =>
      HM.ite (decide (x9 < (0 : Int))) (
      HM.pure (true, ())) (
      HM.bind (α := Int) (HM.load1 (.int .i64) (Addr.add ⟨x, 0, none⟩ i)) fun (x10 : Int) =>
      HM.pure (decide (2 < (x10 : Int)), ()))) h Q := by
  refine ⟨n, by rw [add_own, hs.cell]; exact hc, ?_⟩
  (try dsimp only); rw [HM.ite_apply]
  by_cases h1 : n < 0
  · rw [if_pos (by simpa using h1)]
    simpa [h1] using hq
  · rw [if_neg (by simpa using h1)]
    refine ⟨n, by rw [add_own, hs.cell]; exact hc, ?_⟩
    simpa [h1] using hq
theorem Check_spec (hs : sat h (old h0 :: R)) (ht : TP h0) {r : RuleT} (hz : szR r) {Q : Value → Heap → Prop} (hq : ∀ h', sat h' (old h0 :: R) → Q (.int .u8 (chkR r)) h') :
    HCalls Tryz.prog 36 #[vR r] h Q := by
  refine remap_Rule_Check_calls r h Q ?_
  unfold remap_Rule_Check
  refine new_cells hs fun x h1 hs1 => ?_
  refine ⟨r.1, by rw [add_own]; exact hs1.cell 0, ?_⟩
  refine bind_call1 (CheckFilter_spec hs1.p1 ht (Nat.le_trans hz.1 (by decide)) fun h2 hs2' => ⟨_, rfl, ?_⟩)
  have hs2 := hs2'.p1
  clear hs2' hs1
  unfold chkR at hq
  (try dsimp only); rw [HM.ite_apply]
  cases hf : filterOK r.1 with
  | false =>
    rw [if_pos hf] at hq
    rw [if_pos (by simp [filtC, hf])]
    exact hq _ hs2.drop
  | true =>
  rw [if_neg (by simp [hf])] at hq
  rw [if_neg (by simp [filtC, hf])]
  refine bind_cut (fun z h' => sat h' (cells x #[.string r.1, .int .i64 r.2.1, .int .i64 r.2.2.1, .string r.2.2.2.1, .string r.2.2.2.2.1] :: old h0 :: R) ∧ z.1 = !(prefOK r.2.2.2.1 && prefOK r.2.2.2.2.1)) ?_ ?_
  · refine ⟨r.2.2.2.1, by rw [add_own]; exact hs2.cell 3, ?_⟩
    refine bind_call1 (prefix_spec hs2.p1 ht hz.2.1 fun h3 hs3 => ⟨_, rfl, ?_⟩)
    (try dsimp only); rw [HM.ite_apply]
    cases prefOK r.2.2.2.1 with
    | false => rw [if_pos (by rfl)]; exact ⟨hs3.p1, rfl⟩
    | true =>
      rw [if_neg (by simp)]
      refine ⟨r.2.2.2.2.1, by rw [add_own]; exact hs3.p1.cell 4, ?_⟩
      refine bind_call1 (prefix_spec hs3 ht hz.2.2 fun h4 hs4 => ⟨_, rfl, ?_⟩)
      exact ⟨hs4.p1, by simp⟩
  rintro ⟨z, ⟨⟩⟩ h3 ⟨hs3, hzz⟩
  simp only at hzz
  subst hzz
  (try dsimp only); rw [HM.ite_apply]
  cases hp : (prefOK r.2.2.2.1 && prefOK r.2.2.2.2.1) with
  | false =>
    rw [if_pos hp] at hq
    rw [if_pos (by rfl)]
    exact hq _ hs3.drop
  | true =>
  rw [if_neg (by simp [hp])] at hq
  rw [if_neg (by simp)]
  refine bind_cut (fun z h' => h' = h3 ∧ z.1 = decide (r.2.1 < 0 ∨ 2 < r.2.1)) (two_tests hs3 rfl ⟨rfl, rfl⟩) ?_
  rintro ⟨z, ⟨⟩⟩ h4 ⟨rfl, hzz⟩
  simp only at hzz
  subst hzz
  (try dsimp only); rw [HM.ite_apply]
  by_cases hd : r.2.1 < 0 ∨ 2 < r.2.1
  · rw [if_pos hd] at hq
    rw [if_pos (by simpa using hd)]
    exact hq _ hs3.drop
  rw [if_neg hd] at hq
  rw [if_neg (by simpa using hd)]
  refine bind_cut (fun z h' => h' = h4 ∧ z.1 = decide (r.2.2.1 < 0 ∨ 2 < r.2.2.1)) (two_tests hs3 rfl ⟨rfl, rfl⟩) ?_
  rintro ⟨z, ⟨⟩⟩ h5 ⟨rfl, hzz⟩
  simp only at hzz
  subst hzz
  (try dsimp only); rw [HM.ite_apply]
  by_cases hd2 : r.2.2.1 < 0 ∨ 2 < r.2.2.1
  · rw [if_pos hd2] at hq
    rw [if_pos (by simpa using hd2)]
    exact hq _ hs3.drop
  · rw [if_neg hd2] at hq
    rw [if_neg (by simpa using hd2)]
    exact hq _ hs3.drop
theorem drop_at {α : Type} {l : List α} {i : Nat} {x : α} (hx : l[i]? = some x) : l.drop i = x :: l.drop (i + 1) := by
  obtain ⟨hi, rfl⟩ := List.getElem?_eq_some_iff.1 hx
  exact List.drop_eq_getElem_cons hi
end Go.Proofs.YtfhalebbcbgbdaaGreatDoor
namespace Go.H
set_option linter.unusedSimpArgs false
set_option linter.unusedVariables false
structure BufF (s : Slc) (xs : List Int) (g : Nat) (cur : Array Value) : Prop where
  a : s.a = some ⟨g, 0, none⟩
  le : s.len ≤ s.cap
  len : s.len = xs.length
  size : cur.size = s.cap
  front : cur.toList.take s.len = xs.map (Value.int .u8)
  cap : s.cap ≤ 9223372036854775807
def bufA (T : TypeId) (s : Slc) (xs : List Int) : Asn := fun m =>
  (s = ⟨none, 0, 0⟩ ∧ xs = []) ∨ exA (fun x : Nat × Array Value => star (pr (BufF s xs x.1 x.2)) (blk x.1 (.cells x.2 T (0, 0)))) m
section
variable {h : Heap} {R : List Asn} {T : TypeId} {s : Slc} {xs : List Int}
theorem bufA_cases (hs : sat h (bufA T s xs :: R)) : (s = ⟨none, 0, 0⟩ ∧ xs = [] ∧ sat h R) ∨ ∃ g cur, BufF s xs g cur ∧ sat h (blk g (.cells cur T (0, 0)) :: R) := by
  obtain ⟨m, h1, a, r, hd, rfl, ha, hr⟩ := hs
  rcases ha with ⟨h2, h3⟩ | h2
  · exact .inl ⟨h2, h3, r, (join_sub h1 hd).2, hr⟩
  · right
    have hs' : sat h (exA (fun x : Nat × Array Value => star (pr (BufF s xs x.1 x.2)) (blk x.1 (.cells x.2 T (0, 0)))) :: R) := ⟨_, h1, a, r, hd, rfl, h2, hr⟩
    rw [sat.ex_iff] at hs'
    obtain ⟨⟨g, cur⟩, hs'⟩ := hs'
    rw [sat.star_iff, sat.pr_iff] at hs'
    exact ⟨g, cur, hs'.1, hs'.2⟩
theorem bufA_mk {g : Nat} {cur : Array Value} (ho : BufF s xs g cur) (hs : sat h (blk g (.cells cur T (0, 0)) :: R)) : sat h (bufA T s xs :: R) := by
  have hs' : sat h (exA (fun x : Nat × Array Value => star (pr (BufF s xs x.1 x.2)) (blk x.1 (.cells x.2 T (0, 0)))) :: R) := by
    rw [sat.ex_iff]
    refine ⟨(g, cur), ?_⟩
    rw [sat.star_iff, sat.pr_iff]
    exact ⟨ho, hs⟩
  exact hs'.imp fun m hm => .inr hm
theorem bufA_nil (hs : sat h R) : sat h (bufA T ⟨none, 0, 0⟩ [] :: R) := by
  obtain ⟨m, h1, hr⟩ := hs
  exact ⟨m, h1, fun _ => none, m, fun k => .inl rfl, by funext k; rfl, .inl ⟨rfl, rfl⟩, hr⟩
theorem blk_set {g : Nat} {cur : Array Value} (hs : sat h (blk g (.cells cur T (0, 0)) :: R)) (i : Nat) (v : Value) : sat (setCellH h ⟨g, i, none⟩ v) (blk g (.cells (cur.setIfInBounds i v) T (0, 0)) :: R) := by
  have hlt := hs.lt
  have hg := hs.get
  refine hs.turn ?_ fun k hk => ?_
  · unfold setCellH
    rw [Array.getElem?_modify, if_pos rfl, hg]
    rfl
  · unfold setCellH
    rw [Array.getElem?_modify, if_neg (fun e => hk e.symm)]
theorem blk_sets {g : Nat} : ∀ (vs : List Value) (cur : Array Value) (o i : Nat) {h : Heap} {R : List Asn}, sat h (blk g (.cells cur T (0, 0)) :: R) → o + i + vs.length ≤ cur.size →
    ∃ cs' : Array Value, cs'.size = cur.size ∧ cs'.toList = cur.toList.take (o + i) ++ vs ++ cur.toList.drop (o + i + vs.length) ∧ sat (setCellsH h ⟨g, o, none⟩ vs i) (blk g (.cells cs' T (0, 0)) :: R)
  | [], cs, o, i, h, R, hs, hl => ⟨cs, rfl, by simp, hs⟩
  | v :: vs, cs, o, i, h, R, hs, hl => by
    simp only [List.length_cons] at hl
    have h1 := blk_set hs (o + i) v
    obtain ⟨cs', e1, e2, h2⟩ := blk_sets vs (cs.setIfInBounds (o + i) v) o (i + 1) h1 (by simp; omega)
    refine ⟨cs', by simpa using e1, ?_, by simpa [setCellsH, Addr.add_at] using h2⟩
    rw [e2, Array.toList_setIfInBounds]
    have hlen : o + i < cs.toList.length := by simp; omega
    rw [show o + (i + 1) = (o + i) + 1 from by omega, List.take_succ_eq_append_getElem (by simpa using hlen)]
    rw [List.getElem_set_self, List.take_set_of_le (Nat.le_refl _), List.drop_set_of_lt (by omega)]
    simp only [List.length_cons, List.append_assoc, List.cons_append, List.nil_append]
    rw [show o + i + 1 + vs.length = o + i + (vs.length + 1) from by omega]
def intsS (t : ByteArray) : List Int := t.data.toList.map fun b => (b.toNat : Int)
theorem intsS_len (t : ByteArray) : (intsS t).length = t.size := by
  unfold intsS
  rw [List.length_map, Array.length_toList]
  rfl
theorem append_buf {t : ByteArray} {Q : Slc → Heap → Prop} (hs : sat h (bufA T s xs :: R)) (hb : xs.length + t.size ≤ 140737488355328)
    (hq : ∀ s' h', sat h' (bufA T s' (xs ++ intsS t) :: R) → Q s' h') : HM.append T 1 1 #[.int .u8 0] s t.size (srcStr t) h Q := by
  have hvs : (t.data.map fun b => Value.int .u8 b.toNat).toList = (intsS t).map (Value.int .u8) := by simp [intsS, Function.comp_def]
  have hvl : (t.data.map fun b => Value.int .u8 b.toNat).toList.length = t.size := by rw [hvs, List.length_map, intsS_len]
  constructor
  · intro hc
    refine ⟨_, rfl, ?_⟩
    rcases bufA_cases hs with ⟨rfl, rfl, hs1⟩ | ⟨g, cur, hf, hs1⟩
    · have h0 : t.size = 0 := by simpa using hc
      have hq' := hq ⟨none, 0, 0⟩ h
      have e : intsS t = [] := List.eq_nil_of_length_eq_zero (by rw [intsS_len]; exact h0)
      rw [e] at hq'
      simp only [h0]
      exact hq' (bufA_nil hs1)
    · rw [hf.a]
      simp only [Addr.add_at, Nat.mul_one, Nat.zero_add]
      have hlen : s.len + 0 + (t.data.map fun b => Value.int .u8 b.toNat).toList.length ≤ cur.size := by rw [hvl, hf.size]; omega
      have hget := hs1.get
      refine ⟨fun i v hi => ?_, ?_⟩
      · have hlt : i < t.size := by
          have := (Array.getElem?_eq_some_iff.1 hi).1
          simpa using this
        have hil : s.len + i < cur.size := by rw [hf.size]; omega
        refine ⟨?_, ?_, ?_⟩
        · simp [cellH, hget, Array.getElem?_eq_getElem hil]
        · simp [frozenH, hget]
        · rw [Array.getElem?_map] at hi
          obtain ⟨b, _, rfl⟩ := Option.map_eq_some_iff.1 hi
          rfl
      · obtain ⟨cs', e1, e2, h2⟩ := blk_sets (t.data.map fun b => Value.int .u8 b.toNat).toList cur s.len 0 hs1 hlen
        refine hq _ _ (bufA_mk (g := g) (cur := cs') ⟨rfl, hc, by simp [hf.len, intsS_len], by rw [e1]; exact hf.size, ?_, hf.cap⟩ h2)
        rw [e2, hvs]
        simp only [Nat.add_zero, List.length_map, intsS_len]
        rw [hf.front, ← List.map_append]
        have hl3 : s.len + t.size = (xs ++ intsS t).length := by rw [List.length_append, intsS_len, hf.len]
        rw [hl3, List.take_left' (by rw [List.length_map])]
  · intro hc
    have hl : s.len = xs.length ∧ readsH h s.a (s.len * 1) (xs.map (Value.int .u8)).toArray := by
      rcases bufA_cases hs with ⟨rfl, rfl, hs1⟩ | ⟨g, cur, hf, hs1⟩
      · exact ⟨rfl, rfl⟩
      · refine ⟨hf.len, ?_⟩
        rw [hf.a]
        refine ⟨by simp [hf.len], fun i v hi => ?_⟩
        have hget := hs1.get
        have h1 : (xs.map (Value.int .u8))[i]? = some v := by simpa using hi
        rw [← hf.front, List.getElem?_take] at h1
        split at h1
        · rw [Addr.add_at]
          simp only [cellH, hget]
          simpa using h1
        · cases h1
    have hR : sat h R := hs.drop
    refine ⟨by omega, growslice_fits hc (by omega), _, _, hl.2, rfl, fun c hcc hc2 => hq _ _ ?_⟩
    refine bufA_mk (g := h.size) ⟨rfl, hcc, by simp [hl.1, intsS_len], ?_, ?_, hc2⟩ hR.push
    · simp only [Array.size_append, List.size_toArray, List.length_map, Array.size_map, Builtin.zeroCells, Array.size_range]
      have : t.data.size = t.size := rfl
      simp
      omega
    · simp only [Array.toList_append, hvs, ← List.map_append]
      rw [List.take_append_of_le_length (by rw [List.length_map, List.length_append, intsS_len]; omega), List.take_of_length_le (by rw [List.length_map, List.length_append, intsS_len]; omega)]
theorem fresh_old {hB : Heap} {g : Nat} {o : Obj} (hs : sat h (blk g o :: old hB :: R)) : hB.size ≤ g := by
  obtain ⟨m, h1, a, r, hd, rfl, ha, a2, r2, hd2, rfl, ha2, hr2⟩ := hs
  rcases Nat.lt_or_ge g hB.size with hlt | hge
  · exfalso
    have h2 := ha2 g hB[g] (Array.getElem?_eq_getElem hlt)
    rcases hd g with h3 | h3
    · rw [show a g = some o from ha] at h3; cases h3
    · rw [join_left h2] at h3; cases h3
  · exact hge
end
end Go.H
namespace Go.Proofs.YtfhalebbcbgbdaaGreatDoor
open Go.H Go.Proofs Go.Lib
set_option linter.unusedSimpArgs false
set_option linter.unusedVariables false
theorem filt_size {f : ByteArray} (h : filterOK f = true) : f.size ≤ 256 := sizedT_le (filterOK_sized h)
theorem pref_size {s : ByteArray} (h : prefOK s = true) : s.size ≤ 256 := by
  unfold prefOK at h
  rw [Bool.or_eq_true] at h
  rcases h with h | h
  · rw [decide_eq_true_eq] at h
    subst h
    exact Nat.zero_le _
  · exact sizedT_le (nameOK_sized h)
structure RuleOK (r : RuleT) : Prop where
  p : r.1.size ≤ 256
  l : r.2.2.2.1.size ≤ 256
  rm : r.2.2.2.2.1.size ≤ 256
  d : 0 ≤ r.2.1 ∧ r.2.1 ≤ 2
  q : 0 ≤ r.2.2.1 ∧ r.2.2.1 ≤ 2
theorem chk_ok {r : RuleT} (h : chkR r = 0) : RuleOK r := by
  unfold chkR at h
  split at h
  · exact absurd h (by decide)
  split at h
  · exact absurd h (by decide)
  split at h
  · exact absurd h (by decide)
  split at h
  · exact absurd h (by decide)
  rename_i h1 h2 h3 h4
  have h2' : (prefOK r.2.2.2.1 && prefOK r.2.2.2.2.1) = true := by simpa using h2
  rw [Bool.and_eq_true] at h2'
  exact ⟨filt_size (by simpa using h1), pref_size h2'.1, pref_size h2'.2, by omega, by omega⟩
end Go.Proofs.YtfhalebbcbgbdaaGreatDoor
namespace Go.Proofs.YtfhalebbcbgbdaaGreatDoor
open Go.H Go.Proofs Go.Lib
set_option linter.unusedSimpArgs false
set_option linter.unusedVariables false
set_option synthInstance.maxSize 100000
set_option synthInstance.maxHeartbeats 400000
set_option maxRecDepth 100000
variable {h h0 : Heap} {R : List Asn}
def hasP (s p : ByteArray) : Bool := decide (p.size ≤ s.size) && decide (s.extract 0 p.size = p)
def restP (s p : ByteArray) : ByteArray := s.extract p.size s.size
theorem restP_size {s p : ByteArray} : (restP s p).size ≤ s.size := by unfold restP; rw [ByteArray.size_extract]; omega
theorem HasPrefix_spec {s p : ByteArray} {Q : Value → Heap → Prop} (hq : Q (.bool (hasP s p)) h) : HCalls Tryz.prog 209 #[.string s, .string p] h Q := by
  refine stringslite_HasPrefix_calls s p h Q ?_
  unfold stringslite_HasPrefix
  refine bind_cut (fun z h' => h' = h ∧ z.1 = hasP s p) ?_ ?_
  · unfold hasP
    (try dsimp only); rw [HM.ite_apply]
    by_cases hle : p.size ≤ s.size
    · rw [if_pos (by simp only [decide_eq_true_eq]; omega)]
      refine ⟨0, p.size, ⟨rfl, hle⟩, rfl, rfl, ?_⟩
      simp [hle]
    · rw [if_neg (by simp only [decide_eq_true_eq]; omega)]
      exact ⟨rfl, by simp [hle]⟩
  rintro ⟨z, ⟨⟩⟩ h1 ⟨rfl, hz⟩
  simp only at hz
  subst hz
  exact hq
theorem CutPrefix_spec {s p : ByteArray} {Q : Value → Heap → Prop} (hq : Q (.tuple #[.string (if hasP s p = true then restP s p else s), .bool (hasP s p)]) h) : HCalls Tryz.prog 141 #[.string s, .string p] h Q := by
  refine strings_CutPrefix_calls s p h Q ?_
  unfold strings_CutPrefix
  refine bind_callN ?_
  refine stringslite_CutPrefix_calls s p h _ ?_
  unfold stringslite_CutPrefix
  refine bind_call1 (HasPrefix_spec ⟨_, rfl, ?_⟩)
  (try dsimp only); rw [HM.ite_apply]
  cases hp : hasP s p with
  | false =>
    rw [hp, if_neg (by simp)] at hq
    rw [if_pos (by rfl)]
    exact ⟨(s, false, ()), rfl, hq⟩
  | true =>
    rw [hp, if_pos rfl] at hq
    rw [if_neg (by simp)]
    have hle : p.size ≤ s.size := by
      unfold hasP at hp
      simp only [Bool.and_eq_true, decide_eq_true_eq] at hp
      exact hp.1
    refine ⟨p.size, s.size, rfl, ⟨rfl, hle⟩, ?_⟩
    exact ⟨(restP s p, true, ()), rfl, hq⟩
def turnP (r : RuleT) (n fr to : ByteArray) : Option ByteArray :=
  if hasP n fr = true ∧ chkR r = 0 ∧ matchB r.1 (restP n fr) = true ∧ nameOK n = true ∧ nameOK (to ++ restP n fr) = true then some (to ++ restP n fr) else none
def optV (o : Option ByteArray) : Value := match o with
  | some t => .tuple #[.string t, .bool true]
  | none => .tuple #[.string (ByteArray.mk #[]), .bool false]
theorem turned_spec (hs : sat h (old h0 :: R)) (ht : TP h0) {r : RuleT} {n fr to : ByteArray} (hz : szR r) (hn : n.size ≤ bigB) (hto : chkR r = 0 → to.size ≤ 256) {Q : Value → Heap → Prop}
    (hq : ∀ h', sat h' (old h0 :: R) → Q (optV (turnP r n fr to)) h') : HCalls Tryz.prog 97 #[vR r, .string n, .string fr, .string to] h Q := by
  refine remap_Rule_turned_calls r n fr to h Q ?_
  unfold remap_Rule_turned
  refine new_cells hs fun x1 h1 hs1 => ?_
  refine bind_callN (CutPrefix_spec ⟨((if hasP n fr = true then restP n fr else n), hasP n fr, ()), rfl, ?_⟩)
  refine bind_cut (fun z h' => z.1 = (turnP r n fr to).isNone ∧ sat h' (old h0 :: R) ∧ (turnP r n fr to ≠ none → to.size ≤ 256 ∧ n.size ≤ 256)) ?_ ?_
  · (try dsimp only); rw [HM.ite_apply]
    cases hp : hasP n fr with
    | false =>
      rw [if_pos (by rfl)]
      have e : turnP r n fr to = none := by unfold turnP; rw [if_neg (fun e => by rw [hp] at e; exact absurd e.1 (by simp))]
      rw [e]
      exact ⟨rfl, hs1.drop, fun e => absurd rfl e⟩
    | true =>
    rw [if_neg (by simp), if_pos rfl]
    have hrs := restP_size (s := n) (p := fr)
    refine loadN_cells (ts := [.str, .int .i64, .int .i64, .str, .str]) r hs1 rfl ?_
    refine bind_call1 (Check_spec hs1.p1 ht hz fun h2 hs2' => ⟨_, rfl, ?_⟩)
    have hs2 := hs2'.p1
    (try dsimp only); rw [HM.ite_apply]
    by_cases hc : chkR r = 0
    rotate_left
    · rw [if_pos (by simpa using hc)]
      have e : turnP r n fr to = none := by unfold turnP; rw [if_neg (fun e => hc e.2.1)]
      rw [e]
      exact ⟨rfl, hs2.drop, fun e => absurd rfl e⟩
    rw [if_neg (by simpa using hc)]
    refine ⟨r.1, by rw [add_own]; exact hs2.cell 0, ?_⟩
    have hr1 : r.1.size ≤ 9223372036854775807 := Nat.le_trans hz.1 (by decide)
    have hn1 : (restP n fr).size ≤ 9223372036854775807 := Nat.le_trans hrs (Nat.le_trans hn (by decide))
    refine bind_call1 (Match_spec hs2.p1 ht hr1 hn1 fun h3 hs3 => ⟨_, rfl, ?_⟩)
    (try dsimp only); rw [HM.ite_apply]
    cases hm : matchB r.1 (restP n fr) with
    | false =>
      rw [if_pos (by rfl)]
      have e : turnP r n fr to = none := by unfold turnP; rw [if_neg (fun e => by rw [hm] at e; exact absurd e.2.2.1 (by simp))]
      rw [e]
      exact ⟨rfl, hs3.p1.drop, fun e => absurd rfl e⟩
    | true =>
    rw [if_neg (by simp)]
    refine bind_call1 (CheckName_spec hs3 ht (Nat.le_trans hn (by decide)) fun h4 hs4 => ⟨_, rfl, ?_⟩)
    (try dsimp only); rw [HM.ite_apply]
    cases hnm : nameOK n with
    | false =>
      rw [if_pos (by simp [nameC, hnm])]
      have e : turnP r n fr to = none := by unfold turnP; rw [if_neg (fun e => by rw [hnm] at e; exact absurd e.2.2.2.1 (by simp))]
      rw [e]
      exact ⟨rfl, hs4.p1.drop, fun e => absurd rfl e⟩
    | true =>
    rw [if_neg (by simp [nameC, hnm])]
    have hn256 : n.size ≤ 256 := sizedT_le (nameOK_sized hnm)
    have hto2 := hto hc
    refine ⟨by omega, ?_⟩
    refine bind_call1 (CheckName_spec hs4 ht (by rw [ByteArray.size_append]; omega) fun h5 hs5 => ⟨_, rfl, ?_⟩)
    have e : turnP r n fr to = if nameOK (to ++ restP n fr) = true then some (to ++ restP n fr) else none := by
      unfold turnP
      by_cases hx : nameOK (to ++ restP n fr) = true
      · rw [if_pos ⟨hp, hc, hm, hnm, hx⟩, if_pos hx]
      · rw [if_neg (fun e => hx e.2.2.2.2), if_neg hx]
    refine ⟨?_, hs5.p1.drop, fun _ => ⟨hto2, hn256⟩⟩
    rw [e]
    unfold nameC
    cases nameOK (to ++ restP n fr) <;> rfl
  rintro ⟨z, ⟨⟩⟩ h2 ⟨hzz, hs2, hsm⟩
  simp only at hzz
  subst hzz
  (try dsimp only); rw [HM.ite_apply]
  cases ht2 : turnP r n fr to with
  | none =>
    rw [if_pos (by rfl)]
    rw [ht2] at hq
    exact hq _ hs2
  | some t =>
    rw [if_neg (by simp)]
    rw [ht2] at hq hsm
    obtain ⟨h6, h7⟩ := hsm (by simp)
    have hp : hasP n fr = true ∧ t = to ++ restP n fr := by
      unfold turnP at ht2
      split at ht2
      · rename_i hc
        cases ht2
        exact ⟨hc.1, rfl⟩
      · cases ht2
    rw [if_pos hp.1]
    have hrs := restP_size (s := n) (p := fr)
    refine ⟨by omega, ?_⟩
    rw [hp.2] at hq
    exact hq _ hs2
def toP (r : RuleT) (n : ByteArray) : Option ByteArray := if r.2.1 = 1 then none else turnP r n r.2.2.2.1 r.2.2.2.2.1
theorem ToRemote_spec (hs : sat h (old h0 :: R)) (ht : TP h0) {r : RuleT} {n : ByteArray} (hz : szR r) (hn : n.size ≤ bigB) {Q : Value → Heap → Prop}
    (hq : ∀ h', sat h' (old h0 :: R) → Q (optV (toP r n)) h') : HCalls Tryz.prog 56 #[vR r, .string n] h Q := by
  refine remap_Rule_ToRemote_calls r n h Q ?_
  unfold remap_Rule_ToRemote
  unfold toP at hq
  refine new_cells hs fun x1 h1 hs1 => ?_
  refine ⟨r.2.1, by rw [add_own]; exact hs1.cell 1, ?_⟩
  (try dsimp only); rw [HM.ite_apply]
  by_cases hd : r.2.1 = 1
  · rw [if_pos hd] at hq
    rw [if_pos (by simpa using hd)]
    exact hq _ hs1.drop
  rw [if_neg hd] at hq
  rw [if_neg (by simpa using hd)]
  refine loadN_cells (ts := [.str, .int .i64, .int .i64, .str, .str]) r hs1 rfl ?_
  refine ⟨r.2.2.2.1, by rw [add_own]; exact hs1.cell 3, r.2.2.2.2.1, by rw [add_own]; exact hs1.cell 4, ?_⟩
  refine bind_callN (turned_spec hs1.p1 ht hz hn (fun hc => (chk_ok hc).rm) fun h2 hs2 => ?_)
  have := hq h2 hs2.p1.drop
  cases ht2 : turnP r n r.2.2.2.1 r.2.2.2.2.1 with
  | none => rw [ht2] at this; exact ⟨(ByteArray.mk #[], false, ()), rfl, this⟩
  | some t => rw [ht2] at this; exact ⟨(t, true, ()), rfl, this⟩
abbrev encRu (r : RuleT) : List Value := [.string r.1, .int .i64 r.2.1, .int .i64 r.2.2.1, .string r.2.2.2.1, .string r.2.2.2.2.1]
theorem eRu_len : ∀ x : RuleT, (encRu x).length = 5 := fun _ => rfl
theorem eRu_cell : ∀ x : RuleT, ∀ v ∈ encRu x, v.oneCell' = true := fun x v hv => by
  simp only [encRu, List.mem_cons, List.not_mem_nil, or_false] at hv
  rcases hv with rfl | rfl | rfl | rfl | rfl <;> rfl
abbrev HopT := Int × ByteArray × Int × Unit
abbrev encHo (x : HopT) : List Value := [.int .i64 x.1, .string x.2.1, .int .i64 x.2.2.1]
theorem eHo_len : ∀ x : HopT, (encHo x).length = 3 := fun _ => rfl
theorem eHo_cell : ∀ x : HopT, ∀ v ∈ encHo x, v.oneCell' = true := fun x v hv => by
  simp only [encHo, List.mem_cons, List.not_mem_nil, or_false] at hv
  rcases hv with rfl | rfl | rfl <;> rfl
def hopP (n : ByteArray) (q : Int) (i : Nat) (r : RuleT) : List HopT := match toP r n with
  | some t => [((i : Int), t, (if r.2.2.1 < q then r.2.2.1 else q), ())]
  | none => []
def routeP (n : ByteArray) (q : Int) : Nat → List RuleT → List HopT
  | _, [] => []
  | i, r :: rs => hopP n q i r ++ routeP n q (i + 1) rs
theorem hopP_len (n : ByteArray) (q : Int) (i : Nat) (r : RuleT) : (hopP n q i r).length ≤ 1 := by unfold hopP; split <;> simp
theorem load_Ru {a : Addr} {r : RuleT} (ha : ∀ j v, (encRu r)[j]? = some v → cellH h (a.add j) = some v) {Q : RuleT → Heap → Prop} (hq : Q r h) : HM.loadN [.str, .int .i64, .int .i64, .str, .str] a h Q :=
  loadN_of (ts := [.str, .int .i64, .int .i64, .str, .str]) r (fun i v hv => ha i v hv) hq
theorem rmRoute_spec {s : Slc} {rs : List RuleT} {n : ByteArray} {q : Int} (hs : sat h (ownS encRu 5 s rs :: old h0 :: R)) (ht : TP h0) (hz : ∀ r ∈ rs, szR r) (hn : n.size ≤ bigB) (hl : rs.length ≤ 1000) {Q : Value → Heap → Prop}
    (hq : ∀ h' S, sat h' (ownS encHo 3 S (routeP n q 0 rs) :: ownS encRu 5 s rs :: old h0 :: R) → Q (.slice S.a S.len S.cap) h') : HCalls Tryz.prog 28 #[.slice s.a s.len s.cap, .string n, .int .i64 q] h Q := by
  refine remap_Route_calls s n q h Q ?_
  unfold remap_Route
  have hsl := hs.own_len
  (try dsimp only); rw [HM.bind_apply]
  refine loop_gx (γ := Nat × List HopT) (hb := fun s => by
      repeat' with_reducible first
        | refine @mono_bind _ _ _ _ ?_ (fun _ => ?_)
        | refine @mono_ite _ _ _ _ ?_ ?_
      all_goals infer_instance)
    (fun g c h' => c.2.1 = (((rs.length - g.1 : Nat)) : Int) ∧ g.1 ≤ rs.length ∧ routeP n q 0 rs = g.2 ++ routeP n q (rs.length - g.1) (rs.drop (rs.length - g.1)) ∧ g.2.length ≤ rs.length - g.1 ∧ sat h' (ownS encHo 3 c.1 g.2 :: ownS encRu 5 s rs :: old h0 :: R)) (fun g => g.1) (rs.length, [])
    ⟨by simp, Nat.le_refl _, by simp, by simp, ownS_nil hs⟩ ?_
  rintro ⟨g, done⟩ ⟨out, c, ⟨⟩⟩ h1 ⟨hc, hg, he, hdl, hs1⟩
  simp only at hc hg he hdl hs1
  subst hc
  (try dsimp only); rw [HM.ite_apply]
  by_cases hi : rs.length - g < rs.length
  rotate_left
  · rw [if_neg (by simp only [decide_eq_true_eq, hsl]; omega)]
    simp only [Sum.elim_inl, Sum.elim_inr, HM.pure_apply]
    rw [show rs.drop (rs.length - g) = [] by simp; omega] at he
    have e : routeP n q 0 rs = done := by rw [he]; simp [routeP]
    refine hq h1 out ?_
    rw [e]
    exact hs1
  rw [if_pos (by simp only [decide_eq_true_eq, hsl]; omega)]
  obtain ⟨r, hr⟩ : ∃ r, rs[rs.length - g]? = some r := ⟨_, List.getElem?_eq_getElem hi⟩
  rw [drop_at hr, routeP] at he
  (try dsimp only); rw [HM.bind_apply]
  refine idx_row (hs1.p1.own_row eRu_len) hr fun p hp => ?_
  (try dsimp only); rw [HM.bind_apply]
  refine load_Ru hp ?_
  refine new_cells hs1 fun x5 h2 hs2' => ?_
  (try dsimp only); rw [HM.bind_apply]
  refine storeN_all' hs2' rfl rfl fun h3 hs3 => ?_
  refine loadN_cells (ts := [.str, .int .i64, .int .i64, .str, .str]) r hs3 rfl ?_
  refine bind_callN (ToRemote_spec hs3.p3 ht (hz r (List.mem_of_getElem? hr)) hn fun h4 hs4' => ?_)
  have hs4 := hs4'.re [1, 2, 3, 0]
  have hw : IntKind.wrap .i64 ((((rs.length - g : Nat)) : Int) + 1) = ((rs.length - (g - 1) : Nat) : Int) := by rw [wrap_id (by omega) (by omega)]; omega
  have hstep : rs.length - g + 1 = rs.length - (g - 1) := by omega
  rw [hstep] at he
  unfold hopP at he
  cases hto : toP r n with
  | none =>
    rw [hto] at he
    refine ⟨(ByteArray.mk #[], false, ()), rfl, ?_⟩
    (try dsimp only); rw [HM.bind_apply, HM.ite_apply, if_neg (by simp)]
    simp only [Sum.elim_inl, Sum.elim_inr, HM.pure_apply]
    exact .mk (g - 1, done) (by simp only; omega) ⟨hw, by simp only; omega, by simp only; rw [he]; simp, by simp only; omega, hs4.drop⟩
  | some t =>
    rw [hto] at he
    refine ⟨(t, true, ()), rfl, ?_⟩
    (try dsimp only); rw [HM.bind_apply, HM.ite_apply, if_pos rfl]
    refine ⟨r.2.2.1, by rw [add_own]; exact hs4.cell 2, ?_⟩
    refine new_cells hs4 fun y h5 hs5 => ?_
    (try dsimp only); rw [HM.bind_apply]
    refine append_own (enc := encHo) (ys := [(((rs.length - g : Nat) : Int), t, (if r.2.2.1 < q then r.2.2.1 else q), ())]) eHo_len eHo_cell rfl (hs5.p2) rfl ?_ (by decide) (by decide) (by omega) fun s' h6 hs6 => ?_
    · simp only [srcSlc, Nat.one_mul, List.flatMap_cons, List.flatMap_nil, List.append_nil]
      exact hs5.reads rfl
    simp only [Sum.elim_inl, Sum.elim_inr, HM.pure_apply]
    exact .mk (g - 1, done ++ [(((rs.length - g : Nat) : Int), t, (if r.2.2.1 < q then r.2.2.1 else q), ())]) (by simp only; omega) ⟨hw, by simp only; omega, by simp only; rw [he]; simp, by simp only [List.length_append, List.length_cons, List.length_nil]; omega, (hs6.re [1, 2, 0, 3, 4]).drop.drop⟩
end Go.Proofs.YtfhalebbcbgbdaaGreatDoor
namespace Go.Proofs.YtfhalebbcbgbdaaGreatDoor
open Go.H Go.Proofs
set_option linter.unusedSimpArgs false
set_option linter.unusedVariables false
set_option maxRecDepth 100000
variable {h0 : Heap} {L L' : List Asn} {Q : Value → Heap → Prop}
instance : Enc encRu 5 := ⟨eRu_len, eRu_cell, by decide⟩
instance : Enc encHo 3 := ⟨eHo_len, eHo_cell, by decide⟩
theorem routeP_len (n : ByteArray) (q : Int) : ∀ (rs : List RuleT) (i : Nat), (routeP n q i rs).length ≤ rs.length
  | [], _ => Nat.le_refl _
  | r :: rs, i => by
    have h1 := hopP_len n q i r
    have h2 := routeP_len n q rs (i + 1)
    simp only [routeP, List.length_append, List.length_cons]
    omega
end Go.Proofs.YtfhalebbcbgbdaaGreatDoor
namespace Go.Proofs.YtfhalebbcbgbdaaGreatDoor
open Go.H Go.Proofs
set_option linter.unusedSimpArgs false
set_option linter.unusedVariables false
set_option maxRecDepth 100000
variable {h : Heap} {R : List Asn}
theorem osend_spec {b : Nat} {o : OutS} {m : MsT} (hs : sat h (outA b o :: R)) (hok : FlowOK o) {Q : Value → Heap → Prop}
    (hq : ∀ S h', sat h' (outA b (sendF o m).1.1 :: pksA .u8 S (sendF o m).1.2 :: R) → Q (.tuple #[.slice S.a S.len S.cap, .int .u8 (sendF o m).2]) h') :
    HCalls Tryz.prog 51 #[at0 b, vMs m] h Q := by
  refine outflow_Flow_Send_calls (some ⟨b, 0, none⟩) (toU m) h Q ?_
  obtain ⟨pb, fl, wt, hs0⟩ := outA_iff.1 hs
  have hwl : wt.len = o.waiting.length := (hs0.re [3, 0, 1, 2]).own_len
  unfold outflow_Flow_Send
  refine new_cells hs0 fun mb h1 hs1' => ?_
  have hs1 : sat h1 (cells mb (encM m).toArray :: cells b #[at0 pb, .int .i64 o.most, .bool o.on, .slice fl.a fl.len fl.cap, .slice wt.a wt.len wt.cap] :: poolA pb o.pool :: ownS encF 7 fl o.flights :: ownS encM 5 wt o.waiting :: R) := hs1'
  clear hs1' hs0 hs
  have hM : cellH h1 ⟨mb, 2, none⟩ = some (.int .i64 m.2.2.1) := hs1.cell 2
  have stay : ∀ {c : Int}, sendF o m = ((o, []), c) → Q (.tuple #[.slice none 0 0, .int .u8 c]) h1 := fun {c} he => by
    have := hq ⟨none, 0, 0⟩ h1
    rw [he] at this
    exact this ((pks_nil (outA_iff.2 ⟨pb, fl, wt, hs1.drop⟩)).p1)
  (try dsimp only); rw [HM.ite_apply, if_neg (by simp)]
  refine cut (fun x h' => h' = h1 ∧ x.1 = decide (m.2.2.1 < 0 ∨ 2 < m.2.2.1)) ?_ ?_
  · intro K hK
    refine ⟨m.2.2.1, by rw [add_own]; exact hM, ?_⟩
    (try dsimp only); rw [HM.ite_apply]
    by_cases h0 : m.2.2.1 < 0
    · rw [if_pos (by simpa using h0)]
      exact hK _ _ ⟨rfl, by simp [h0]⟩
    · rw [if_neg (by simpa using h0)]
      exact ⟨m.2.2.1, by rw [add_own]; exact hM, hK _ _ ⟨rfl, by simp [h0]⟩⟩
  rintro ⟨x, ⟨⟩⟩ h2 ⟨rfl, hx⟩
  simp only at hx
  subst hx
  (try dsimp only); rw [HM.ite_apply]
  by_cases hbad : m.2.2.1 < 0 ∨ 2 < m.2.2.1
  · rw [if_pos (by simpa using hbad)]
    exact stay (by unfold sendF; rw [if_pos hbad])
  rw [if_neg (by simpa using hbad)]
  refine cut (fun x h' => h' = h2 ∧ x.1 = decide (m.2.2.1 = 0 ∧ o.on = false)) ?_ ?_
  · intro K hK
    refine ⟨m.2.2.1, by rw [add_own]; exact hM, ?_⟩
    (try dsimp only); rw [HM.ite_apply]
    by_cases h0 : m.2.2.1 = 0
    · rw [if_pos (by simpa using h0)]
      refine ⟨_, rfl, o.on, by rw [add_own]; exact hs1.p1.cell 2, hK _ _ ⟨rfl, ?_⟩⟩
      cases o.on <;> simp [h0]
    · rw [if_neg (by simpa using h0)]
      exact hK _ _ ⟨rfl, by simp [h0]⟩
  rintro ⟨x, ⟨⟩⟩ h3 ⟨rfl, hx⟩
  simp only at hx
  subst hx
  (try dsimp only); rw [HM.ite_apply]
  by_cases hoff : m.2.2.1 = 0 ∧ o.on = false
  · rw [if_pos (by simpa using hoff)]
    exact stay (by unfold sendF; rw [if_neg hbad, if_pos hoff])
  rw [if_neg (by simpa using hoff)]
  refine ⟨_, rfl, wt, by rw [add_own]; exact hs1.p1.cell 4, ?_⟩
  (try dsimp only); rw [HM.ite_apply]
  by_cases hfull : 256 ≤ o.waiting.length
  · rw [if_pos (by rw [hwl]; simp only [decide_eq_true_eq]; omega)]
    exact stay (by unfold sendF; rw [if_neg hbad, if_neg hoff, if_pos hfull])
  rw [if_neg (by rw [hwl]; simp only [decide_eq_true_eq]; omega)]
  refine ⟨_, rfl, wt, by rw [add_own]; exact hs1.p1.cell 4, ?_⟩
  refine loadN_cells (ts := [.str, .str, .int .i64, .bool, .str]) (toU m) hs1 rfl ?_
  refine new_cells hs1 fun x14 h4 hs2' => ?_
  have hs2 : sat h4 (cells x14 (encM m).toArray :: cells mb (encM m).toArray :: cells b #[at0 pb, .int .i64 o.most, .bool o.on, .slice fl.a fl.len fl.cap, .slice wt.a wt.len wt.cap] :: poolA pb o.pool :: ownS encF 7 fl o.flights :: ownS encM 5 wt o.waiting :: R) := hs2'
  clear hs2'
  refine ⟨wt, by rw [add_own]; exact hs2.p2.cell 4, rfl, ?_⟩
  (try dsimp only); rw [HM.bind_apply]
  refine append_own (enc := encM) (ys := [m]) eMs_len eMs_cell rfl hs2.p5 rfl ?_ (by decide) (by decide) (by omega) fun wt' h5 hs3 => ?_
  · simp only [srcSlc, Nat.one_mul, List.flatMap_cons, List.flatMap_nil, List.append_nil]
    exact hs2.reads rfl
  refine ⟨_, rfl, ?_⟩
  (try dsimp only); rw [HM.bind_apply, add_own]
  refine store1_cells hs3.p3 (by simp) rfl fun h6 hs4 => ?_
  have hs5 : sat h6 (outA b { o with waiting := o.waiting ++ [m] } :: pksA .u8 ⟨none, 0, 0⟩ [] :: R) := by
    refine (pks_nil (outA_iff.2 ⟨pb, fl, wt', ?_⟩)).p1
    exact (hs4.re [0, 4, 5, 1, 2, 3]).p4.p5.drop.drop
  have hw := hok.wait (m := m) ⟨by omega, by omega⟩ hfull
  have he : sendF o m = (goOnF { o with waiting := o.waiting ++ [m] }, 0) := by unfold sendF; rw [if_neg hbad, if_neg hoff, if_neg hfull]
  rw [he] at hq
  refine bind_call1 (goOn_spec hs5 hw (by simp) fun h7 S hs6 => ⟨S, rfl, ?_⟩)
  exact hq S h7 hs6
theorem bounded_of {n : Int} {Q : Value → Heap → Prop} (hq : Q (.int .i64 (max 1 (min n 64))) h) : HCalls Tryz.prog 68 #[.int .i64 n] h Q := by
  refine outflow_bounded_calls n h Q ?_
  unfold outflow_bounded
  have e : (if 1 < (if 64 < n then (64 : Int) else n) then (if 64 < n then 64 else n) else 1) = max 1 (min n 64) := by
    split <;> split <;> omega
  rw [e]
  exact hq
abbrev FlU := Int × ByteArray × ByteArray × Int × Bool × ByteArray × Bool × Unit
abbrev toFU (f : FlT) : FlU := (f.1, f.2.1.1, f.2.1.2.1, f.2.1.2.2.1, f.2.1.2.2.2.1, f.2.1.2.2.2.2, f.2.2, ())
theorem obegin_spec {b : Nat} {o : OutS} {most : Int} (hs : sat h (outA b o :: R)) (hok : FlowOK o) {Q : Value → Heap → Prop}
    (hq : ∀ S h', sat h' (outA b (beginF o most).1 :: pksA .u8 S (beginF o most).2 :: R) → Q (.slice S.a S.len S.cap) h') :
    HCalls Tryz.prog 46 #[at0 b, .int .i64 most] h Q := by
  refine outflow_Flow_Begin_calls (some ⟨b, 0, none⟩) most h Q ?_
  obtain ⟨pb, fl, wt, hs0⟩ := outA_iff.1 hs
  unfold outflow_Flow_Begin
  (try dsimp only); rw [HM.ite_apply, if_neg (by simp)]
  refine bind_call1 (bounded_of ⟨_, rfl, ?_⟩)
  refine ⟨_, rfl, ?_⟩
  (try dsimp only); rw [HM.bind_apply, add_own]
  refine store1_cells hs0 (by simp) rfl fun h1 hs1 => ?_
  refine ⟨_, rfl, ?_⟩
  (try dsimp only); rw [HM.bind_apply, add_own]
  refine store1_cells hs1 (by simp) rfl fun h2 hs2' => ?_
  have hs2 : sat h2 (cells b #[at0 pb, .int .i64 (max 1 (min most 64)), .bool true, .slice fl.a fl.len fl.cap, .slice wt.a wt.len wt.cap] :: poolA pb o.pool :: ownS encF 7 fl o.flights :: ownS encM 5 wt o.waiting :: R) := hs2'
  clear hs2' hs1 hs0 hs
  refine ⟨_, rfl, fl, by rw [add_own]; exact hs2.cell 3, ?_⟩
  have hfl : fl.len = o.flights.length := hs2.p2.own_len
  have hf64 := hok.f64
  (try dsimp only); rw [HM.bind_apply]
  refine loop_for o.flights.length (fun i x h' => x.2.1 = (i : Int) ∧ sat h' (cells b #[at0 pb, .int .i64 (max 1 (min most 64)), .bool true, .slice fl.a fl.len fl.cap, .slice wt.a wt.len wt.cap] :: poolA pb o.pool :: ownS encF 7 fl o.flights :: ownS encM 5 wt o.waiting :: pksA .u8 x.1 ((o.flights.take i).map againF) :: R))
    ⟨rfl, by simpa using (pks_nil (k := .u8) hs2).re [1, 2, 3, 4, 0]⟩ (fun i x h hi hJ => by rw [hJ.1, hfl]; exact decide_eq_decide.2 (by omega)) (fun x h hJ K hd => ?_) (fun i x h hlt hJ K hnx hd => ?_)
  · obtain ⟨hx, hs3⟩ := hJ
    rw [List.take_length] at hs3
    refine hd _ _ ?_
    have hs4 : sat h (outA b { o with on := true, most := max 1 (min most 64) } :: pksA .u8 x.1 (o.flights.map againF) :: R) := outA_iff.2 ⟨pb, fl, wt, hs3⟩
    have h1 : FlowOK { o with on := true, most := max 1 (min most 64) } := ⟨hok.pm, hok.pk, by simp only; omega, by simp only; omega, hok.ids, hok.wl, hok.fq, hok.wq⟩
    refine bind_call1 (goOn_spec hs4 h1 (by rw [List.length_map]; omega) fun h7 S hs6 => ⟨S, rfl, ?_⟩)
    exact hq S h7 hs6
  · obtain ⟨out, ci, ⟨⟩⟩ := x
    obtain ⟨hx, hs3⟩ := hJ
    simp only at hx hs3
    subst hx
    have hy := List.getElem?_eq_getElem hlt
    have htk : (o.flights.take (i + 1)).map againF = (o.flights.take i).map againF ++ [againF o.flights[i]] := by rw [List.take_add_one, hy, List.map_append]; rfl
    generalize o.flights[i] = f at hy htk
    (try dsimp only); rw [HM.bind_apply]
    refine idx_row (hs3.p2.own_row eF_len) hy fun a ha => ?_
    refine loadN_of (ts := [.int .i64, .str, .str, .int .i64, .bool, .str, .bool]) (toFU f) ha ?_
    refine new_cells hs3 fun x10 h4 hs4 => ?_
    (try dsimp only); rw [HM.bind_apply]
    refine storeN_all' hs4 rfl rfl fun h5 hs5' => ?_
    have hs5 : sat h5 (cells x10 (encF f).toArray :: cells b #[at0 pb, .int .i64 (max 1 (min most 64)), .bool true, .slice fl.a fl.len fl.cap, .slice wt.a wt.len wt.cap] :: poolA pb o.pool :: ownS encF 7 fl o.flights :: ownS encM 5 wt o.waiting :: pksA .u8 out ((o.flights.take i).map againF) :: R) := hs5'
    clear hs5' hs4
    refine ⟨f.2.2, by rw [add_own]; exact hs5.cell 6, ?_⟩
    have hbl : ((o.flights.take i).map againF).length ≤ 64 := by rw [List.length_map, List.length_take]; omega
    refine cut (fun z h' => sat h' (pksA .u8 z.1 ((o.flights.take (i + 1)).map againF) :: cells b #[at0 pb, .int .i64 (max 1 (min most 64)), .bool true, .slice fl.a fl.len fl.cap, .slice wt.a wt.len wt.cap] :: poolA pb o.pool :: ownS encF 7 fl o.flights :: ownS encM 5 wt o.waiting :: R)) ?_ ?_
    · intro K2 hK2
      rw [htk] at hK2
      (try dsimp only); rw [HM.ite_apply]
      unfold againF at hK2
      by_cases hr : f.2.2 = true
      · rw [if_pos hr]
        rw [if_pos hr] at hK2
        refine ⟨f.1, by rw [add_own]; exact hs5.cell 0, ?_⟩
        have hs6 := pkB_none (k := .u8) (o := ackO 6 f.1 0) rfl rfl hs5
        refine pks_push (t := (⟨none, 0, 0⟩, ⟨none, 0, 0⟩, ackO 6 f.1 0)) (hs6.re [6, 0, 1, 2, 3, 4, 5]) rfl (by decide) (by omega) fun s' h6 hs7 => ?_
        exact hK2 _ _ hs7.p1.drop
      · rw [if_neg hr]
        rw [if_neg hr] at hK2
        refine loadN_of (ts := [.str, .str, .int .i64, .bool, .str]) (toU f.2.1) (fun j v hv => ?_) ?_
        · rw [add_own, Addr.add_at, hs5.cell]
          match j, hv with
          | 0, hv => exact hv
          | 1, hv => exact hv
          | 2, hv => exact hv
          | 3, hv => exact hv
          | 4, hv => exact hv
          | n + 5, hv => exact absurd hv (by show ¬ (encM f.2.1)[n + 5]? = some v; simp)
        refine ⟨f.1, by rw [add_own]; exact hs5.cell 0, ?_⟩
        refine bind_call1 (packet_of (m := f.2.1) (id := f.1) (dup := true) hs5 fun c p h6 hs6 => ⟨pkT (pubO f.2.1 f.1 true) c p, rfl, ?_⟩)
        refine pks_push (t := (c, p, pubO f.2.1 f.1 true)) (hs6.re [6, 0, 1, 2, 3, 4, 5]) rfl (by decide) (by omega) fun s' h7 hs7 => ?_
        exact hK2 _ _ hs7.p1.drop
    rintro ⟨out', ⟨⟩⟩ h6 hs6
    exact hnx _ _ ⟨by rw [wrap_id (by omega) (by omega)]; rfl, hs6.re [1, 2, 3, 4, 0]⟩
end Go.Proofs.YtfhalebbcbgbdaaGreatDoor
namespace Go.H
set_option linter.unusedSimpArgs false
set_option linter.unusedVariables false
open Go.MapKept (Stamped)
section
variable {K : Type} [DecidableEq K]
end
section
variable {K V : Type} {h : Heap} {R : List Asn} {ek : K → Value}
variable [DecidableEq K]
end
abbrev e2 (k : Int × Int) : Value := .agg #[.int .i64 k.1, .int .i64 k.2]
end Go.H
namespace Go.Proofs.YtfhalebbcbgbdaaGreatDoor
open Go.H Go.Proofs
set_option linter.unusedSimpArgs false
set_option linter.unusedVariables false
set_option synthInstance.maxSize 100000
set_option synthInstance.maxHeartbeats 400000
abbrev TagT := Int × Int
def goodTag (t : TagT) : Prop := 0 ≤ t.1 ∧ t.1 < 8 ∧ 1 ≤ t.2 ∧ t.2 ≤ 9007199254740992
instance (t : TagT) : Decidable (goodTag t) := by unfold goodTag; infer_instance
theorem tgood_spec {h : Heap} {R : List Asn} (hs : sat h R) {t : TagT} {Q : Value → Heap → Prop} (hq : ∀ h', sat h' R → Q (.bool (decide (goodTag t))) h') :
    HCalls Tryz.prog 98 #[e2 t] h Q := by
  obtain ⟨a, b⟩ := t
  refine tags_Tag_good_calls (a, b, ()) h Q ?_
  unfold tags_Tag_good
  refine new_cells hs fun tb h1 hs1 => ?_
  have c0 : cellH h1 ⟨tb, 0, none⟩ = some (.int .i64 a) := hs1.cell 0
  have c1 : cellH h1 ⟨tb, 1, none⟩ = some (.int .i64 b) := hs1.cell 1
  have hq' := hq h1 hs1.drop
  refine bind_cut (fun x h' => h' = h1 ∧ x.1 = decide (goodTag (a, b))) ?_ ?_
  · unfold goodTag
    by_cases g1 : 0 ≤ a <;> by_cases g2 : a < 8 <;> by_cases g3 : 1 ≤ b <;> by_cases g4 : b ≤ 9007199254740992 <;> simp [add_own, c0, c1, g1, g2, g3, g4] <;> omega
  · rintro ⟨x, ⟨⟩⟩ h2 ⟨rfl, hx⟩
    simp only at hx
    subst hx
    exact hq'
end Go.Proofs.YtfhalebbcbgbdaaGreatDoor
namespace Go.Proofs.YtfhalebbcbgbdaaGreatDoor
set_option linter.unusedSimpArgs false
set_option linter.unusedVariables false
open Go.Proofs Go.Shelf
def itoaL_ren : Go.Shelf.Ren := ⟨fun n => match n with | 171 => 59 | 243 => 101 | 246 => 102 | 283 => 145 | 284 => 146 | 285 => 147 | 286 => 148 | 129 => 183 | 317 => 182 | 318 => 184 | 319 => 185 | 320 => 186 | 337 => 210 | 338 => 211 | n => n, fun n => match n with | 3 => 3 | 9 => 9 | 2 => 2 | 4 => 4 | 171 => 242 | 0 => 0 | 53 => 125 | 37 => 106 | 5 => 5 | 173 => 245 | 212 => 274 | 51 => 275 | 20 => 20 | 213 => 276 | 46 => 204 | 232 => 306 | 233 => 307 | n => n, fun n => match n with | 17 => 0 | 18 => 4 | 19 => 5 | n => n⟩
theorem itoaL : Lays.n171 Tryz.prog itoaL_ren where
  mixed := by kernel_rfl
  f129 := Tryz.func183.trans (congrArg some (by kernel_rfl))
  f171 := Tryz.func59.trans (congrArg some (by kernel_rfl))
  f243 := Tryz.func101.trans (congrArg some (by kernel_rfl))
  f246 := Tryz.func102.trans (congrArg some (by kernel_rfl))
  f283 := Tryz.func145.trans (congrArg some (by kernel_rfl))
  f284 := Tryz.func146.trans (congrArg some (by kernel_rfl))
  f285 := Tryz.func147.trans (congrArg some (by kernel_rfl))
  f286 := Tryz.func148.trans (congrArg some (by kernel_rfl))
  f317 := Tryz.func182.trans (congrArg some (by kernel_rfl))
  f318 := Tryz.func184.trans (congrArg some (by kernel_rfl))
  f319 := Tryz.func185.trans (congrArg some (by kernel_rfl))
  f320 := Tryz.func186.trans (congrArg some (by kernel_rfl))
  f337 := Tryz.func210.trans (congrArg some (by kernel_rfl))
  f338 := Tryz.func211.trans (congrArg some (by kernel_rfl))
  t0 := Tryz.underlying0
  a0 := Tryz.isAgg0
  z0 := Tryz.sizeOf0
  v0 := Tryz.zeroValue0
  t2 := Tryz.underlying2
  a2 := Tryz.isAgg2
  z2 := Tryz.sizeOf2
  v2 := Tryz.zeroValue2
  t3 := Tryz.underlying3
  a3 := Tryz.isAgg3
  z3 := Tryz.sizeOf3
  v3 := Tryz.zeroValue3
  t4 := Tryz.underlying4
  a4 := Tryz.isAgg4
  z4 := Tryz.sizeOf4
  v4 := Tryz.zeroValue4
  t5 := Tryz.underlying5
  a5 := Tryz.isAgg5
  z5 := Tryz.sizeOf5
  v5 := Tryz.zeroValue5
  t9 := Tryz.underlying9
  a9 := Tryz.isAgg9
  z9 := Tryz.sizeOf9
  v9 := Tryz.zeroValue9
  t20 := Tryz.underlying20
  a20 := Tryz.isAgg20
  z20 := Tryz.sizeOf20
  v20 := Tryz.zeroValue20
  t37 := Tryz.underlying106
  a37 := Tryz.isAgg106
  z37 := Tryz.sizeOf106
  v37 := Tryz.zeroValue106
  t46 := Tryz.underlying204
  a46 := Tryz.isAgg204
  z46 := Tryz.sizeOf204
  v46 := Tryz.zeroValue204
  t51 := Tryz.underlying275
  a51 := Tryz.isAgg275
  z51 := Tryz.sizeOf275
  v51 := Tryz.zeroValue275
  t53 := Tryz.underlying125
  a53 := Tryz.isAgg125
  z53 := Tryz.sizeOf125
  v53 := Tryz.zeroValue125
  t171 := Tryz.underlying242
  a171 := Tryz.isAgg242
  z171 := Tryz.sizeOf242
  v171 := Tryz.zeroValue242
  t173 := Tryz.underlying245
  a173 := Tryz.isAgg245
  z173 := Tryz.sizeOf245
  v173 := Tryz.zeroValue245
  t212 := Tryz.underlying274
  a212 := Tryz.isAgg274
  z212 := Tryz.sizeOf274
  v212 := Tryz.zeroValue274
  t213 := Tryz.underlying276
  a213 := Tryz.isAgg276
  z213 := Tryz.sizeOf276
  t232 := Tryz.underlying306
  a232 := Tryz.isAgg306
  z232 := Tryz.sizeOf306
  v232 := Tryz.zeroValue306
  t233 := Tryz.underlying307
  a233 := Tryz.isAgg307
  z233 := Tryz.sizeOf307
  v233 := Tryz.zeroValue307
  g17 := by kernel_rfl
  g18 := by kernel_rfl
  g19 := by kernel_rfl
def formatL_ren : Go.Shelf.Ren := ⟨fun n => match n with | 173 => 60 | 246 => 102 | 283 => 145 | 284 => 146 | 285 => 147 | 286 => 148 | 129 => 183 | 317 => 182 | 318 => 184 | 319 => 185 | 320 => 186 | 337 => 210 | 338 => 211 | n => n, fun n => match n with | 2 => 2 | 3 => 3 | 9 => 9 | 4 => 4 | 171 => 242 | 0 => 0 | 53 => 125 | 37 => 106 | 5 => 5 | 173 => 245 | 212 => 274 | 51 => 275 | 20 => 20 | 213 => 276 | 46 => 204 | 232 => 306 | 233 => 307 | n => n, fun n => match n with | 17 => 0 | 18 => 4 | 19 => 5 | n => n⟩
theorem formatL : Lays.n173 Tryz.prog formatL_ren where
  mixed := by kernel_rfl
  f129 := Tryz.func183.trans (congrArg some (by kernel_rfl))
  f173 := Tryz.func60.trans (congrArg some (by kernel_rfl))
  f246 := Tryz.func102.trans (congrArg some (by kernel_rfl))
  f283 := Tryz.func145.trans (congrArg some (by kernel_rfl))
  f284 := Tryz.func146.trans (congrArg some (by kernel_rfl))
  f285 := Tryz.func147.trans (congrArg some (by kernel_rfl))
  f286 := Tryz.func148.trans (congrArg some (by kernel_rfl))
  f317 := Tryz.func182.trans (congrArg some (by kernel_rfl))
  f318 := Tryz.func184.trans (congrArg some (by kernel_rfl))
  f319 := Tryz.func185.trans (congrArg some (by kernel_rfl))
  f320 := Tryz.func186.trans (congrArg some (by kernel_rfl))
  f337 := Tryz.func210.trans (congrArg some (by kernel_rfl))
  f338 := Tryz.func211.trans (congrArg some (by kernel_rfl))
  t0 := Tryz.underlying0
  a0 := Tryz.isAgg0
  z0 := Tryz.sizeOf0
  v0 := Tryz.zeroValue0
  t2 := Tryz.underlying2
  a2 := Tryz.isAgg2
  z2 := Tryz.sizeOf2
  v2 := Tryz.zeroValue2
  t3 := Tryz.underlying3
  a3 := Tryz.isAgg3
  z3 := Tryz.sizeOf3
  v3 := Tryz.zeroValue3
  t4 := Tryz.underlying4
  a4 := Tryz.isAgg4
  z4 := Tryz.sizeOf4
  v4 := Tryz.zeroValue4
  t5 := Tryz.underlying5
  a5 := Tryz.isAgg5
  z5 := Tryz.sizeOf5
  v5 := Tryz.zeroValue5
  t9 := Tryz.underlying9
  a9 := Tryz.isAgg9
  z9 := Tryz.sizeOf9
  v9 := Tryz.zeroValue9
  t20 := Tryz.underlying20
  a20 := Tryz.isAgg20
  z20 := Tryz.sizeOf20
  v20 := Tryz.zeroValue20
  t37 := Tryz.underlying106
  a37 := Tryz.isAgg106
  z37 := Tryz.sizeOf106
  v37 := Tryz.zeroValue106
  t46 := Tryz.underlying204
  a46 := Tryz.isAgg204
  z46 := Tryz.sizeOf204
  v46 := Tryz.zeroValue204
  t51 := Tryz.underlying275
  a51 := Tryz.isAgg275
  z51 := Tryz.sizeOf275
  v51 := Tryz.zeroValue275
  t53 := Tryz.underlying125
  a53 := Tryz.isAgg125
  z53 := Tryz.sizeOf125
  v53 := Tryz.zeroValue125
  t171 := Tryz.underlying242
  a171 := Tryz.isAgg242
  z171 := Tryz.sizeOf242
  v171 := Tryz.zeroValue242
  t173 := Tryz.underlying245
  a173 := Tryz.isAgg245
  z173 := Tryz.sizeOf245
  v173 := Tryz.zeroValue245
  t212 := Tryz.underlying274
  a212 := Tryz.isAgg274
  z212 := Tryz.sizeOf274
  v212 := Tryz.zeroValue274
  t213 := Tryz.underlying276
  a213 := Tryz.isAgg276
  z213 := Tryz.sizeOf276
  t232 := Tryz.underlying306
  a232 := Tryz.isAgg306
  z232 := Tryz.sizeOf306
  v232 := Tryz.zeroValue306
  t233 := Tryz.underlying307
  a233 := Tryz.isAgg307
  z233 := Tryz.sizeOf307
  v233 := Tryz.zeroValue307
  g17 := by kernel_rfl
  g18 := by kernel_rfl
  g19 := by kernel_rfl
end Go.Proofs.YtfhalebbcbgbdaaGreatDoor
namespace Go.Proofs.YtfhalebbcbgbdaaGreatDoor
set_option linter.unusedSimpArgs false
set_option linter.unusedVariables false
open Go.Proofs Go.Shelf
def joinL_ren : Go.Shelf.Ren := ⟨fun n => match n with | 156 => 58 | 165 => 99 | 166 => 100 | 169 => 90 | 240 => 143 | 241 => 144 | 276 => 180 | 277 => 181 | n => n, fun n => match n with | 31 => 32 | 9 => 9 | 3 => 3 | 4 => 4 | 0 => 0 | 20 => 20 | 72 => 199 | 76 => 217 | 70 => 197 | 37 => 106 | 75 => 167 | 127 => 235 | 164 => 270 | 5 => 5 | 80 => 113 | n => n, fun n => n⟩
theorem joinL : Lays.n156 Tryz.prog joinL_ren where
  mixed := by kernel_rfl
  f156 := Tryz.func58.trans (congrArg some (by kernel_rfl))
  f165 := Tryz.func99.trans (congrArg some (by kernel_rfl))
  f166 := Tryz.func100.trans (congrArg some (by kernel_rfl))
  f169 := Tryz.func90.trans (congrArg some (by kernel_rfl))
  f240 := Tryz.func143.trans (congrArg some (by kernel_rfl))
  f241 := Tryz.func144.trans (congrArg some (by kernel_rfl))
  f276 := Tryz.func180.trans (congrArg some (by kernel_rfl))
  f277 := Tryz.func181.trans (congrArg some (by kernel_rfl))
  t0 := Tryz.underlying0
  a0 := Tryz.isAgg0
  z0 := Tryz.sizeOf0
  v0 := Tryz.zeroValue0
  t3 := Tryz.underlying3
  a3 := Tryz.isAgg3
  z3 := Tryz.sizeOf3
  v3 := Tryz.zeroValue3
  t4 := Tryz.underlying4
  a4 := Tryz.isAgg4
  z4 := Tryz.sizeOf4
  v4 := Tryz.zeroValue4
  t9 := Tryz.underlying9
  a9 := Tryz.isAgg9
  z9 := Tryz.sizeOf9
  v9 := Tryz.zeroValue9
  t20 := Tryz.underlying20
  a20 := Tryz.isAgg20
  z20 := Tryz.sizeOf20
  v20 := Tryz.zeroValue20
  t31 := Tryz.underlying32
  a31 := Tryz.isAgg32
  z31 := Tryz.sizeOf32
  v31 := Tryz.zeroValue32
  t37 := Tryz.underlying106
  a37 := Tryz.isAgg106
  z37 := Tryz.sizeOf106
  v37 := Tryz.zeroValue106
  t70 := Tryz.underlying197
  a70 := Tryz.isAgg197
  z70 := Tryz.sizeOf197
  v70 := Tryz.zeroValue197
  t72 := Tryz.underlying199
  a72 := Tryz.isAgg199
  z72 := Tryz.sizeOf199
  v72 := Tryz.zeroValue199
  t75 := Tryz.underlying167
  a75 := Tryz.isAgg167
  z75 := Tryz.sizeOf167
  v75 := Tryz.zeroValue167
  t76 := Tryz.underlying217
  a76 := Tryz.isAgg217
  z76 := Tryz.sizeOf217
  v76 := Tryz.zeroValue217
  t127 := Tryz.underlying235
  a127 := Tryz.isAgg235
  z127 := Tryz.sizeOf235
  v127 := Tryz.zeroValue235
  t164 := Tryz.underlying270
  a164 := Tryz.isAgg270
  z164 := Tryz.sizeOf270
  v164 := Tryz.zeroValue270
theorem joinX : Builder.Extra Tryz.prog joinL_ren where
  sizeBuilder := by kernel_rfl
  liesBuilder := by kernel_rfl
  t5 := Tryz.underlying5
  a5 := Tryz.isAgg5
  z5 := Tryz.sizeOf5
  v5 := Tryz.zeroValue5
  infoByte := by kernel_rfl
  cellsByte := by kernel_rfl
  sizeByte := by kernel_rfl
  neB5 := by decide
end Go.Proofs.YtfhalebbcbgbdaaGreatDoor
namespace Go.Proofs.YtfhalebbcbgbdaaGreatDoor
open Go.H Go.Proofs
open Go.RowKit (Below)
set_option linter.unusedSimpArgs false
set_option linter.unusedVariables false
set_option synthInstance.maxSize 100000
set_option synthInstance.maxHeartbeats 400000
abbrev decS (n : Nat) : ByteArray := ⟨(Lib.decDigits n).toArray⟩
theorem Itoa_spec {h : Heap} {R : List Asn} (hs : sat h R) {n : Nat} (hn : n < 100) {Q : Value → Heap → Prop} (hq : ∀ h', sat h' R → Q (.string (decS n)) h') :
    HCalls Tryz.prog 59 #[.int .i64 n] h Q :=
  calls_below hs (fun w hw => (Any.strconv_Itoa_small itoaL n hn w).mono fun e w' ⟨h1, h2⟩ => ⟨h1, h2 ▸ Below.refl _ _⟩) hq
theorem Format_small {h : Heap} {R : List Asn} (hs : sat h R) {n : Nat} (hn : n < 100) {Q : Value → Heap → Prop} (hq : ∀ h', sat h' R → Q (.string (decS n)) h') :
    HCalls Tryz.prog 60 #[.int .i64 n, .int .i64 10] h Q :=
  calls_below hs (fun w hw => (Any.strconv_FormatInt_10_small formatL n hn w).mono fun e w' ⟨h1, h2⟩ => ⟨h1, h2 ▸ Below.refl _ _⟩) hq
theorem Join_spec {h : Heap} {R : List Asn} {b : Nat} {xs : List ByteArray} {sep : ByteArray} (hs : sat h (cells b (xs.map fun x => Value.string x).toArray :: R)) (hN : xs.length ≤ 140737488355328)
    (hlen : (Lib.join (xs.map (·.data.toList)) sep.data.toList).length ≤ 140737488355328) {Q : Value → Heap → Prop}
    (hq : ∀ h', sat h' (cells b (xs.map fun x => Value.string x).toArray :: R) → Q (.string ⟨(Lib.join (xs.map (·.data.toList)) sep.data.toList).toArray⟩) h') :
    HCalls Tryz.prog 58 #[.slice (some ⟨b, 0, none⟩) xs.length xs.length, .string sep] h Q :=
  calls_below hs (fun w hw => Any.strings_Join joinL joinX b 0 xs.length xs sep w (fun j x hx => by
    have := hs.cell j
    simp [hx] at this
    have e : w.cell? ⟨b, 0 + j, none⟩ = cellH h ⟨b, j, none⟩ := by rw [Nat.zero_add]; subst hw; rfl
    rw [e]; exact this) (by rw [hw]; exact hs.cells_lt) hN (Nat.le_refl _) hlen) hq
def goodLabel (a b c d : Int) : Prop := goodTag (a, b) ∧ 0 ≤ c ∧ c ≤ 32 ∧ 0 ≤ d ∧ d ≤ 2
instance (a b c d : Int) : Decidable (goodLabel a b c d) := by unfold goodLabel; infer_instance
theorem lgood_spec {h : Heap} {R : List Asn} (hs : sat h R) {a b c d : Int} {Q : Value → Heap → Prop} (hq : ∀ h', sat h' R → Q (.bool (decide (goodLabel a b c d))) h') :
    HCalls Tryz.prog 57 #[.agg #[.int .i64 a, .int .i64 b, .int .i64 c, .int .i64 d]] h Q := by
  refine tags_Label_good_calls (a, b, c, d, ()) h Q ?_
  unfold tags_Label_good
  refine new_cells hs fun tb h1 hs1 => ?_
  refine bind_cut (fun x h' => sat h' R ∧ x.1 = decide (goodLabel a b c d)) ?_ ?_
  · refine loadN_of (ts := [.int .i64, .int .i64]) (a, b, ()) (fun j v hv => ?_) ?_
    · rw [add_own, add_own, hs1.cell]
      match j, hv with
      | 0, hv => exact hv
      | 1, hv => exact hv
      | j + 2, hv => cases (show (none : Option Value) = some v from hv)
    refine bind_call1 (tgood_spec (t := (a, b)) hs1 fun h2 hs2 => ⟨decide (goodTag (a, b)), rfl, ?_⟩)
    have c2 : cellH h2 ⟨tb, 2, none⟩ = some (.int .i64 c) := hs2.cell 2
    have c3 : cellH h2 ⟨tb, 3, none⟩ = some (.int .i64 d) := hs2.cell 3
    have hR := hs2.drop
    unfold goodLabel
    by_cases g0 : goodTag (a, b) <;> by_cases g1 : 0 ≤ c <;> by_cases g2 : c ≤ 32 <;> by_cases g3 : 0 ≤ d <;> by_cases g4 : d ≤ 2 <;> simp [add_own, c2, c3, g0, g1, g2, g3, g4] <;> first | exact hR | exact ⟨hR, by omega⟩
  · rintro ⟨x, ⟨⟩⟩ h2 ⟨hs2, hx⟩
    simp only at hx
    subst hx
    exact hq h2 hs2
def textOf (a : Nat) (F : ByteArray) (c d : Nat) : ByteArray := ⟨(Lib.join [(decS a).data.toList, F.data.toList, (decS c).data.toList, (decS d).data.toList] [46]).toArray⟩
theorem Text_bad {h : Heap} {R : List Asn} (hs : sat h R) {a b c d : Int} (hg : ¬ goodLabel a b c d) {Q : Value → Heap → Prop} (hq : ∀ h', sat h' R → Q (.string (ByteArray.mk #[])) h') :
    HCalls Tryz.prog 29 #[.agg #[.int .i64 a, .int .i64 b, .int .i64 c, .int .i64 d]] h Q := by
  refine tags_Label_Text_calls (a, b, c, d, ()) h Q ?_
  unfold tags_Label_Text
  refine new_cells hs fun tb h1 hs1 => ?_
  refine loadN_cells (ts := [.int .i64, .int .i64, .int .i64, .int .i64]) (a, b, c, d, ()) hs1 rfl ?_
  refine bind_call1 (lgood_spec hs1 fun h2 hs2 => ⟨_, rfl, ?_⟩)
  (try dsimp only); rw [HM.ite_apply, if_pos (by simp [hg])]
  exact hq h2 hs2.drop
theorem Text_of {h : Heap} {R : List Asn} (hs : sat h R) {a b c d : Nat} {F : ByteArray} (hg : goodLabel a b c d)
    (hF : ∀ (X : Asn) (h : Heap) (Q : Value → Heap → Prop), sat h (X :: R) → (∀ h', sat h' (X :: R) → Q (.string F) h') → HCalls Tryz.prog 60 #[.int .i64 b, .int .i64 10] h Q)
    (hlen : (textOf a F c d).size ≤ 140737488355328) {Q : Value → Heap → Prop} (hq : ∀ h', sat h' R → Q (.string (textOf a F c d)) h') :
    HCalls Tryz.prog 29 #[.agg #[.int .i64 a, .int .i64 b, .int .i64 c, .int .i64 d]] h Q := by
  obtain ⟨ha0, ha1, hb0, hb1⟩ := hg.1
  obtain ⟨-, hc0, hc1, hd0, hd1⟩ := hg
  have hg : goodLabel a b c d := ⟨⟨ha0, ha1, hb0, hb1⟩, hc0, hc1, hd0, hd1⟩
  simp only at ha0 ha1 hb0 hb1
  refine tags_Label_Text_calls (a, b, c, d, ()) h Q ?_
  unfold tags_Label_Text
  refine new_cells hs fun tb h1 hs1 => ?_
  refine loadN_cells (ts := [.int .i64, .int .i64, .int .i64, .int .i64]) (a, b, c, d, ()) hs1 rfl ?_
  refine bind_call1 (lgood_spec hs1 fun h2 hs2 => ⟨_, rfl, ?_⟩)
  (try dsimp only); rw [HM.ite_apply, if_neg (by simp [hg])]
  have hC : ∀ {h' : Heap} {R : List Asn}, sat h' (cells tb #[.int .i64 a, .int .i64 b, .int .i64 c, .int .i64 d] :: R) →
      cellH h' ⟨tb, 0, none⟩ = some (.int .i64 a) ∧ cellH h' ⟨tb, 1, none⟩ = some (.int .i64 b) ∧ cellH h' ⟨tb, 2, none⟩ = some (.int .i64 c) ∧ cellH h' ⟨tb, 3, none⟩ = some (.int .i64 d) :=
    fun hs' => ⟨hs'.cell 0, hs'.cell 1, hs'.cell 2, hs'.cell 3⟩
  refine ⟨a, by rw [add_own, add_own]; exact (hC hs2).1, b, by rw [add_own, add_own]; exact (hC hs2).2.1, c, by rw [add_own]; exact (hC hs2).2.2.1, d, by rw [add_own]; exact (hC hs2).2.2.2, ?_⟩
  refine bind_call1 (Itoa_spec hs2 (by omega) fun h3 hs3 => ⟨decS a, rfl, ?_⟩)
  refine ⟨d, by rw [add_own]; exact (hC hs3).2.2.2, rfl, c, by rw [add_own]; exact (hC hs3).2.2.1, rfl, b, by rw [add_own, add_own]; exact (hC hs3).2.1, rfl, ?_⟩
  refine bind_call1 (hF _ _ _ hs3 fun h4 hs4 => ⟨F, rfl, ?_⟩)
  refine ⟨d, by rw [add_own]; exact (hC hs4).2.2.2, rfl, c, by rw [add_own]; exact (hC hs4).2.2.1, rfl, ?_⟩
  refine bind_call1 (Itoa_spec hs4 (by omega) fun h5 hs5 => ⟨decS c, rfl, ?_⟩)
  refine ⟨d, by rw [add_own]; exact (hC hs5).2.2.2, rfl, ?_⟩
  refine bind_call1 (Itoa_spec hs5 (by omega) fun h6 hs6 => ⟨decS d, rfl, ?_⟩)
  refine new_cells hs6 fun jb h7 hs7 => ?_
  refine bind_call1 (Join_spec (xs := [decS a, F, decS c, decS d]) (sep := ByteArray.mk #[46]) hs7 (by simp) ?_ fun h8 hs8 => ⟨textOf a F c d, rfl, ?_⟩)
  · have : (textOf a F c d).size = (Lib.join [(decS a).data.toList, F.data.toList, (decS c).data.toList, (decS d).data.toList] [46]).length := by
      show (List.toArray _).size = _
      simp
    rw [this] at hlen
    exact hlen
  · exact hq h8 hs8.drop.drop
end Go.Proofs.YtfhalebbcbgbdaaGreatDoor
namespace Go.Proofs.YtfhalebbcbgbdaaGreatDoor
open Go.H Go.Proofs
set_option linter.unusedSimpArgs false
set_option linter.unusedVariables false
set_option synthInstance.maxSize 100000
set_option synthInstance.maxHeartbeats 400000
set_option maxRecDepth 100000
def dblN : Nat → Nat → Nat → Nat
  | 0, n, _ => n
  | k + 1, n, m => if n < m then dblN k (2 * n) m else n
def leastN (l : Int) : Nat := (max 1 (min l 1048576)).toNat
def mostN (l m : Int) : Nat := (max ((leastN l : Nat) : Int) (min m 1048576)).toNat
def baseN (t l m : Int) : Nat := min (dblN t.toNat (leastN l) (mostN l m)) (mostN l m)
def delayN (t l m : Int) (d : Nat) : Nat := baseN t l m + d % (baseN t l m / 2 + 1)
theorem leastN_le (l : Int) : 1 ≤ leastN l ∧ leastN l ≤ 1048576 := by unfold leastN; omega
theorem mostN_le (l m : Int) : leastN l ≤ mostN l m ∧ mostN l m ≤ 1048576 := by
  have := leastN_le l
  unfold mostN
  omega
theorem dblN_full {k n m : Nat} (h : ¬ n < m) : dblN k n m = n := by
  cases k with
  | zero => rfl
  | succ k => unfold dblN; rw [if_neg h]
variable {h : Heap}
theorem least_eq (l : Int) : (if 1 < ((if 1048576 < (l : Int) then 1048576 else l) : Int) then (if 1048576 < (l : Int) then 1048576 else l) else 1) = ((leastN l : Nat) : Int) := by
  unfold leastN
  split <;> split <;> omega
theorem most_eq (l m : Int) : (if ((leastN l : Nat) : Int) < ((if 1048576 < (m : Int) then 1048576 else m) : Int) then (if 1048576 < (m : Int) then 1048576 else m) else ((leastN l : Nat) : Int)) = ((mostN l m : Nat) : Int) := by
  unfold mostN
  split <;> split <;> omega
theorem draw_eq {B d : Nat} (hB : 1 ≤ B ∧ B ≤ 1048576) (hd : d < 18446744073709551616) :
    IntKind.wrap .u64 (IntKind.wrap .i64 ((IntKind.wrap .i64 (Int.tdiv (B : Int) 2)) + 1)) = ((B / 2 + 1 : Nat) : Int) ∧
    IntKind.wrap .i64 ((B : Int) + (IntKind.wrap .i64 (Int.tmod (d : Int) ((B / 2 + 1 : Nat) : Int)))) = ((B + d % (B / 2 + 1) : Nat) : Int) := by
  have e0 : Int.tdiv (B : Int) 2 = ((B / 2 : Nat) : Int) := by rw [Int.tdiv_eq_ediv_of_nonneg (by omega)]; omega
  have e1 : IntKind.wrap .i64 ((B / 2 : Nat) : Int) = ((B / 2 : Nat) : Int) := wrap_id (by omega) (by omega)
  have e2 : IntKind.wrap .i64 (((B / 2 : Nat) : Int) + 1) = ((B / 2 + 1 : Nat) : Int) := by rw [wrap_id (by omega) (by omega)]; omega
  have e3 : IntKind.wrap .u64 ((B / 2 + 1 : Nat) : Int) = ((B / 2 + 1 : Nat) : Int) := by
    simp [IntKind.wrap, IntKind.bits, IntKind.signed]; omega
  have e4 : Int.tmod (d : Int) ((B / 2 + 1 : Nat) : Int) = ((d % (B / 2 + 1) : Nat) : Int) := by
    rw [Int.tmod_eq_emod_of_nonneg (by omega)]
    omega
  have hlt := Nat.mod_lt d (show B / 2 + 1 > 0 by omega)
  refine ⟨by rw [e0, e1, e2, e3], ?_⟩
  rw [e4, wrap_id (n := ((d % (B / 2 + 1) : Nat) : Int)) (by omega) (by omega), wrap_id (by omega) (by omega)]
  omega
theorem Delay_spec {t l m : Int} {d : Nat} (ht : t ≤ 9223372036854775807) (hd : d < 18446744073709551616) {Q : Value → Heap → Prop} (hq : Q (.int .i64 ((delayN t l m d : Nat) : Int)) h) :
    HCalls Tryz.prog 34 #[.int .i64 t, .int .i64 l, .int .i64 m, .int .u64 (d : Int)] h Q := by
  refine bridge_Delay_calls t l m d h Q ?_
  unfold bridge_Delay
  have hl := leastN_le l
  have hm := mostN_le l m
  simp only [least_eq l, most_eq l m]
  (try dsimp only); rw [HM.bind_apply]
  refine loop_gx (γ := Nat × Nat) (hb := fun s => by
      repeat' with_reducible first
        | refine @mono_bind _ _ _ _ ?_ (fun _ => ?_)
        | refine @mono_ite _ _ _ _ ?_ ?_
      all_goals infer_instance)
    (fun g c h' => h' = h ∧ c.1 = ((g.2 : Nat) : Int) ∧ c.2.1.toNat = g.1 ∧ c.2.1 ≤ 9223372036854775807 ∧ 1 ≤ g.2 ∧ g.2 ≤ 2097152 ∧ dblN t.toNat (leastN l) (mostN l m) = dblN g.1 g.2 (mostN l m)) (fun g => g.1) (t.toNat, leastN l)
    ⟨rfl, rfl, rfl, ht, hl.1, by omega, rfl⟩ ?_
  rintro ⟨k, n⟩ ⟨x, c, ⟨⟩⟩ h1 ⟨rfl, hx, hc, hc2, hn1, hn2, he⟩
  simp only at hx hc hc2 hn1 hn2 he
  subst hx
  refine bind_cut (fun z h' => h' = h1 ∧ z.1 = decide (0 < c ∧ n < mostN l m)) ?_ ?_
  · (try dsimp only); rw [HM.ite_apply]
    by_cases h0 : 0 < c
    · rw [if_pos (by simpa using h0)]
      refine ⟨rfl, ?_⟩
      simp [h0]
    · rw [if_neg (by simpa using h0)]
      exact ⟨rfl, by simp [h0]⟩
  rintro ⟨z, ⟨⟩⟩ h2 ⟨rfl, hz⟩
  simp only at hz
  subst hz
  (try dsimp only); rw [HM.ite_apply]
  by_cases hgo : 0 < c ∧ n < mostN l m
  · rw [if_pos (by simpa using hgo)]
    simp only [Sum.elim_inl, Sum.elim_inr, HM.pure_apply]
    obtain ⟨k, rfl⟩ : ∃ k', k = k' + 1 := ⟨k - 1, by omega⟩
    refine .mk (k, 2 * n) (by simp only; omega) ⟨rfl, ?_, ?_, ?_, by simp only; omega, by simp only; omega, ?_⟩
    · simp only
      rw [wrap_id (by omega) (by omega)]
      omega
    · simp only
      rw [wrap_id (by omega) (by omega)]
      omega
    · simp only
      rw [wrap_id (by omega) (by omega)]
      omega
    · rw [he]
      conv => lhs; unfold dblN
      rw [if_pos hgo.2]
  · rw [if_neg (by simpa using hgo)]
    simp only [Sum.elim_inl, Sum.elim_inr, HM.pure_apply]
    have hend : dblN k n (mostN l m) = n := by
      by_cases h0 : 0 < c
      · exact dblN_full fun e => hgo ⟨h0, e⟩
      · have : k = 0 := by omega
        subst this
        rfl
    rw [hend] at he
    have hB : baseN t l m = min n (mostN l m) := by unfold baseN; rw [he]
    have eB : (if ((mostN l m : Nat) : Int) < (n : Int) then ((mostN l m : Nat) : Int) else (n : Int)) = ((baseN t l m : Nat) : Int) := by
      rw [hB]
      split <;> omega
    have hBl : 1 ≤ baseN t l m ∧ baseN t l m ≤ 1048576 := by rw [hB]; omega
    obtain ⟨d1, d2⟩ := draw_eq (d := d) hBl hd
    refine ⟨by decide, ?_⟩
    rw [eB, d1, d2]
    refine ⟨by omega, ?_⟩
    exact hq
end Go.Proofs.YtfhalebbcbgbdaaGreatDoor
namespace Go.Proofs.YtfhalebbcbgbdaaGreatDoor
open Go.H Go.Proofs Go.Lib
set_option linter.unusedSimpArgs false
set_option linter.unusedVariables false
set_option synthInstance.maxSize 100000
set_option synthInstance.maxHeartbeats 400000
set_option maxRecDepth 100000
variable {h h0 : Heap} {R : List Asn}
theorem CloneR_spec {s : Slc} {xs : List RuleT} (hs : sat h (ownS encRu 5 s xs :: R)) (hb : xs.length ≤ 1000) {Q : Value → Heap → Prop}
    (hq : ∀ h' s', sat h' (ownS encRu 5 s' xs :: ownS encRu 5 s xs :: R) → Q (.slice s'.a s'.len s'.cap) h') : HCalls Tryz.prog 37 #[.slice s.a s.len s.cap] h Q := by
  refine slices_Clone_Rule_calls s h Q ?_
  unfold slices_Clone_Rule
  (try dsimp only); rw [HM.ite_apply]
  cases ha : s.a with
  | none =>
    rw [if_pos (by rfl)]
    rcases ownS_cases hs with ⟨-, -, rfl, -⟩ | ⟨b, o, cs, ho, -⟩
    · exact hq h ⟨none, 0, 0⟩ (ownS_nil hs)
    · rw [ho.a] at ha; cases ha
  | some a =>
    rw [if_neg (by simp)]
    have hl := hs.own_len
    refine new_cells hs fun x h1 hs1 => ?_
    (try dsimp only); rw [HM.bind_apply, hl]
    refine append_own (ys := xs) eRu_len eRu_cell rfl (ownS_none (enc := encRu) (size := 5) (a := some ⟨x, 0, none⟩) hs1) rfl ?_ (by decide) (by decide) (by simp only [List.length_nil]; omega) fun s' h2 hs2 => ?_
    · have := row_reads eRu_len (hs1.p1.own_row eRu_len) (by decide)
      rw [hl] at this
      exact by simpa [srcSlc, hl] using this
    · rw [List.nil_append] at hs2
      exact hq h2 s' (hs2.re [1, 0, 2]).drop
def brgA (b : Nat) (rs : List RuleT) (o : OutS) : Asn := exA fun x : Slc × Nat => star (cells b #[.slice x.1.a x.1.len x.1.cap, at0 x.2]) (star (ownS encRu 5 x.1 rs) (outA x.2 o))
theorem brgA_iff {b : Nat} {rs : List RuleT} {o : OutS} : sat h (brgA b rs o :: R) ↔ ∃ (S : Slc) (ob : Nat), sat h (cells b #[.slice S.a S.len S.cap, at0 ob] :: ownS encRu 5 S rs :: outA ob o :: R) := by
  unfold brgA
  rw [sat.ex_iff]
  constructor
  · rintro ⟨⟨S, ob⟩, hs⟩
    rw [sat.star_iff] at hs
    exact ⟨S, ob, (sat.star_iff.1 hs.p1).re [2, 0, 1]⟩
  · rintro ⟨S, ob, hs⟩
    refine ⟨(S, ob), ?_⟩
    rw [sat.star_iff]
    exact (sat.star_iff.2 (hs.re [1, 2, 0])).p1
abbrev freshO : OutS := ⟨⟨64, 0, []⟩, 64, false, [], []⟩
def codeRs : List RuleT → Int
  | [] => 0
  | r :: rs => if chkR r = 0 then codeRs rs else chkR r
theorem brgNew_spec {s : Slc} {rs : List RuleT} (hs : sat h (ownS encRu 5 s rs :: old h0 :: R)) (ht : TP h0) (hz : ∀ r ∈ rs, szR r) (hl : rs.length ≤ 16) {Q : Value → Heap → Prop}
    (hbad : codeRs rs ≠ 0 → ∀ h', sat h' (ownS encRu 5 s rs :: old h0 :: R) → Q (.tuple #[.pointer none, .int .u8 (codeRs rs)]) h')
    (hok : codeRs rs = 0 → ∀ h' b, sat h' (brgA b rs freshO :: ownS encRu 5 s rs :: old h0 :: R) → Q (.tuple #[at0 b, .int .u8 0]) h') :
    HCalls Tryz.prog 12 #[.slice s.a s.len s.cap] h Q := by
  refine bridge_New_calls s h Q ?_
  unfold bridge_New
  have hsl := hs.own_len
  (try dsimp only); rw [HM.ite_apply, if_neg (by simp only [decide_eq_true_eq, hsl]; omega)]
  (try dsimp only); rw [HM.bind_apply]
  refine loop_gx (γ := Nat) (hb := fun s => by
      repeat' with_reducible first
        | refine @mono_bind _ _ _ _ ?_ (fun _ => ?_)
        | refine @mono_ite _ _ _ _ ?_ ?_
      all_goals infer_instance)
    (fun g c h' => c.1 = (((rs.length - g : Nat)) : Int) ∧ g ≤ rs.length ∧ codeRs rs = codeRs (rs.drop (rs.length - g)) ∧ sat h' (ownS encRu 5 s rs :: old h0 :: R)) (fun g => g) rs.length
    ⟨by simp, Nat.le_refl _, by simp, hs⟩ ?_
  clear hs
  rintro g ⟨c, ⟨⟩⟩ h1 ⟨hc, hg, he, hs1⟩
  simp only at hc
  subst hc
  (try dsimp only); rw [HM.ite_apply]
  by_cases hi : rs.length - g < rs.length
  · rw [if_pos (by simp only [decide_eq_true_eq, hsl]; omega)]
    obtain ⟨r, hr⟩ : ∃ r, rs[rs.length - g]? = some r := ⟨_, List.getElem?_eq_getElem hi⟩
    rw [drop_at hr, codeRs] at he
    (try dsimp only); rw [HM.bind_apply]
    refine idx_row (hs1.own_row eRu_len) hr fun p hp => ?_
    (try dsimp only); rw [HM.bind_apply]
    refine load_Ru hp ?_
    refine new_cells hs1 fun x5 h2 hs2' => ?_
    (try dsimp only); rw [HM.bind_apply]
    refine storeN_all' hs2' rfl rfl fun h3 hs3 => ?_
    refine loadN_cells (ts := [.str, .int .i64, .int .i64, .str, .str]) r hs3 rfl ?_
    refine bind_call1 (Check_spec hs3.p2 ht (hz r (List.mem_of_getElem? hr)) fun h4 hs4 => ⟨_, rfl, ?_⟩)
    (try dsimp only); rw [HM.ite_apply]
    by_cases hcr : chkR r = 0
    · rw [if_neg (by simpa using hcr)]
      rw [if_pos hcr, show rs.length - g + 1 = rs.length - (g - 1) by omega] at he
      simp only [Sum.elim_inl, Sum.elim_inr, HM.pure_apply]
      exact .mk (g - 1) (by omega) ⟨by simp only; rw [wrap_id (by omega) (by omega)]; omega, by omega, he, (hs4.re [1, 2, 0]).drop⟩
    · rw [if_pos (by simpa using hcr)]
      rw [if_neg hcr] at he
      simp only [Sum.elim_inl, Sum.elim_inr, HM.pure_apply]
      have := hbad (by rw [he]; exact hcr) h4 (hs4.re [1, 2, 0]).drop
      rw [he] at this
      exact this
  · rw [if_neg (by simp only [decide_eq_true_eq, hsl]; omega)]
    simp only [Sum.elim_inl, Sum.elim_inr, HM.pure_apply]
    rw [show rs.drop (rs.length - g) = [] by simp; omega] at he
    refine bind_call1 (CloneR_spec hs1 (by omega) fun h2 s2 hs2 => ⟨s2, rfl, ?_⟩)
    refine bind_call1 (outNew_spec hs2 64 fun ob h3 hs3 => ⟨some ⟨ob, 0, none⟩, rfl, ?_⟩)
    refine new_cells hs3 fun b h4 hs4 => ?_
    exact hok he h4 b (brgA_iff.2 ⟨s2, ob, hs4.re [0, 2, 1]⟩)
theorem dig (n : Nat) (hn : n < 10) : Lib.decDigits n = [(48 + n).toUInt8] := by
  rw [Lib.decDigits]
  rw [dif_pos hn]
  try rfl
theorem text23 (a b c d : Nat) (ha : a < 10) (hb : b < 10) (hc : c < 10) (hd : d < 10) : textOf a (decS b) c d = ByteArray.mk #[(48 + a).toUInt8, 46, (48 + b).toUInt8, 46, (48 + c).toUInt8, 46, (48 + d).toUInt8] := by
  simp [textOf, decS, dig a ha, dig b hb, dig c hc, dig d hd, Lib.join_cons, Lib.joinTail]
theorem Text_dig (hs : sat h R) {a b c d : Nat} (hg : goodLabel a b c d) (hb : b < 10) (hc : c < 10) {Q : Value → Heap → Prop}
    (hq : ∀ h', sat h' R → Q (.string (ByteArray.mk #[(48 + a).toUInt8, 46, (48 + b).toUInt8, 46, (48 + c).toUInt8, 46, (48 + d).toUInt8])) h') :
    HCalls Tryz.prog 29 #[.agg #[.int .i64 a, .int .i64 b, .int .i64 c, .int .i64 d]] h Q := by
  have ha : a < 10 := by have := hg.1.2.1; simp only at this; omega
  have hd : d < 10 := by have := hg.2.2.2.2; omega
  refine Text_of (F := decS b) hs hg (fun X h Q hs hq => Format_small hs (by omega) hq) ?_ fun h' hs' => ?_
  · rw [text23 a b c d ha hb hc hd]
    exact (by decide : (7 : Nat) ≤ 140737488355328)
  · rw [text23 a b c d ha hb hc hd]
    exact hq h' hs'
def ruleW : RuleT := (ByteArray.mk #[35], 0, 1, ByteArray.mk #[], ByteArray.mk #[120, 47], ())
theorem hopW : routeP (ByteArray.mk #[97]) 2 0 [ruleW] = [(0, ByteArray.mk #[120, 47, 97], 1, ())] := by decide
theorem ruleW_ok : codeRs [ruleW] = 0 := by decide
abbrev encMs (x : ByteArray × ByteArray × Int × Bool × ByteArray × Unit) : List Value := [.string x.1, .string x.2.1, .int .i64 x.2.2.1, .bool x.2.2.2.1, .string x.2.2.2.2.1]
theorem eMsU_len : ∀ x : ByteArray × ByteArray × Int × Bool × ByteArray × Unit, (encMs x).length = 5 := fun _ => rfl
theorem eMsU_cell : ∀ x : ByteArray × ByteArray × Int × Bool × ByteArray × Unit, ∀ v ∈ encMs x, v.oneCell' = true := fun x v hv => by
  simp only [encMs, List.mem_cons, List.not_mem_nil, or_false] at hv
  rcases hv with rfl | rfl | rfl | rfl | rfl <;> rfl
def msgW : ByteArray × ByteArray × Int × Bool × ByteArray × Unit := (ByteArray.mk #[120, 47, 97], ByteArray.mk #[112], 1, false, ByteArray.mk #[48, 46, 53, 46, 49, 46, 49], ())
theorem RouteW_spec {b : Nat} {o : OutS} (hs : sat h (brgA b [ruleW] o :: old h0 :: R)) (ht : TP h0) {Q : Value → Heap → Prop}
    (hq : ∀ h' S, sat h' (ownS encMs 5 S [msgW] :: brgA b [ruleW] o :: old h0 :: R) → Q (.slice S.a S.len S.cap) h') :
    HCalls Tryz.prog 16 #[at0 b, .agg #[.int .i64 0, .int .i64 5, .int .i64 0, .int .i64 2], .agg #[.string (ByteArray.mk #[97]), .string (ByteArray.mk #[112]), .int .i64 0, .bool false, .string (ByteArray.mk #[])]] h Q := by
  refine bridge_Bridge_Route_calls (some ⟨b, 0, none⟩) (0, 5, 0, 2, ()) (ByteArray.mk #[97], ByteArray.mk #[112], 0, false, ByteArray.mk #[], ()) h Q ?_
  unfold bridge_Bridge_Route
  obtain ⟨S0, ob, hs0⟩ := brgA_iff.1 hs
  refine new_cells hs0 fun x1 h1 hs1 => ?_
  refine new_cells hs1 fun x2 h2 hs2 => ?_
  refine bind_cut (fun z h' => z.1 = false ∧ sat h' (cells x2 #[.string (ByteArray.mk #[97]), .string (ByteArray.mk #[112]), .int .i64 0, .bool false, .string (ByteArray.mk #[])] :: cells x1 #[.int .i64 0, .int .i64 5, .int .i64 0, .int .i64 2] :: cells b #[.slice S0.a S0.len S0.cap, at0 ob] :: ownS encRu 5 S0 [ruleW] :: outA ob o :: old h0 :: R)) ?_ ?_
  · (try dsimp only); rw [HM.ite_apply, if_neg (by simp)]
    refine loadN_cells (ts := [.int .i64, .int .i64, .int .i64, .int .i64]) (0, 5, 0, 2, ()) hs2.p1 rfl ?_
    refine bind_call1 (Text_dig (a := 0) (b := 5) (c := 0) (d := 2) hs2 (by decide) (by decide) (by decide) fun h3 hs3 => ⟨_, rfl, ?_⟩)
    (try dsimp only); rw [HM.ite_apply, if_neg (by decide)]
    refine ⟨0, by rw [add_own]; exact hs3.p1.cell 2, ?_⟩
    exact ⟨rfl, hs3⟩
  rintro ⟨z, ⟨⟩⟩ h3 ⟨hz, hs3⟩
  simp only at hz
  subst hz
  clear hs2 hs1
  (try dsimp only); rw [HM.ite_apply, if_neg (by simp)]
  refine ⟨_, rfl, S0, by rw [add_own]; exact hs3.p2.cell 0, ByteArray.mk #[97], by rw [add_own]; exact hs3.cell 0, 2, by rw [add_own]; exact hs3.p1.cell 3, ?_⟩
  refine bind_call1 (rmRoute_spec (n := ByteArray.mk #[97]) (q := 2) (hs3.re [3, 5, 0, 1, 2, 4]) ht (fun r hr => ?_) (by decide) (by simp) fun h4 S hs4' => ⟨S, rfl, ?_⟩)
  · rw [List.mem_singleton.1 hr]
    exact ⟨by decide, by decide, by decide⟩
  rw [hopW] at hs4'
  have hs4 := hs4'.re [0, 3, 4, 5, 1, 6, 2]
  clear hs4' hs3
  have hSl : S.len = 1 := hs4.own_len
  (try dsimp only); rw [HM.bind_apply]
  refine loop_gx (γ := Nat) (hb := fun s => by
      repeat' with_reducible first
        | refine @mono_bind _ _ _ _ ?_ (fun _ => ?_)
        | refine @mono_ite _ _ _ _ ?_ ?_
        | refine @mono_req _ _ _ ?_
      all_goals infer_instance)
    (fun g c h' => (g = 1 ∧ c.2.1 = 0 ∧ c.1 = ⟨none, 0, 0⟩ ∧ sat h' (ownS encHo 3 S [(0, ByteArray.mk #[120, 47, 97], 1, ())] :: cells x2 #[.string (ByteArray.mk #[97]), .string (ByteArray.mk #[112]), .int .i64 0, .bool false, .string (ByteArray.mk #[])] :: cells x1 #[.int .i64 0, .int .i64 5, .int .i64 0, .int .i64 2] :: cells b #[.slice S0.a S0.len S0.cap, at0 ob] :: ownS encRu 5 S0 [ruleW] :: outA ob o :: old h0 :: R)) ∨
      (g = 0 ∧ c.2.1 = 1 ∧ sat h' (ownS encMs 5 c.1 [msgW] :: brgA b [ruleW] o :: old h0 :: R))) (fun g => g) 1
    (.inl ⟨rfl, rfl, rfl, hs4⟩) ?_
  clear hs4
  rintro g ⟨out, c, ⟨⟩⟩ h5 (⟨rfl, hc, ho, hs5⟩ | ⟨rfl, hc, hs5⟩)
  · simp only at hc ho
    subst hc
    subst ho
    (try dsimp only); rw [HM.ite_apply, if_pos (by simp [hSl])]
    (try dsimp only); rw [HM.bind_apply]
    refine idx_row (i := 0) (hs5.own_row eHo_len) (x := ((0 : Int), ByteArray.mk #[120, 47, 97], (1 : Int), ())) rfl fun p hp => ?_
    (try dsimp only); rw [HM.bind_apply]
    refine loadN_of (ts := [.int .i64, .str, .int .i64]) ((0 : Int), ByteArray.mk #[120, 47, 97], (1 : Int), ()) (fun i v hv => hp i v hv) ?_
    refine new_cells hs5 fun x16 h6 hs6' => ?_
    (try dsimp only); rw [HM.bind_apply]
    refine storeN_all' hs6' rfl rfl fun h7 hs7 => ?_
    (try dsimp only); rw [HM.bind_apply, add_own]
    refine loadN_of (ts := [.int .i64, .int .i64]) ((0 : Int), (5 : Int), ()) (fun i v hv => ?_) ?_
    · rw [Addr.add_at, hs7.p3.cell]
      match i, hv with
      | 0, hv => exact hv
      | 1, hv => exact hv
      | j + 2, hv => cases (show (none : Option Value) = some v from hv)
    refine ⟨0, by rw [add_own]; exact hs7.p3.cell 2, 1, by rw [add_own]; exact hs7.cell 2, ?_⟩
    refine new_cells hs7 fun x20 h8 hs8' => ?_
    (try dsimp only); rw [HM.bind_apply]
    refine storeN_all' hs8' rfl rfl fun h9 hs9 => ?_
    refine ⟨ByteArray.mk #[120, 47, 97], by rw [add_own]; exact hs9.p1.cell 1, ByteArray.mk #[112], by rw [add_own]; exact hs9.p3.cell 1, false, by rw [add_own]; exact hs9.p3.cell 3, ?_⟩
    refine loadN_cells (ts := [.int .i64, .int .i64, .int .i64, .int .i64]) (0, 5, 1, 1, ()) hs9 rfl ?_
    refine bind_call1 (Text_dig (a := 0) (b := 5) (c := 1) (d := 1) hs9 (by decide) (by decide) (by decide) fun h10 hs10 => ⟨_, rfl, ?_⟩)
    refine ⟨false, by rw [add_own]; exact hs10.p3.cell 3, rfl, ByteArray.mk #[112], by rw [add_own]; exact hs10.p3.cell 1, rfl, ByteArray.mk #[120, 47, 97], by rw [add_own]; exact hs10.p1.cell 1, rfl, ?_⟩
    have hs11 := ownS_nil (enc := encMs) (size := 5) hs10
    refine new_cells hs11 fun x29 h12 hs12 => ?_
    (try dsimp only); rw [HM.bind_apply]
    refine append_own (enc := encMs) (ys := [msgW]) eMsU_len eMsU_cell rfl hs12.p1 rfl ?_ (by decide) (by decide) (by decide) fun s' h13 hs13 => ?_
    · simp only [srcSlc, Nat.one_mul, List.flatMap_cons, List.flatMap_nil, List.append_nil]
      exact hs12.reads rfl
    simp only [Sum.elim_inl, Sum.elim_inr, HM.pure_apply]
    refine .mk 0 (by decide) (.inr ⟨rfl, rfl, ?_⟩)
    have hs14 := hs13.re [1, 2, 3, 4, 5, 6, 7, 8, 9, 10, 0]
    have hs15 := hs14.drop.drop.drop.drop.drop.drop
    have hs16 := brgA_iff.2 ⟨S0, ob, (show sat h13 (cells b #[.slice S0.a S0.len S0.cap, at0 ob] :: ownS encRu 5 S0 [ruleW] :: outA ob o :: old h0 :: ownS encMs 5 s' ([] ++ [msgW]) :: R) from hs15)⟩
    exact hs16.re [2, 0, 1]
  · simp only at hc
    subst hc
    (try dsimp only); rw [HM.ite_apply, if_neg (by simp [hSl])]
    simp only [Sum.elim_inl, Sum.elim_inr, HM.pure_apply]
    exact hq h5 out hs5
theorem wakes23_spec (hs : sat h (old h0 :: R)) (ht : TP h0) {Q : Value → Heap → Prop} (hq : ∀ h', sat h' (old h0 :: R) → Q (.bool true) h') : HCalls Tryz.prog 10 #[] h Q := by
  refine law23_wakes_calls h Q ?_
  unfold law23_wakes
  refine new_cells hs fun x1 h1 hs1 => ?_
  have hs2 : sat h1 (ownS encRu 5 ⟨some ⟨x1, 0, none⟩, 1, 1⟩ [ruleW] :: old h0 :: R) := ownS_mk (o := 0) ⟨rfl, Nat.le_refl _, rfl, by simp, by simp [ruleW, encRu]⟩ hs1
  refine bind_callN (brgNew_spec hs2 ht (fun r hr => ?_) (by simp) (fun hc => absurd ruleW_ok hc) fun _ h3 b hs3 => ⟨(some ⟨b, 0, none⟩, 0, ()), rfl, ?_⟩)
  · rw [List.mem_singleton.1 hr]
    exact ⟨by decide, by decide, by decide⟩
  refine bind_call1 (RouteW_spec (hs3.re [0, 2, 1]) ht fun h4 S hs4 => ⟨S, rfl, ?_⟩)
  have hSl : S.len = 1 := hs4.own_len
  refine bind_cut (fun z h' => h' = h4 ∧ z.1 = true) ?_ ?_
  · (try dsimp only); rw [HM.ite_apply, if_pos (by rfl)]
    (try dsimp only); rw [HM.ite_apply, if_pos (by simp [hSl])]
    (try dsimp only); rw [HM.bind_apply]
    refine idx_row (i := 0) (hs4.own_row eMsU_len) (x := msgW) rfl fun p hp => ?_
    (try dsimp only); rw [HM.bind_apply]
    refine loadN_of (ts := [.str, .str, .int .i64, .bool, .str]) msgW (fun i v hv => hp i v hv) ?_
    (try dsimp only); rw [HM.ite_apply, if_pos (by decide)]
    refine bind_call1 (Delay_spec (t := 2) (l := 10) (m := 100) (d := 7) (by decide) (by decide) ⟨_, rfl, ?_⟩)
    exact ⟨rfl, by decide⟩
  rintro ⟨z, ⟨⟩⟩ h5 ⟨rfl, hz⟩
  simp only at hz
  subst hz
  exact hq _ (hs4.re [0, 1, 3, 2]).drop.drop.drop
end Go.Proofs.YtfhalebbcbgbdaaGreatDoor
namespace Go.Proofs.YtfhalebbcbgbdaaGreatDoor
open Go.H Go.Proofs
set_option linter.unusedSimpArgs false
set_option linter.unusedVariables false
set_option maxRecDepth 100000
variable {h h0 : Heap} {R : List Asn}
theorem bbegin_spec {b : Nat} {rs : List RuleT} {o : OutS} (hs : sat h (brgA b rs o :: R)) (hok : FlowOK o) {Q : Value → Heap → Prop}
    (hq : ∀ S h', sat h' (brgA b rs (beginF o 64).1 :: pksA .u8 S (beginF o 64).2 :: R) → Q (.slice S.a S.len S.cap) h') : HCalls Tryz.prog 20 #[at0 b] h Q := by
  refine bridge_Bridge_Begin_calls (some ⟨b, 0, none⟩) h Q ?_
  unfold bridge_Bridge_Begin
  obtain ⟨S, ob, hs1⟩ := brgA_iff.1 hs
  (try dsimp only); rw [HM.ite_apply, if_neg (by simp)]
  refine ⟨_, rfl, some ⟨ob, 0, none⟩, by rw [add_own]; exact hs1.cell 1, ?_⟩
  refine bind_call1 (obegin_spec (hs1.re [2, 0, 1]) hok fun S' h' hs2 => ⟨S', rfl, ?_⟩)
  refine hq S' h' (brgA_iff.2 ⟨S, ob, hs2.re [2, 3, 0, 1]⟩)
end Go.Proofs.YtfhalebbcbgbdaaGreatDoor
namespace Go.Proofs.YtfhalebbcbgbdaaGreatDoor
open Go.Shelf Go.RowKit Go.Proofs
set_option linter.unusedVariables false
set_option linter.unusedSimpArgs false
section
variable {P : Program} {ρ : Ren}
set_option maxHeartbeats 1000000 in
set_option maxRecDepth 100000 in
theorem check_part (L : Lays.n240 P ρ) (X : Builder.X72 P ρ) {b n : Nat} {E : TypeId} {w : World} (h0 : w.cell? ⟨b, 0, none⟩ = some (.pointer none)) (hsh : w.shape? b = some (E, n)) (hn : 0 < n) (hl : liesAt P P.depth E (n / P.cellsOf E) 0 (ρ.t 72) 1 = true) (hfz : w.frozen? ⟨b, 0, none⟩ = false) :
    Calls P (ρ.f 240) #[.pointer (some ⟨b, 0, none⟩)] w fun e w' => e = .returned (.tuple #[]) ∧ w' = w.setCell ⟨b, 0, none⟩ (.pointer (some ⟨b, 0, none⟩)) := by
  obtain ⟨j, hj, hjs⟩ := Option.map_eq_some_iff.1 X.sizeBuilder
  have mixed := L.mixed
  have v72 := L.v72; have u72 := run_underlying L.t72; have z72 := L.z72; have a72 := L.a72; have t72 := L.t72
  have v70 := L.v70; have u70 := run_underlying L.t70; have z70 := L.z70; have a70 := L.a70; have t70 := L.t70
  have v9 := L.v9; have u9 := run_underlying L.t9; have z9 := L.z9; have a9 := L.a9; have t9 := L.t9
  have v4 := L.v4; have u4 := run_underlying L.t4; have z4 := L.z4; have a4 := L.a4; have t4 := L.t4
  have v164 := L.v164; have u164 := run_underlying L.t164; have z164 := L.z164; have a164 := L.a164; have t164 := L.t164
  go_enter L.f240, Body.n240_ntmps ρ
  go_wp2
  rw [Lib.run_to_unsafe w ⟨b, 0, none⟩ L.t70 L.t164 hj (by rw [hjs]; decide) hsh hn]
  simp only [Result.andThen]
  rw [Oper.upon_value]
  go_wp2
  rw [run_callFunc_extern L.f276 (by kernel_rfl) (by kernel_rfl) (by kernel_rfl) (e := Extern.AbiNoEscape.same) (by kernel_rfl), Lib.run_noEscape]
  simp only [Result.andThen]
  rw [Oper.upon_value]
  go_wp2
  rw [Lib.run_from_unsafe w ⟨b, 0, none⟩ L.t164 L.t70 hj hsh hl]
  simp only [Result.andThen]
  rw [Oper.upon_value]
  go_wp2
  go_end0
  exact ⟨rfl, rfl⟩
set_option maxHeartbeats 2000000 in
set_option maxRecDepth 100000 in
theorem text_part (L : Lays.n169 P ρ) (X : Builder.Extra P ρ) {B b g cap : Nat} {cur : Array Value} {l : List UInt8} {w : World} (h0 : l ≠ []) (hc : w.cell? ⟨b, 1, none⟩ = some (.slice (some ⟨g, 0, none⟩) l.length cap)) (hbg : B ≤ g)
    (hg : w.heap[g]? = some (.cells cur (ρ.t 5) (0, 0))) (hnc : l.length ≤ cap) (hcm : cap ≤ 9223372036854775807) (hcs : cur.size = cap) (hb : ∀ j (x : UInt8), l[j]? = some x → w.cell? ((⟨g, 0, none⟩ : Addr).add j) = some (.int .u8 x.toNat)) :
    Calls P (ρ.f 169) #[.pointer (some ⟨b, 0, none⟩)] w fun e w' => e = .returned (.string ⟨l.toArray⟩) ∧ Below B w w' := by
  have hl0 : l.length ≠ 0 := by simpa using h0
  have c1 : w.drew.cell? ⟨b, 1, none⟩ = some (.slice (some ⟨g, 0, none⟩) l.length cap) := hc
  have hSD : (Builtin.unsafeSliceData_ #[(ρ.t 37)] (ρ.t 127) #[.slice (some ⟨g, 0, none⟩) l.length cap]).run P w.drew = .ok (.pointer (some ⟨g, 0, none⟩)) w.drew :=
    Lib.run_unsafeSliceData_row _ _ _ _ _ _ (by omega)
  have hUS : (Builtin.unsafeString_ #[(ρ.t 127), (ρ.t 3)] (ρ.t 9) #[.pointer (some ⟨g, 0, none⟩), .int .i64 l.length]).run P w.drew = .ok (.string ⟨l.toArray⟩) (w.drew.freeze ⟨g, 0, none⟩ l.length) := by
    have hg' : w.drew.heap[g]? = some (.cells cur (ρ.t 5) (0, 0)) := hg
    exact Lib.run_unsafeString_row w.drew (ρ.t 127) (ρ.t 3) (ρ.t 9) (ρ.t 5) L.t127 X.cellsByte g cur.size (by simp [World.shape?, hg']) l h0 (by omega) (by omega) hb
  have mixed := L.mixed
  have v72 := L.v72; have u72 := run_underlying L.t72; have z72 := L.z72; have a72 := L.a72; have t72 := L.t72
  have v70 := L.v70; have u70 := run_underlying L.t70; have z70 := L.z70; have a70 := L.a70; have t70 := L.t70
  have v37 := L.v37; have u37 := run_underlying L.t37; have z37 := L.z37; have a37 := L.a37; have t37 := L.t37
  have v127 := L.v127; have u127 := run_underlying L.t127; have z127 := L.z127; have a127 := L.a127; have t127 := L.t127
  have v3 := L.v3; have u3 := run_underlying L.t3; have z3 := L.z3; have a3 := L.a3; have t3 := L.t3
  have v9 := L.v9; have u9 := run_underlying L.t9; have z9 := L.z9; have a9 := L.a9; have t9 := L.t9
  have v5 := X.v5; have u5 := run_underlying X.t5; have z5 := X.z5; have a5 := X.a5; have t5 := X.t5
  go_enter L.f169, Body.n169_ntmps ρ
  go_wp2
  go_region_o
  all_goals (go_wp2; go_ret; exact ⟨rfl, Lib.below_freeze (Below.drew (Below.refl B w)) (p := ⟨g, 0, none⟩) hbg _⟩)
end
end Go.Proofs.YtfhalebbcbgbdaaGreatDoor
namespace Go.Proofs.YtfhalebbcbgbdaaGreatDoor
open Go.H Go.Proofs Go.Lib
open Go.RowKit (Below)
set_option linter.unusedSimpArgs false
set_option linter.unusedVariables false
set_option maxRecDepth 100000
abbrev ptrW (b : Nat) : Value := .pointer (some ⟨b, 0, none⟩)
def wrA (b : Nat) (xs : List Int) (c : Int) : Asn := exA fun x : Value × Slc => star (pr (x.1 = .pointer none ∨ x.1 = ptrW b)) (star (blk b (.cells #[x.1, .slice x.2.a x.2.len x.2.cap, .int .u8 c] 201 (0, 0))) (bufA 5 x.2 xs))
variable {h h0 : Heap} {R : List Asn}
theorem wrA_iff {b : Nat} {xs : List Int} {c : Int} : sat h (wrA b xs c :: R) ↔ ∃ (p : Value) (s : Slc), (p = .pointer none ∨ p = ptrW b) ∧ sat h (blk b (.cells #[p, .slice s.a s.len s.cap, .int .u8 c] 201 (0, 0)) :: bufA 5 s xs :: R) := by
  unfold wrA
  rw [sat.ex_iff]
  constructor
  · rintro ⟨⟨p, s⟩, hs⟩
    rw [sat.star_iff, sat.pr_iff, sat.star_iff] at hs
    exact ⟨p, s, hs⟩
  · rintro ⟨p, s, hs⟩
    refine ⟨(p, s), ?_⟩
    rw [sat.star_iff, sat.pr_iff, sat.star_iff]
    exact hs
theorem wr_new {Q : Nat → Heap → Prop} (hs : sat h R) (hq : ∀ b h', sat h' (wrA b [] 0 :: R) → Q b h') : HM.new (.cells #[.pointer none, .slice none 0 0, .int .u8 0] 201) h Q :=
  hq _ _ (wrA_iff.2 ⟨.pointer none, ⟨none, 0, 0⟩, .inl rfl, (bufA_nil (T := 5) hs.push).p1⟩)
theorem wcheck_spec {b : Nat} {xs : List Int} {c : Int} (hs : sat h (wrA b xs c :: R)) {Q : Value → Heap → Prop}
    (hq : ∀ (s : Slc) h', sat h' (blk b (.cells #[ptrW b, .slice s.a s.len s.cap, .int .u8 c] 201 (0, 0)) :: bufA 5 s xs :: R) → Q (.tuple #[]) h') : HCalls Tryz.prog 143 #[ptrW b] h Q := fun w hw => by
  subst hw
  obtain ⟨p, s, hp, hs⟩ := wrA_iff.1 hs
  have hg := hs.get
  rcases hp with rfl | rfl
  · refine (check_part { joinL with } joinX.toX72 (b := b) (n := 3) (E := 201) (w := w) (by simp [World.cell?, hg]) (by simp [World.shape?, hg]) (by decide) (by kernel_rfl) (by simp [World.frozen?, hg])).mono ?_
    rintro e w' ⟨rfl, rfl⟩
    exact ⟨_, rfl, ⟨rfl, rfl, rfl⟩, hq s _ (blk_set hs 0 (ptrW b))⟩
  · refine (Any.Builder_copyCheck_used { joinL with } joinX.toX72 b w (by simp [World.cell?, hg])).mono ?_
    rintro e w' ⟨rfl, rfl⟩
    exact ⟨_, rfl, ⟨rfl, rfl, rfl⟩, hq s _ hs⟩
theorem wwrite_spec {b : Nat} {xs : List Int} {c : Int} {t : ByteArray} (hs : sat h (wrA b xs c :: R)) (hb : xs.length + t.size ≤ 140737488355328) {Q : Value → Heap → Prop}
    (hq : ∀ h', sat h' (wrA b (xs ++ intsS t) c :: R) → Q (.tuple #[.int .i64 ((t.size : Nat) : Int), .nilIface]) h') : HCalls Tryz.prog 100 #[ptrW b, .string t] h Q := by
  refine strings_Builder_WriteString_calls (some ⟨b, 0, none⟩) t h Q ?_
  unfold strings_Builder_WriteString
  refine bind_callN (wcheck_spec hs fun s h1 hs1 => ⟨(), rfl, ?_⟩)
  have hg := hs1.get
  refine ⟨_, rfl, s, by rw [add_own]; simp [cellH, hg], ?_⟩
  (try dsimp only); rw [HM.bind_apply]
  refine append_buf hs1.p1 hb fun s' h2 hs2 => ?_
  have hg2 := hs2.p1.get
  refine ⟨_, rfl, ?_⟩
  (try dsimp only); rw [HM.bind_apply, add_own]
  refine ⟨by simp [cellH, hg2], by simp [frozenH, hg2], rfl, ?_⟩
  exact hq _ (wrA_iff.2 ⟨ptrW b, s', .inr rfl, blk_set hs2.p1 1 (.slice s'.a s'.len s'.cap)⟩)
theorem wlen_spec {b : Nat} {xs : List Int} {c : Int} (hs : sat h (wrA b xs c :: R)) {Q : Value → Heap → Prop} (hq : Q (.int .i64 ((xs.length : Nat) : Int)) h) : HCalls Tryz.prog 87 #[ptrW b] h Q := by
  refine strings_Builder_Len_calls (some ⟨b, 0, none⟩) h Q ?_
  unfold strings_Builder_Len
  obtain ⟨p, s, hp, hs⟩ := wrA_iff.1 hs
  have hg := hs.get
  have hl : s.len = xs.length := by
    rcases bufA_cases hs.p1 with ⟨rfl, rfl, -⟩ | ⟨g, cur, hf, -⟩
    · rfl
    · exact hf.len
  refine ⟨_, rfl, s, by rw [add_own]; simp [cellH, hg], ?_⟩
  have := hq
  rw [← hl] at this
  exact this
theorem wcode {b : Nat} {xs : List Int} {c : Int} (hs : sat h (wrA b xs c :: R)) : cellH h ⟨b, 2, none⟩ = some (.int .u8 c) := by
  obtain ⟨p, s, hp, hs⟩ := wrA_iff.1 hs
  have hg := hs.get
  simp [cellH, hg]
def firstC (c d : Int) : Int := if c = 0 then d else c
theorem wfail_spec {b : Nat} {xs : List Int} {c d : Int} (hs : sat h (wrA b xs c :: R)) {Q : Value → Heap → Prop}
    (hq : ∀ h', sat h' (wrA b xs (firstC c d) :: R) → Q (.tuple #[]) h') : HCalls Tryz.prog 84 #[ptrW b, .int .u8 d] h Q := by
  refine packet_writer_fail_calls (some ⟨b, 0, none⟩) d h Q ?_
  unfold packet_writer_fail
  refine ⟨_, rfl, c, by rw [add_own]; exact wcode hs, ?_⟩
  (try dsimp only); rw [HM.bind_apply, HM.ite_apply]
  by_cases hc : c = 0
  · rw [if_pos (by simpa using hc)]
    obtain ⟨p, s, hp, hs1⟩ := wrA_iff.1 hs
    have hg := hs1.get
    refine ⟨_, rfl, ?_⟩
    (try dsimp only); rw [HM.bind_apply, add_own]
    refine ⟨by simp [cellH, hg], by simp [frozenH, hg], rfl, ?_⟩
    refine hq _ ?_
    rw [show firstC c d = d from if_pos hc]
    exact wrA_iff.2 ⟨p, s, hp, blk_set hs1 2 (.int .u8 d)⟩
  · rw [if_neg (by simpa using hc)]
    have := hq h
    rw [show firstC c d = c from if_neg hc] at this
    exact this hs
theorem wpart_spec {b : Nat} {xs : List Int} {c d : Int} {t : ByteArray} (hs : sat h (wrA b xs c :: R)) (hb : xs.length + t.size ≤ 140737488355328) {Q : Value → Heap → Prop}
    (hq : ∀ h', sat h' (wrA b (xs ++ intsS t) (firstC c d) :: R) → Q (.tuple #[]) h') : HCalls Tryz.prog 164 #[ptrW b, .string t, .int .u8 d] h Q := by
  refine packet_writer_part_calls (some ⟨b, 0, none⟩) t d h Q ?_
  unfold packet_writer_part
  refine bind_callN (wfail_spec hs fun h1 hs1 => ⟨(), rfl, ?_⟩)
  refine ⟨_, rfl, ?_⟩
  refine bind_callN (wwrite_spec hs1 hb fun h2 hs2 => ⟨(_, .nilIface, ()), rfl, ?_⟩)
  exact hq h2 hs2
theorem wtext_spec {b : Nat} {xs : List Int} {c : Int} {hB : Heap} (hs : sat h (wrA b xs c :: old hB :: R)) (hx : ∀ x ∈ xs, 0 ≤ x ∧ x < 256) (h0 : xs ≠ []) {Q : Value → Heap → Prop}
    (hq : ∀ h', (∀ (k : Nat) o, hB[k]? = some o → h'[k]? = some o) → Q (.string (bytesOfInts xs)) h') : HCalls Tryz.prog 90 #[ptrW b] h Q := fun w hw => by
  subst hw
  obtain ⟨p, s, hp, hs⟩ := wrA_iff.1 hs
  have hg := hs.get
  rcases bufA_cases hs.p1 with ⟨rfl, rfl, -⟩ | ⟨g, cur, hf, hs1⟩
  · exact absurd rfl h0
  have hgg := hs1.get
  have hle : hB.size ≤ g := fresh_old (hs1.re [0, 2, 1])
  have hll : (xs.map fun x : Int => UInt8.ofNat x.toNat).length = s.len := by rw [List.length_map, hf.len]
  refine (text_part (ρ := joinL_ren) { joinL with } joinX (B := hB.size) (b := b) (g := g) (cap := s.cap) (cur := cur) (l := xs.map fun x : Int => UInt8.ofNat x.toNat) (w := w) (by simpa using h0) ?_ hle hgg (by rw [hll]; exact hf.le) hf.cap hf.size ?_).mono ?_
  · rw [hll, ← hf.a]
    simp [World.cell?, hg]
  · intro j x hj
    have hfr := hf.front
    have hxj : (xs.map (Value.int .u8))[j]? = some (.int .u8 x.toNat) := by
      rw [List.getElem?_map] at hj ⊢
      cases hxs : xs[j]? with
      | none => rw [hxs] at hj; cases hj
      | some y =>
        rw [hxs] at hj
        simp only [Option.map_some, Option.some.injEq] at hj ⊢
        obtain ⟨h1, h2⟩ := hx y (List.mem_of_getElem? hxs)
        rw [← hj]
        simp only [UInt8.toNat_ofNat']
        congr 1
        omega
    rw [← hfr, List.getElem?_take] at hxj
    split at hxj
    · rw [add_own]
      have : w.cell? ⟨g, j, none⟩ = cur[j]? := by simp [World.cell?, hgg]
      rw [this]
      simpa using hxj
    · cases hxj
  rintro e w' ⟨rfl, hbel⟩
  have e1 : (⟨(xs.map fun x : Int => UInt8.ofNat x.toNat).toArray⟩ : ByteArray) = bytesOfInts xs := data_inj (by rw [ints_data])
  rw [e1]
  refine ⟨_, rfl, below_same hbel, hq _ fun k o hk => ?_⟩
  have hlt := (Array.getElem?_eq_some_iff.1 hk).1
  rw [hbel.block k hlt]
  exact (hs.re [2, 0, 1]).old_get hk
end Go.Proofs.YtfhalebbcbgbdaaGreatDoor
namespace Go.Proofs.YtfhalebbcbgbdaaGreatDoor
open Go.H Go.Proofs Go.Lib
set_option linter.unusedSimpArgs false
set_option linter.unusedVariables false
set_option maxRecDepth 100000
variable {h h0 : Heap} {R : List Asn}
def sizeV (n : Nat) : Nat := if n < 128 then 1 else if n < 16384 then 2 else if n < 2097152 then 3 else 4
theorem sizeV_pos (n : Nat) : 1 ≤ sizeV n ∧ sizeV n ≤ 4 := by unfold sizeV; split <;> (try split) <;> (try split) <;> omega
def vI (k n i : Nat) : Int := ((n / 128 ^ i % 128 + (if i + 1 < k then 128 else 0) : Nat) : Int)
def vLs (n : Nat) : List Int := (List.range (sizeV n)).map (vI (sizeV n) n)
def vB (n : Nat) : ByteArray := bytesOfInts (vLs n)
theorem vB_size (n : Nat) : (vB n).size = sizeV n := by unfold vB vLs; rw [ints_size, List.length_map, List.length_range]
theorem vsize_spec {n : Nat} (hn : n ≤ 268435455) {Q : Value → Heap → Prop} (hq : Q (.int .i64 (sizeV n)) h) : HCalls Tryz.prog 128 #[.int .i64 n] h Q := by
  refine varint_Size_calls n h Q ?_
  unfold varint_Size
  have w1 : IntKind.wrap .i64 (0 + 1) = 1 := by decide
  have w2 : IntKind.wrap .i64 (1 + 1) = 2 := by decide
  have w3 : IntKind.wrap .i64 (2 + 1) = 3 := by decide
  have w4 : IntKind.wrap .i64 (3 + 1) = 4 := by decide
  unfold sizeV at hq
  have a1 : ¬ ((n : Int) < 0) := by omega
  have a2 : ¬ (268435455 < (n : Int)) := by omega
  by_cases b1 : n < 128
  · rw [if_pos b1] at hq
    have c1 : ¬ (128 ≤ (n : Int)) := by omega
    have c2 : ¬ (16384 ≤ (n : Int)) := by omega
    have c3 : ¬ (2097152 ≤ (n : Int)) := by omega
    simp [HM.bind_apply, HM.ite_apply, HM.pure_apply, a1, a2, c1, c2, c3, w1]
    exact hq
  rw [if_neg b1] at hq
  have c1 : 128 ≤ (n : Int) := by omega
  by_cases b2 : n < 16384
  · rw [if_pos b2] at hq
    have c2 : ¬ (16384 ≤ (n : Int)) := by omega
    have c3 : ¬ (2097152 ≤ (n : Int)) := by omega
    simp [HM.bind_apply, HM.ite_apply, HM.pure_apply, a1, a2, c1, c2, c3, w1, w2]
    exact hq
  rw [if_neg b2] at hq
  have c2 : 16384 ≤ (n : Int) := by omega
  by_cases b3 : n < 2097152
  · rw [if_pos b3] at hq
    have c3 : ¬ (2097152 ≤ (n : Int)) := by omega
    simp [HM.bind_apply, HM.ite_apply, HM.pure_apply, a1, a2, c1, c2, c3, w1, w2, w3]
    exact hq
  rw [if_neg b3] at hq
  have c3 : 2097152 ≤ (n : Int) := by omega
  simp [HM.bind_apply, HM.ite_apply, HM.pure_apply, a1, a2, c1, c2, c3, w1, w2, w3, w4]
  exact hq
theorem and127 (m : Nat) (hm : m ≤ 268435455) : bitOp .and .i64 (m : Int) 127 = ((m % 128 : Nat) : Int) := by
  show IntKind.wrap .i64 (((BitVec.ofInt 64 (m : Int) &&& BitVec.ofInt 64 127).toNat : Nat) : Int) = _
  rw [BitVec.ofInt_natCast, show (127 : Int) = ((127 : Nat) : Int) from rfl, BitVec.ofInt_natCast, BitVec.toNat_and, BitVec.toNat_ofNat, BitVec.toNat_ofNat, Nat.mod_eq_of_lt (by omega), Nat.mod_eq_of_lt (by omega)]
  have := Nat.and_two_pow_sub_one_eq_mod m 7
  rw [show (127 : Nat) = 2 ^ 7 - 1 from rfl, this, wrap_id (by omega) (by omega)]
theorem or128 (m : Nat) (hm : m < 128) : bitOp .or .u8 (m : Int) 128 = ((m + 128 : Nat) : Int) := by
  show IntKind.wrap .u8 (((BitVec.ofInt 8 (m : Int) ||| BitVec.ofInt 8 128).toNat : Nat) : Int) = _
  rw [BitVec.ofInt_natCast, show (128 : Int) = ((128 : Nat) : Int) from rfl, BitVec.ofInt_natCast, BitVec.toNat_or, BitVec.toNat_ofNat, BitVec.toNat_ofNat, Nat.mod_eq_of_lt (by omega), Nat.mod_eq_of_lt (by omega)]
  have e := Nat.shiftLeft_add_eq_or_of_lt (i := 7) (b := m) (by omega) 1
  rw [Nat.shiftLeft_eq, Nat.or_comm] at e
  rw [show (128 : Nat) = 1 * 2 ^ 7 from rfl, ← e, wrap_u8]
  omega
theorem sh7 {n i : Nat} (hi : i ≤ 3) : Int.fdiv (n : Int) (2 ^ (min (Int.toNat (IntKind.wrap .i64 (7 * (i : Int)))) (IntKind.bits .i64))) = ((n / 128 ^ i : Nat) : Int) := by
  rw [wrap_id (by omega) (by omega)]
  have e1 : min (Int.toNat (7 * (i : Int))) (IntKind.bits .i64) = 7 * i := by
    show min _ 64 = _
    omega
  rw [e1]
  have e2 : ((2 : Int) ^ (7 * i)) = ((128 ^ i : Nat) : Int) := by
    rw [Int.natCast_pow, Int.pow_mul]
    rfl
  rw [e2, Int.fdiv_eq_ediv_of_nonneg _ (Int.natCast_nonneg _), ← Int.natCast_ediv]
theorem vput_spec (hs : sat h R) {n : Nat} (hn : n ≤ 268435455) {Q : Value → Heap → Prop} (hq : ∀ h', sat h' R → Q (.tuple #[.string (vB n), .int .u8 0]) h') : HCalls Tryz.prog 89 #[.int .i64 n] h Q := by
  refine varint_Put_calls n h Q ?_
  unfold varint_Put
  have hk := sizeV_pos n
  refine bind_call1 (vsize_spec hn ⟨_, rfl, ?_⟩)
  (try dsimp only); rw [HM.ite_apply, if_neg (by simp only [beq_iff_eq]; omega)]
  (try dsimp only); rw [HM.bind_apply]
  refine loop_for (sizeV n) (fun i x h' => x.2.1 = (i : Int) ∧ sat h' (ownS eU 1 x.1 ((List.range i).map (vI (sizeV n) n)) :: R))
    ⟨rfl, ownS_nil hs⟩ (fun i x h hi hJ => by rw [hJ.1]; exact decide_eq_decide.2 (by omega)) (fun x h hJ K hd => ?_) (fun i x h hlt hJ K hnx hd => ?_)
  · obtain ⟨hx, hs1⟩ := hJ
    refine hd _ _ ?_
    (try dsimp only); rw [HM.bind_apply]
    refine strOf_own hs1 ?_
    exact hq _ hs1.drop
  · obtain ⟨out, ci, ⟨⟩⟩ := x
    obtain ⟨hx, hs1⟩ := hJ
    simp only at hx hs1
    subst hx
    have hdl : n / 128 ^ i ≤ n := Nat.div_le_self _ _
    refine ⟨by (try dsimp only); rw [wrap_id (by omega) (by omega)]; omega, ?_⟩
    refine cut (fun z h' => h' = h ∧ z.1 = vI (sizeV n) n i) ?_ ?_
    · intro K2 hK2
      have hw : IntKind.wrap .i64 (((sizeV n : Nat) : Int) - 1) = ((sizeV n - 1 : Nat) : Int) := by rw [wrap_id (by omega) (by omega)]; omega
      (try dsimp only); rw [HM.ite_apply, hw, sh7 (by omega), and127 _ (by omega), wrap_u8, Nat.mod_eq_of_lt (by omega)]
      by_cases hl : i + 1 < sizeV n
      · rw [if_pos (by simp only [decide_eq_true_eq]; omega), or128 _ (by omega)]
        exact hK2 _ _ ⟨rfl, by unfold vI; rw [if_pos hl]⟩
      · rw [if_neg (by simp only [decide_eq_true_eq]; omega)]
        exact hK2 _ _ ⟨rfl, by unfold vI; rw [if_neg hl]; rfl⟩
    rintro ⟨z, ⟨⟩⟩ h2 ⟨rfl, hz⟩
    simp only at hz
    subst hz
    refine app_new (x := vI (sizeV n) n i) eU_len eU_cell rfl hs1 (by decide) (by decide) (by rw [List.length_map, List.length_range]; omega) fun out' h3 hs2 => ?_
    refine hnx _ _ ⟨by (try dsimp only); rw [wrap_id (by omega) (by omega)]; rfl, ?_⟩
    rw [List.range_succ, List.map_append]
    exact hs2
end Go.Proofs.YtfhalebbcbgbdaaGreatDoor
namespace Go.Proofs.YtfhalebbcbgbdaaGreatDoor
open Go.H Go.Proofs Go.Lib
set_option linter.unusedSimpArgs false
set_option linter.unusedVariables false
set_option maxRecDepth 100000
variable {h h0 : Heap} {R : List Asn}
def textC (s : ByteArray) : Int := if faultOf s ≠ none then 129 else if 65535 < s.size then 149 else 0
def textB (s : ByteArray) : ByteArray := if textC s = 0 then datB s else e0S
theorem tput_spec (hs : sat h (old h0 :: R)) (ht : U8 h0) {s : ByteArray} (hsz : s.size ≤ 9223372036854775800) {Q : Value → Heap → Prop} (hq : ∀ h', sat h' (old h0 :: R) → Q (.tuple #[.string (textB s), .int .u8 (textC s)]) h') :
    HCalls Tryz.prog 197 #[.string s] h Q := by
  refine text_Put_calls s h Q ?_
  unfold text_Put
  have mk : ∀ {o : Option Nat}, faultOf s = o → ∀ h1, sat h1 (old h0 :: R) → HM.ite o.isSome (HM.pure (ByteArray.mk #[], 129, ())) (HM.bind (HM.callN Tryz.prog [.one .str, .one (.int .u8)] 198 #[.string s]) fun x2 => HM.pure (x2.1, x2.2.1, ())) h1 (fun (x : ByteArray × Int × Unit) h' => Q (.tuple #[.string x.1, .int .u8 x.2.1]) h') := by
    intro o ho h1 hs1
    rw [HM.ite_apply]
    cases o with
    | some n =>
      rw [if_pos (by rfl)]
      have e : textC s = 129 := by unfold textC; rw [if_pos (by rw [ho]; simp)]
      have := hq h1 hs1
      unfold textB at this
      rw [e, if_neg (by decide)] at this
      exact this
    | none =>
      rw [if_neg (by simp)]
      by_cases hl : s.size ≤ 65535
      · have e : textC s = 0 := by unfold textC; rw [if_neg (by rw [ho]; simp), if_neg (by omega)]
        refine bind_callN (Data_spec hs1 hl fun h2 hs2 => ⟨(datB s, 0, ()), rfl, ?_⟩)
        have := hq h2 hs2
        unfold textB at this
        rw [e, if_pos rfl] at this
        exact this
      · have e : textC s = 149 := by unfold textC; rw [if_neg (by rw [ho]; simp), if_pos (by omega)]
        refine bind_callN ?_
        refine varint_Data_calls s h1 _ ?_
        unfold varint_Data
        (try dsimp only); rw [HM.ite_apply, if_pos (by simp only [decide_eq_true_eq]; omega)]
        refine ⟨(ByteArray.mk #[], 149, ()), rfl, ?_⟩
        have := hq h1 hs1
        unfold textB at this
        rw [e, if_neg (by decide)] at this
        exact this
  refine bind_callN (Fault_spec hs ht s (by omega) fun h1 hs1 => ?_)
  cases ho : faultOf s with
  | some n => exact ⟨(n, true, ()), rfl, mk ho h1 hs1⟩
  | none => exact ⟨(0, false, ()), rfl, mk ho h1 hs1⟩
theorem kind38 {Q : Value → Heap → Prop} (hq : Q (.int .i64 7) h) : HCalls Tryz.prog 199 #[.int .i64 38] h Q := by
  refine prop_KindOf_calls 38 h Q ?_
  unfold prop_KindOf
  simp [HM.bind_apply, HM.ite_apply, HM.pure_apply]
  exact hq
end Go.Proofs.YtfhalebbcbgbdaaGreatDoor
namespace Go.Proofs.YtfhalebbcbgbdaaGreatDoor
open Go.H Go.Proofs Go.Lib
open Go.RowKit (Below)
set_option linter.unusedSimpArgs false
set_option linter.unusedVariables false
set_option synthInstance.maxSize 100000
set_option synthInstance.maxHeartbeats 400000
set_option maxRecDepth 100000
abbrev ptrB (b : Nat) : Value := .pointer (some ⟨b, 0, none⟩)
def bldA (b : Nat) (xs : List Int) : Asn := exA fun x : Value × Slc => star (pr (x.1 = .pointer none ∨ x.1 = ptrB b)) (star (blk b (.cells #[x.1, .slice x.2.a x.2.len x.2.cap] 199 (0, 0))) (bufA 5 x.2 xs))
variable {h h0 : Heap} {R : List Asn}
theorem bldA_iff {b : Nat} {xs : List Int} : sat h (bldA b xs :: R) ↔ ∃ (p : Value) (s : Slc), (p = .pointer none ∨ p = ptrB b) ∧ sat h (blk b (.cells #[p, .slice s.a s.len s.cap] 199 (0, 0)) :: bufA 5 s xs :: R) := by
  unfold bldA
  rw [sat.ex_iff]
  constructor
  · rintro ⟨⟨p, s⟩, hs⟩
    rw [sat.star_iff, sat.pr_iff, sat.star_iff] at hs
    exact ⟨p, s, hs⟩
  · rintro ⟨p, s, hs⟩
    refine ⟨(p, s), ?_⟩
    rw [sat.star_iff, sat.pr_iff, sat.star_iff]
    exact hs
theorem copyCheck_spec {b : Nat} {xs : List Int} (hs : sat h (bldA b xs :: R)) {Q : Value → Heap → Prop}
    (hq : ∀ (s : Slc) h', sat h' (blk b (.cells #[ptrB b, .slice s.a s.len s.cap] 199 (0, 0)) :: bufA 5 s xs :: R) → Q (.tuple #[]) h') : HCalls Tryz.prog 143 #[ptrB b] h Q := fun w hw => by
  subst hw
  obtain ⟨p, s, hp, hs⟩ := bldA_iff.1 hs
  have hg := hs.get
  rcases hp with rfl | rfl
  · refine (Any.Builder_copyCheck_fresh { joinL with } joinX.toX72 b w (by simp [World.cell?, hg]) (by simp [World.shape?, hg]; rfl) (by simp [World.frozen?, hg])).mono ?_
    rintro e w' ⟨rfl, rfl⟩
    exact ⟨_, rfl, ⟨rfl, rfl, rfl⟩, hq s _ (blk_set hs 0 (ptrB b))⟩
  · refine (Any.Builder_copyCheck_used { joinL with } joinX.toX72 b w (by simp [World.cell?, hg])).mono ?_
    rintro e w' ⟨rfl, rfl⟩
    exact ⟨_, rfl, ⟨rfl, rfl, rfl⟩, hq s _ hs⟩
theorem Write_spec {b : Nat} {xs : List Int} {t : ByteArray} (hs : sat h (bldA b xs :: R)) (hb : xs.length + t.size ≤ 140737488355328) {Q : Value → Heap → Prop}
    (hq : ∀ h', sat h' (bldA b (xs ++ intsS t) :: R) → Q (.tuple #[.int .i64 ((t.size : Nat) : Int), .nilIface]) h') : HCalls Tryz.prog 100 #[ptrB b, .string t] h Q := by
  refine strings_Builder_WriteString_calls (some ⟨b, 0, none⟩) t h Q ?_
  unfold strings_Builder_WriteString
  refine bind_callN (copyCheck_spec hs fun s h1 hs1 => ⟨(), rfl, ?_⟩)
  have hg := hs1.get
  refine ⟨_, rfl, s, by rw [add_own]; simp [cellH, hg], ?_⟩
  (try dsimp only); rw [HM.bind_apply]
  refine append_buf hs1.p1 hb fun s' h2 hs2 => ?_
  have hg2 := hs2.p1.get
  refine ⟨_, rfl, ?_⟩
  (try dsimp only); rw [HM.bind_apply, add_own]
  refine ⟨by simp [cellH, hg2], by simp [frozenH, hg2], rfl, ?_⟩
  exact hq _ (bldA_iff.2 ⟨ptrB b, s', .inr rfl, blk_set hs2.p1 1 (.slice s'.a s'.len s'.cap)⟩)
theorem String_spec {b : Nat} {xs : List Int} {hB : Heap} (hs : sat h (bldA b xs :: old hB :: R)) (hbB : hB.size ≤ b) (hx : ∀ x ∈ xs, 0 ≤ x ∧ x < 256) {Q : Value → Heap → Prop}
    (hq : ∀ h', (∀ (k : Nat) o, hB[k]? = some o → h'[k]? = some o) → Q (.string (bytesOfInts xs)) h') : HCalls Tryz.prog 90 #[ptrB b] h Q := fun w hw => by
  subst hw
  obtain ⟨p, s, hp, hs⟩ := bldA_iff.1 hs
  have hg := hs.get
  have hcells : byteCells (xs.map fun x : Int => UInt8.ofNat x.toNat) = xs.map (Value.int .u8) := by
    unfold byteCells
    rw [List.map_map]
    refine List.map_congr_left fun x hxm => ?_
    obtain ⟨h1, h2⟩ := hx x hxm
    simp only [Function.comp_apply, UInt8.toNat_ofNat']
    congr 1
    omega
  have hat : BuilderAt 199 5 hB.size b p (byteCells (xs.map fun x : Int => UInt8.ofNat x.toNat)) w := by
    rw [hcells]
    rcases bufA_cases hs.p1 with ⟨rfl, rfl, -⟩ | ⟨g, cur, hf, hs1⟩
    · exact ⟨hbB, _, hg, ⟨rfl, .inl ⟨rfl, rfl⟩⟩, by simp [Value.ownBlock]⟩
    · have hgg := hs1.get
      have hle : hB.size ≤ g := fresh_old (hs1.re [0, 2, 1])
      refine ⟨hbB, _, hg, ⟨by simp, .inr ⟨g, s.cap, cur, by rw [hf.a, hf.len]; simp, hle, hgg, by rw [List.length_map, ← hf.len]; exact hf.le, hf.cap, by rw [hf.size, Nat.mul_one], ?_⟩⟩, ?_⟩
      · rw [List.length_map, Nat.mul_one, ← hf.len]
        exact hf.front
      · rw [hf.a]
        simp only [Value.ownBlock, ne_eq, Option.some.injEq]
        rintro rfl
        rw [hg] at hgg
        cases hgg
  have hisb : IsBuilder 199 5 hB.size b (byteCells (xs.map fun x : Int => UInt8.ofNat x.toNat)) w := by
    rcases hp with rfl | rfl
    · exact .inl hat
    · exact .inr hat
  have hBw : hB.size ≤ w.heap.size := Nat.le_trans hbB (Nat.le_of_lt hs.lt)
  refine (Any.Builder_String_any (ρ := joinL_ren) { joinL with } joinX hB.size b (xs.map fun x : Int => UInt8.ofNat x.toNat) w hisb hBw).mono ?_
  rintro e w' ⟨rfl, hbel⟩
  have e1 : (⟨(xs.map fun x : Int => UInt8.ofNat x.toNat).toArray⟩ : ByteArray) = bytesOfInts xs := data_inj (by rw [ints_data])
  rw [e1]
  refine ⟨_, rfl, below_same hbel, hq _ fun k o hk => ?_⟩
  have hlt := (Array.getElem?_eq_some_iff.1 hk).1
  rw [hbel.block k hlt]
  exact (hs.re [2, 0, 1]).old_get hk
end Go.Proofs.YtfhalebbcbgbdaaGreatDoor
