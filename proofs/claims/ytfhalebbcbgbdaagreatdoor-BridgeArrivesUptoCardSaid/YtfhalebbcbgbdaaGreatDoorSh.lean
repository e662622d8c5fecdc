/-
  The shallow forms of functions of the program, written by gen.py; each is held against the program by the kernel.
-/
import Derived.Test.YtfhalebbcbgbdaaGreatDoorHA
import Derived.Test.YtfhalebbcbgbdaaGreatDoorSg
import Derived.Test.YtfhalebbcbgbdaaGreatDoorProg
import Derived.KernelRfl
namespace Go.Proofs.YtfhalebbcbgbdaaGreatDoor
open Go.H Go.Proofs
set_option linter.unusedVariables false
set_option linter.unusedSimpArgs false
set_option maxRecDepth 100000
set_option maxHeartbeats 4000000

/-- (*aqueduct/packet.writer).connect -/
def packet_writer_connect (p0 : Option Addr) (p1 : Int × Bool × Bool × Int × Int × ByteArray × ByteArray × Int × Slc × Slc × ByteArray × Bool × Int × Bool × ByteArray × ByteArray × Int × Bool × Slc × Bool × Bool × ByteArray × ByteArray × Bool × Slc × Slc × Unit) : HM (Unit) :=
  HM.bind (α := Nat) (HM.new (.cells #[.int .i64 p1.1, .bool p1.2.1, .bool p1.2.2.1, .int .i64 p1.2.2.2.1, .int .i64 p1.2.2.2.2.1, .string p1.2.2.2.2.2.1, .string p1.2.2.2.2.2.2.1, .int .u8 p1.2.2.2.2.2.2.2.1, .slice p1.2.2.2.2.2.2.2.2.1.a p1.2.2.2.2.2.2.2.2.1.len p1.2.2.2.2.2.2.2.2.1.cap, .slice p1.2.2.2.2.2.2.2.2.2.1.a p1.2.2.2.2.2.2.2.2.2.1.len p1.2.2.2.2.2.2.2.2.2.1.cap, .string p1.2.2.2.2.2.2.2.2.2.2.1, .bool p1.2.2.2.2.2.2.2.2.2.2.2.1, .int .i64 p1.2.2.2.2.2.2.2.2.2.2.2.2.1, .bool p1.2.2.2.2.2.2.2.2.2.2.2.2.2.1, .string p1.2.2.2.2.2.2.2.2.2.2.2.2.2.2.1, .string p1.2.2.2.2.2.2.2.2.2.2.2.2.2.2.2.1, .int .i64 p1.2.2.2.2.2.2.2.2.2.2.2.2.2.2.2.2.1, .bool p1.2.2.2.2.2.2.2.2.2.2.2.2.2.2.2.2.2.1, .slice p1.2.2.2.2.2.2.2.2.2.2.2.2.2.2.2.2.2.2.1.a p1.2.2.2.2.2.2.2.2.2.2.2.2.2.2.2.2.2.2.1.len p1.2.2.2.2.2.2.2.2.2.2.2.2.2.2.2.2.2.2.1.cap, .bool p1.2.2.2.2.2.2.2.2.2.2.2.2.2.2.2.2.2.2.2.1, .bool p1.2.2.2.2.2.2.2.2.2.2.2.2.2.2.2.2.2.2.2.2.1, .string p1.2.2.2.2.2.2.2.2.2.2.2.2.2.2.2.2.2.2.2.2.2.1, .string p1.2.2.2.2.2.2.2.2.2.2.2.2.2.2.2.2.2.2.2.2.2.2.1, .bool p1.2.2.2.2.2.2.2.2.2.2.2.2.2.2.2.2.2.2.2.2.2.2.2.1, .slice p1.2.2.2.2.2.2.2.2.2.2.2.2.2.2.2.2.2.2.2.2.2.2.2.2.1.a p1.2.2.2.2.2.2.2.2.2.2.2.2.2.2.2.2.2.2.2.2.2.2.2.2.1.len p1.2.2.2.2.2.2.2.2.2.2.2.2.2.2.2.2.2.2.2.2.2.2.2.2.1.cap, .slice p1.2.2.2.2.2.2.2.2.2.2.2.2.2.2.2.2.2.2.2.2.2.2.2.2.2.1.a p1.2.2.2.2.2.2.2.2.2.2.2.2.2.2.2.2.2.2.2.2.2.2.2.2.2.1.len p1.2.2.2.2.2.2.2.2.2.2.2.2.2.2.2.2.2.2.2.2.2.2.2.2.2.1.cap] 34)) fun x1 =>
  HM.bind (α := Unit) (HM.callN Tryz.prog [] 161 #[.pointer p0, .string (ByteArray.mk #[77, 81, 84, 84])]) fun x2 =>
  HM.bind (α := Unit) (HM.callN Tryz.prog [] 121 #[.pointer p0, .int .i64 5]) fun x3 =>
  HM.bind (α := Bool) (HM.load1 .bool (Addr.add ⟨x1, 0, none⟩ 11)) fun x4 =>
  HM.bind (α := Bool) (HM.load1 .bool (Addr.add ⟨x1, 0, none⟩ 20)) fun x5 =>
  HM.bind (α := Bool) (HM.load1 .bool (Addr.add ⟨x1, 0, none⟩ 19)) fun x6 =>
  HM.bind (α := Int) (HM.call1 Tryz.prog (.one (.int .i64)) 85 #[.bool x4, .int .i64 2]) fun x7 =>
  HM.bind (α := Bool) (HM.load1 .bool (Addr.add ⟨x1, 0, none⟩ 19)) fun x8 =>
  HM.req ((.bool x8 : Value) = .bool x6) <|
  HM.bind (α := Bool) (HM.load1 .bool (Addr.add ⟨x1, 0, none⟩ 20)) fun x9 =>
  HM.req ((.bool x9 : Value) = .bool x5) <|
  HM.bind (α := Int) (HM.call1 Tryz.prog (.one (.int .i64)) 85 #[.bool x5, .int .i64 64]) fun x10 =>
  HM.bind (α := Bool) (HM.load1 .bool (Addr.add ⟨x1, 0, none⟩ 19)) fun x11 =>
  HM.req ((.bool x11 : Value) = .bool x6) <|
  HM.bind (α := Int) (HM.call1 Tryz.prog (.one (.int .i64)) 85 #[.bool x6, .int .i64 128]) fun x12 =>
  HM.bind (α := Bool) (HM.load1 .bool (Addr.add ⟨x1, 0, none⟩ 13)) fun x13 =>
  HM.bind (α := Int × Unit) (HM.ite x13 (
  HM.bind (α := Int) (HM.load1 (.int .i64) (Addr.add (Addr.add ⟨x1, 0, none⟩ 14) 2)) fun x15 =>
  HM.bind (α := Unit) (HM.callN Tryz.prog [] 83 #[.pointer p0, .int .i64 x15]) fun x16 =>
  HM.bind (α := Int) (HM.load1 (.int .i64) (Addr.add (Addr.add ⟨x1, 0, none⟩ 14) 2)) fun x17 =>
  HM.req ((0 : Int) ≤ 3) <|
  HM.bind (α := Bool) (HM.load1 .bool (Addr.add (Addr.add ⟨x1, 0, none⟩ 14) 3)) fun x18 =>
  HM.bind (α := Int) (HM.call1 Tryz.prog (.one (.int .i64)) 85 #[.bool x18, .int .i64 32]) fun x19 =>
  HM.bind (α := Int) (HM.load1 (.int .i64) (Addr.add (Addr.add ⟨x1, 0, none⟩ 14) 2)) fun x20 =>
  HM.req ((.int .i64 x20 : Value) = .int .i64 x17) <|
  HM.pure (IntKind.wrap .i64 ((IntKind.wrap .i64 ((IntKind.wrap .i64 (x7 + x10)) + x12)) + (IntKind.wrap .i64 ((IntKind.wrap .i64 (4 + (IntKind.wrap .i64 ((bitOp .and .i64 x17 3) * 2 ^ (min (Int.toNat 3) (IntKind.bits .i64)))))) + x19))), ())) (
  HM.pure (IntKind.wrap .i64 ((IntKind.wrap .i64 (x7 + x10)) + x12), ()))) fun x14 =>
  HM.bind (α := Unit) (HM.callN Tryz.prog [] 121 #[.pointer p0, .int .i64 x14.1]) fun x21 =>
  HM.bind (α := Int) (HM.load1 (.int .i64) (Addr.add ⟨x1, 0, none⟩ 12)) fun x22 =>
  HM.bind (α := Unit) (HM.callN Tryz.prog [] 162 #[.pointer p0, .int .i64 x22]) fun x23 =>
  HM.bind (α := Slc) (HM.load1 .slc (Addr.add ⟨x1, 0, none⟩ 9)) fun x24 =>
  HM.bind (α := Unit) (HM.callN Tryz.prog [] 122 #[.pointer p0, .int .i64 1, .slice x24.a x24.len x24.cap]) fun x25 =>
  HM.bind (α := ByteArray) (HM.load1 .str (Addr.add ⟨x1, 0, none⟩ 10)) fun x26 =>
  HM.bind (α := Unit) (HM.callN Tryz.prog [] 161 #[.pointer p0, .string x26]) fun x27 =>
  HM.bind (α := Bool) (HM.load1 .bool (Addr.add ⟨x1, 0, none⟩ 13)) fun x28 =>
  HM.bind (α := Unit) (HM.ite x28 (
  HM.bind (α := Slc) (HM.load1 .slc (Addr.add (Addr.add ⟨x1, 0, none⟩ 14) 4)) fun x30 =>
  HM.bind (α := Unit) (HM.callN Tryz.prog [] 122 #[.pointer p0, .int .i64 0, .slice x30.a x30.len x30.cap]) fun x31 =>
  HM.bind (α := ByteArray) (HM.load1 .str (Addr.add (Addr.add ⟨x1, 0, none⟩ 14) 0)) fun x32 =>
  HM.bind (α := Unit) (HM.callN Tryz.prog [] 161 #[.pointer p0, .string x32]) fun x33 =>
  HM.bind (α := ByteArray) (HM.load1 .str (Addr.add (Addr.add ⟨x1, 0, none⟩ 14) 1)) fun x34 =>
  HM.bind (α := Unit) (HM.callN Tryz.prog [] 163 #[.pointer p0, .string x34]) fun x35 =>
  HM.pure ()) (
  HM.pure ())) fun x29 =>
  HM.bind (α := Bool) (HM.load1 .bool (Addr.add ⟨x1, 0, none⟩ 19)) fun x36 =>
  HM.bind (α := Unit) (HM.ite x36 (
  HM.bind (α := ByteArray) (HM.load1 .str (Addr.add ⟨x1, 0, none⟩ 21)) fun x38 =>
  HM.bind (α := Unit) (HM.callN Tryz.prog [] 161 #[.pointer p0, .string x38]) fun x39 =>
  HM.pure ()) (
  HM.pure ())) fun x37 =>
  HM.bind (α := Bool) (HM.load1 .bool (Addr.add ⟨x1, 0, none⟩ 20)) fun x40 =>
  HM.bind (α := Unit) (HM.ite x40 (
  HM.bind (α := ByteArray) (HM.load1 .str (Addr.add ⟨x1, 0, none⟩ 22)) fun x42 =>
  HM.bind (α := Unit) (HM.callN Tryz.prog [] 163 #[.pointer p0, .string x42]) fun x43 =>
  HM.pure ()) (
  HM.pure ())) fun x41 =>
  HM.pure ()

theorem packet_writer_connect_den (p0 : Option Addr) (p1 : Int × Bool × Bool × Int × Int × ByteArray × ByteArray × Int × Slc × Slc × ByteArray × Bool × Int × Bool × ByteArray × ByteArray × Int × Bool × Slc × Bool × Bool × ByteArray × ByteArray × Bool × Slc × Slc × Unit) : denFn Tryz.prog [161, 121, 85, 83, 162, 122, 163] 84 [0, 1, 3, 4, 21, 56, 73, 79] [0, 1, 3, 4, 21, 56, 73, 79] Tryz.f120.results.toList [] (bodyOf Tryz.f120) [Kind.val (.one .ptr) p0, Kind.val (.agg [.int .i64, .bool, .bool, .int .i64, .int .i64, .str, .str, .int .u8, .slc, .slc, .str, .bool, .int .i64, .bool, .str, .str, .int .i64, .bool, .slc, .bool, .bool, .str, .str, .bool, .slc, .slc]) p1] = packet_writer_connect p0 p1 := by kernel_rfl
theorem packet_writer_connect_calls (p0 : Option Addr) (p1 : Int × Bool × Bool × Int × Int × ByteArray × ByteArray × Int × Slc × Slc × ByteArray × Bool × Int × Bool × ByteArray × ByteArray × Int × Bool × Slc × Bool × Bool × ByteArray × ByteArray × Bool × Slc × Slc × Unit) (h : Heap) (Q : Value → Heap → Prop) (hh : packet_writer_connect p0 p1 h fun x h' => Q (.tuple #[]) h') :
    HCalls Tryz.prog 120 #[.pointer p0, .agg #[.int .i64 p1.1, .bool p1.2.1, .bool p1.2.2.1, .int .i64 p1.2.2.2.1, .int .i64 p1.2.2.2.2.1, .string p1.2.2.2.2.2.1, .string p1.2.2.2.2.2.2.1, .int .u8 p1.2.2.2.2.2.2.2.1, .slice p1.2.2.2.2.2.2.2.2.1.a p1.2.2.2.2.2.2.2.2.1.len p1.2.2.2.2.2.2.2.2.1.cap, .slice p1.2.2.2.2.2.2.2.2.2.1.a p1.2.2.2.2.2.2.2.2.2.1.len p1.2.2.2.2.2.2.2.2.2.1.cap, .string p1.2.2.2.2.2.2.2.2.2.2.1, .bool p1.2.2.2.2.2.2.2.2.2.2.2.1, .int .i64 p1.2.2.2.2.2.2.2.2.2.2.2.2.1, .bool p1.2.2.2.2.2.2.2.2.2.2.2.2.2.1, .string p1.2.2.2.2.2.2.2.2.2.2.2.2.2.2.1, .string p1.2.2.2.2.2.2.2.2.2.2.2.2.2.2.2.1, .int .i64 p1.2.2.2.2.2.2.2.2.2.2.2.2.2.2.2.2.1, .bool p1.2.2.2.2.2.2.2.2.2.2.2.2.2.2.2.2.2.1, .slice p1.2.2.2.2.2.2.2.2.2.2.2.2.2.2.2.2.2.2.1.a p1.2.2.2.2.2.2.2.2.2.2.2.2.2.2.2.2.2.2.1.len p1.2.2.2.2.2.2.2.2.2.2.2.2.2.2.2.2.2.2.1.cap, .bool p1.2.2.2.2.2.2.2.2.2.2.2.2.2.2.2.2.2.2.2.1, .bool p1.2.2.2.2.2.2.2.2.2.2.2.2.2.2.2.2.2.2.2.2.1, .string p1.2.2.2.2.2.2.2.2.2.2.2.2.2.2.2.2.2.2.2.2.2.1, .string p1.2.2.2.2.2.2.2.2.2.2.2.2.2.2.2.2.2.2.2.2.2.2.1, .bool p1.2.2.2.2.2.2.2.2.2.2.2.2.2.2.2.2.2.2.2.2.2.2.2.1, .slice p1.2.2.2.2.2.2.2.2.2.2.2.2.2.2.2.2.2.2.2.2.2.2.2.2.1.a p1.2.2.2.2.2.2.2.2.2.2.2.2.2.2.2.2.2.2.2.2.2.2.2.2.1.len p1.2.2.2.2.2.2.2.2.2.2.2.2.2.2.2.2.2.2.2.2.2.2.2.2.1.cap, .slice p1.2.2.2.2.2.2.2.2.2.2.2.2.2.2.2.2.2.2.2.2.2.2.2.2.2.1.a p1.2.2.2.2.2.2.2.2.2.2.2.2.2.2.2.2.2.2.2.2.2.2.2.2.2.1.len p1.2.2.2.2.2.2.2.2.2.2.2.2.2.2.2.2.2.2.2.2.2.2.2.2.2.1.cap]] h Q :=
  calls_of_eq Tryz.func120 (by kernel_rfl) Tryz.ntmps120 (by kernel_rfl) (CC Tryz.call161 (CC Tryz.call121 (CC Tryz.call85 (CC Tryz.call83 (CC Tryz.call162 (CC Tryz.call122 (CC Tryz.call163 CN))))))) orders (packet_writer_connect_den p0 p1) hh

/-- (*aqueduct/packet.writer).byte -/
def packet_writer_byte (p0 : Option Addr) (p1 : Int) : HM (Unit) :=
  HM.bind (α := ByteArray × Int × Unit) (HM.callN Tryz.prog [.one .str, .one (.int .u8)] 88 #[.int .i64 1, .int .i64 p1]) fun x1 =>
  HM.bind (α := Unit) (HM.callN Tryz.prog [] 164 #[.pointer p0, .string x1.1, .int .u8 x1.2.1]) fun x2 =>
  HM.pure ()

theorem packet_writer_byte_den (p0 : Option Addr) (p1 : Int) : denFn Tryz.prog [88, 164] 10 [0, 1] [0, 1] Tryz.f121.results.toList [] (bodyOf Tryz.f121) [Kind.val (.one .ptr) p0, Kind.val (.one (.int .i64)) p1] = packet_writer_byte p0 p1 := by kernel_rfl
theorem packet_writer_byte_calls (p0 : Option Addr) (p1 : Int) (h : Heap) (Q : Value → Heap → Prop) (hh : packet_writer_byte p0 p1 h fun x h' => Q (.tuple #[]) h') :
    HCalls Tryz.prog 121 #[.pointer p0, .int .i64 p1] h Q :=
  calls_of_eq Tryz.func121 (by kernel_rfl) Tryz.ntmps121 (by kernel_rfl) (CC Tryz.call88 (CC Tryz.call164 CN)) orders (packet_writer_byte_den p0 p1) hh

/-- (*aqueduct/packet.writer).props -/
def packet_writer_props (p0 : Option Addr) (p1 : Int) (p2 : Slc) : HM (Unit) :=
  HM.bind (α := Nat) (HM.new (.cells #[.int .i64 p1] 25)) fun x1 =>
  HM.bind (α := ByteArray × Int × Unit) (HM.callN Tryz.prog [.one .str, .one (.int .u8)] 165 #[.slice p2.a p2.len p2.cap]) fun x2 =>
  HM.bind (α := Unit) (HM.callN Tryz.prog [] 164 #[.pointer p0, .string x2.1, .int .u8 x2.2.1]) fun x3 =>
  HM.bind (α := Bool) (HM.call1 Tryz.prog (.one .bool) 166 #[.slice p2.a p2.len p2.cap, .func (.func 167) #[] #[.pointer (some ⟨x1, 0, none⟩)]]) fun x4 =>
  HM.bind (α := Unit) (HM.ite x4 (
  HM.bind (α := Unit) (HM.callN Tryz.prog [] 84 #[.pointer p0, .int .u8 130]) fun x6 =>
  HM.pure ()) (
  HM.pure ())) fun x5 =>
  HM.pure ()

theorem packet_writer_props_den (p0 : Option Addr) (p1 : Int) (p2 : Slc) : denFn Tryz.prog [165, 164, 166, 84] 17 [0, 1, 2, 4, 14] [0, 1, 2, 4, 14] Tryz.f122.results.toList [] (bodyOf Tryz.f122) [Kind.val (.one .ptr) p0, Kind.val (.one (.int .i64)) p1, Kind.val (.one .slc) p2] = packet_writer_props p0 p1 p2 := by kernel_rfl
theorem packet_writer_props_calls (p0 : Option Addr) (p1 : Int) (p2 : Slc) (h : Heap) (Q : Value → Heap → Prop) (hh : packet_writer_props p0 p1 p2 h fun x h' => Q (.tuple #[]) h') :
    HCalls Tryz.prog 122 #[.pointer p0, .int .i64 p1, .slice p2.a p2.len p2.cap] h Q :=
  calls_of_eq Tryz.func122 (by kernel_rfl) Tryz.ntmps122 (by kernel_rfl) (CC Tryz.call165 (CC Tryz.call164 (CC Tryz.call166 (CC Tryz.call84 CN)))) orders (packet_writer_props_den p0 p1 p2) hh

/-- (*aqueduct/packet.writer).publish -/
def packet_writer_publish (p0 : Option Addr) (p1 : Int × Bool × Bool × Int × Int × ByteArray × ByteArray × Int × Slc × Slc × ByteArray × Bool × Int × Bool × ByteArray × ByteArray × Int × Bool × Slc × Bool × Bool × ByteArray × ByteArray × Bool × Slc × Slc × Unit) : HM (Unit) :=
  HM.bind (α := Nat) (HM.new (.cells #[.int .i64 p1.1, .bool p1.2.1, .bool p1.2.2.1, .int .i64 p1.2.2.2.1, .int .i64 p1.2.2.2.2.1, .string p1.2.2.2.2.2.1, .string p1.2.2.2.2.2.2.1, .int .u8 p1.2.2.2.2.2.2.2.1, .slice p1.2.2.2.2.2.2.2.2.1.a p1.2.2.2.2.2.2.2.2.1.len p1.2.2.2.2.2.2.2.2.1.cap, .slice p1.2.2.2.2.2.2.2.2.2.1.a p1.2.2.2.2.2.2.2.2.2.1.len p1.2.2.2.2.2.2.2.2.2.1.cap, .string p1.2.2.2.2.2.2.2.2.2.2.1, .bool p1.2.2.2.2.2.2.2.2.2.2.2.1, .int .i64 p1.2.2.2.2.2.2.2.2.2.2.2.2.1, .bool p1.2.2.2.2.2.2.2.2.2.2.2.2.2.1, .string p1.2.2.2.2.2.2.2.2.2.2.2.2.2.2.1, .string p1.2.2.2.2.2.2.2.2.2.2.2.2.2.2.2.1, .int .i64 p1.2.2.2.2.2.2.2.2.2.2.2.2.2.2.2.2.1, .bool p1.2.2.2.2.2.2.2.2.2.2.2.2.2.2.2.2.2.1, .slice p1.2.2.2.2.2.2.2.2.2.2.2.2.2.2.2.2.2.2.1.a p1.2.2.2.2.2.2.2.2.2.2.2.2.2.2.2.2.2.2.1.len p1.2.2.2.2.2.2.2.2.2.2.2.2.2.2.2.2.2.2.1.cap, .bool p1.2.2.2.2.2.2.2.2.2.2.2.2.2.2.2.2.2.2.2.1, .bool p1.2.2.2.2.2.2.2.2.2.2.2.2.2.2.2.2.2.2.2.2.1, .string p1.2.2.2.2.2.2.2.2.2.2.2.2.2.2.2.2.2.2.2.2.2.1, .string p1.2.2.2.2.2.2.2.2.2.2.2.2.2.2.2.2.2.2.2.2.2.2.1, .bool p1.2.2.2.2.2.2.2.2.2.2.2.2.2.2.2.2.2.2.2.2.2.2.2.1, .slice p1.2.2.2.2.2.2.2.2.2.2.2.2.2.2.2.2.2.2.2.2.2.2.2.2.1.a p1.2.2.2.2.2.2.2.2.2.2.2.2.2.2.2.2.2.2.2.2.2.2.2.2.1.len p1.2.2.2.2.2.2.2.2.2.2.2.2.2.2.2.2.2.2.2.2.2.2.2.2.1.cap, .slice p1.2.2.2.2.2.2.2.2.2.2.2.2.2.2.2.2.2.2.2.2.2.2.2.2.2.1.a p1.2.2.2.2.2.2.2.2.2.2.2.2.2.2.2.2.2.2.2.2.2.2.2.2.2.1.len p1.2.2.2.2.2.2.2.2.2.2.2.2.2.2.2.2.2.2.2.2.2.2.2.2.2.1.cap] 34)) fun x1 =>
  HM.bind (α := ByteArray) (HM.load1 .str (Addr.add ⟨x1, 0, none⟩ 5)) fun x2 =>
  HM.bind (α := Unit) (HM.callN Tryz.prog [] 161 #[.pointer p0, .string x2]) fun x3 =>
  HM.bind (α := Int) (HM.load1 (.int .i64) (Addr.add ⟨x1, 0, none⟩ 3)) fun x4 =>
  HM.bind (α := Unit) (HM.ite (decide (0 < (x4 : Int))) (
  HM.bind (α := Int) (HM.load1 (.int .i64) (Addr.add ⟨x1, 0, none⟩ 4)) fun x6 =>
  HM.bind (α := Unit) (HM.callN Tryz.prog [] 124 #[.pointer p0, .int .i64 x6]) fun x7 =>
  HM.pure ()) (
  HM.pure ())) fun x5 =>
  HM.bind (α := Slc) (HM.load1 .slc (Addr.add ⟨x1, 0, none⟩ 9)) fun x8 =>
  HM.bind (α := Unit) (HM.callN Tryz.prog [] 122 #[.pointer p0, .int .i64 3, .slice x8.a x8.len x8.cap]) fun x9 =>
  HM.bind (α := ByteArray) (HM.load1 .str (Addr.add ⟨x1, 0, none⟩ 6)) fun x10 =>
  HM.bind (α := Unit) (HM.callN Tryz.prog [] 164 #[.pointer p0, .string x10, .int .u8 0]) fun x11 =>
  HM.pure ()

theorem packet_writer_publish_den (p0 : Option Addr) (p1 : Int × Bool × Bool × Int × Int × ByteArray × ByteArray × Int × Slc × Slc × ByteArray × Bool × Int × Bool × ByteArray × ByteArray × Int × Bool × Slc × Bool × Bool × ByteArray × ByteArray × Bool × Slc × Slc × Unit) : denFn Tryz.prog [161, 124, 122, 164] 23 [0, 1, 3, 10] [0, 1, 3, 10] Tryz.f123.results.toList [] (bodyOf Tryz.f123) [Kind.val (.one .ptr) p0, Kind.val (.agg [.int .i64, .bool, .bool, .int .i64, .int .i64, .str, .str, .int .u8, .slc, .slc, .str, .bool, .int .i64, .bool, .str, .str, .int .i64, .bool, .slc, .bool, .bool, .str, .str, .bool, .slc, .slc]) p1] = packet_writer_publish p0 p1 := by kernel_rfl
theorem packet_writer_publish_calls (p0 : Option Addr) (p1 : Int × Bool × Bool × Int × Int × ByteArray × ByteArray × Int × Slc × Slc × ByteArray × Bool × Int × Bool × ByteArray × ByteArray × Int × Bool × Slc × Bool × Bool × ByteArray × ByteArray × Bool × Slc × Slc × Unit) (h : Heap) (Q : Value → Heap → Prop) (hh : packet_writer_publish p0 p1 h fun x h' => Q (.tuple #[]) h') :
    HCalls Tryz.prog 123 #[.pointer p0, .agg #[.int .i64 p1.1, .bool p1.2.1, .bool p1.2.2.1, .int .i64 p1.2.2.2.1, .int .i64 p1.2.2.2.2.1, .string p1.2.2.2.2.2.1, .string p1.2.2.2.2.2.2.1, .int .u8 p1.2.2.2.2.2.2.2.1, .slice p1.2.2.2.2.2.2.2.2.1.a p1.2.2.2.2.2.2.2.2.1.len p1.2.2.2.2.2.2.2.2.1.cap, .slice p1.2.2.2.2.2.2.2.2.2.1.a p1.2.2.2.2.2.2.2.2.2.1.len p1.2.2.2.2.2.2.2.2.2.1.cap, .string p1.2.2.2.2.2.2.2.2.2.2.1, .bool p1.2.2.2.2.2.2.2.2.2.2.2.1, .int .i64 p1.2.2.2.2.2.2.2.2.2.2.2.2.1, .bool p1.2.2.2.2.2.2.2.2.2.2.2.2.2.1, .string p1.2.2.2.2.2.2.2.2.2.2.2.2.2.2.1, .string p1.2.2.2.2.2.2.2.2.2.2.2.2.2.2.2.1, .int .i64 p1.2.2.2.2.2.2.2.2.2.2.2.2.2.2.2.2.1, .bool p1.2.2.2.2.2.2.2.2.2.2.2.2.2.2.2.2.2.1, .slice p1.2.2.2.2.2.2.2.2.2.2.2.2.2.2.2.2.2.2.1.a p1.2.2.2.2.2.2.2.2.2.2.2.2.2.2.2.2.2.2.1.len p1.2.2.2.2.2.2.2.2.2.2.2.2.2.2.2.2.2.2.1.cap, .bool p1.2.2.2.2.2.2.2.2.2.2.2.2.2.2.2.2.2.2.2.1, .bool p1.2.2.2.2.2.2.2.2.2.2.2.2.2.2.2.2.2.2.2.2.1, .string p1.2.2.2.2.2.2.2.2.2.2.2.2.2.2.2.2.2.2.2.2.2.1, .string p1.2.2.2.2.2.2.2.2.2.2.2.2.2.2.2.2.2.2.2.2.2.2.1, .bool p1.2.2.2.2.2.2.2.2.2.2.2.2.2.2.2.2.2.2.2.2.2.2.2.1, .slice p1.2.2.2.2.2.2.2.2.2.2.2.2.2.2.2.2.2.2.2.2.2.2.2.2.1.a p1.2.2.2.2.2.2.2.2.2.2.2.2.2.2.2.2.2.2.2.2.2.2.2.2.1.len p1.2.2.2.2.2.2.2.2.2.2.2.2.2.2.2.2.2.2.2.2.2.2.2.2.1.cap, .slice p1.2.2.2.2.2.2.2.2.2.2.2.2.2.2.2.2.2.2.2.2.2.2.2.2.2.1.a p1.2.2.2.2.2.2.2.2.2.2.2.2.2.2.2.2.2.2.2.2.2.2.2.2.2.1.len p1.2.2.2.2.2.2.2.2.2.2.2.2.2.2.2.2.2.2.2.2.2.2.2.2.2.1.cap]] h Q :=
  calls_of_eq Tryz.func123 (by kernel_rfl) Tryz.ntmps123 (by kernel_rfl) (CC Tryz.call161 (CC Tryz.call124 (CC Tryz.call122 (CC Tryz.call164 CN)))) orders (packet_writer_publish_den p0 p1) hh

/-- (*aqueduct/packet.writer).id -/
def packet_writer_id (p0 : Option Addr) (p1 : Int) : HM (Unit) :=
  HM.bind (α := Bool × Unit) (HM.ite (decide (p1 < (1 : Int))) (
  HM.pure (true, ())) (
  HM.pure (decide (65535 < (p1 : Int)), ()))) fun x1 =>
  HM.ite x1.1 (
  HM.bind (α := Unit) (HM.callN Tryz.prog [] 84 #[.pointer p0, .int .u8 130]) fun x2 =>
  HM.pure ()) (
  HM.bind (α := Unit) (HM.callN Tryz.prog [] 162 #[.pointer p0, .int .i64 p1]) fun x3 =>
  HM.pure ())

theorem packet_writer_id_den (p0 : Option Addr) (p1 : Int) : denFn Tryz.prog [84, 162] 15 [0, 1, 9] [0, 1, 9] Tryz.f124.results.toList [] (bodyOf Tryz.f124) [Kind.val (.one .ptr) p0, Kind.val (.one (.int .i64)) p1] = packet_writer_id p0 p1 := by kernel_rfl
theorem packet_writer_id_calls (p0 : Option Addr) (p1 : Int) (h : Heap) (Q : Value → Heap → Prop) (hh : packet_writer_id p0 p1 h fun x h' => Q (.tuple #[]) h') :
    HCalls Tryz.prog 124 #[.pointer p0, .int .i64 p1] h Q :=
  calls_of_eq Tryz.func124 (by kernel_rfl) Tryz.ntmps124 (by kernel_rfl) (CC Tryz.call84 (CC Tryz.call162 CN)) orders (packet_writer_id_den p0 p1) hh

/-- (*aqueduct/packet.writer).end -/
def packet_writer_end (p0 : Option Addr) (p1 : Int × Bool × Bool × Int × Int × ByteArray × ByteArray × Int × Slc × Slc × ByteArray × Bool × Int × Bool × ByteArray × ByteArray × Int × Bool × Slc × Bool × Bool × ByteArray × ByteArray × Bool × Slc × Slc × Unit) : HM (Unit) :=
  HM.bind (α := Nat) (HM.new (.cells #[.int .i64 p1.1, .bool p1.2.1, .bool p1.2.2.1, .int .i64 p1.2.2.2.1, .int .i64 p1.2.2.2.2.1, .string p1.2.2.2.2.2.1, .string p1.2.2.2.2.2.2.1, .int .u8 p1.2.2.2.2.2.2.2.1, .slice p1.2.2.2.2.2.2.2.2.1.a p1.2.2.2.2.2.2.2.2.1.len p1.2.2.2.2.2.2.2.2.1.cap, .slice p1.2.2.2.2.2.2.2.2.2.1.a p1.2.2.2.2.2.2.2.2.2.1.len p1.2.2.2.2.2.2.2.2.2.1.cap, .string p1.2.2.2.2.2.2.2.2.2.2.1, .bool p1.2.2.2.2.2.2.2.2.2.2.2.1, .int .i64 p1.2.2.2.2.2.2.2.2.2.2.2.2.1, .bool p1.2.2.2.2.2.2.2.2.2.2.2.2.2.1, .string p1.2.2.2.2.2.2.2.2.2.2.2.2.2.2.1, .string p1.2.2.2.2.2.2.2.2.2.2.2.2.2.2.2.1, .int .i64 p1.2.2.2.2.2.2.2.2.2.2.2.2.2.2.2.2.1, .bool p1.2.2.2.2.2.2.2.2.2.2.2.2.2.2.2.2.2.1, .slice p1.2.2.2.2.2.2.2.2.2.2.2.2.2.2.2.2.2.2.1.a p1.2.2.2.2.2.2.2.2.2.2.2.2.2.2.2.2.2.2.1.len p1.2.2.2.2.2.2.2.2.2.2.2.2.2.2.2.2.2.2.1.cap, .bool p1.2.2.2.2.2.2.2.2.2.2.2.2.2.2.2.2.2.2.2.1, .bool p1.2.2.2.2.2.2.2.2.2.2.2.2.2.2.2.2.2.2.2.2.1, .string p1.2.2.2.2.2.2.2.2.2.2.2.2.2.2.2.2.2.2.2.2.2.1, .string p1.2.2.2.2.2.2.2.2.2.2.2.2.2.2.2.2.2.2.2.2.2.2.1, .bool p1.2.2.2.2.2.2.2.2.2.2.2.2.2.2.2.2.2.2.2.2.2.2.2.1, .slice p1.2.2.2.2.2.2.2.2.2.2.2.2.2.2.2.2.2.2.2.2.2.2.2.2.1.a p1.2.2.2.2.2.2.2.2.2.2.2.2.2.2.2.2.2.2.2.2.2.2.2.2.1.len p1.2.2.2.2.2.2.2.2.2.2.2.2.2.2.2.2.2.2.2.2.2.2.2.2.1.cap, .slice p1.2.2.2.2.2.2.2.2.2.2.2.2.2.2.2.2.2.2.2.2.2.2.2.2.2.1.a p1.2.2.2.2.2.2.2.2.2.2.2.2.2.2.2.2.2.2.2.2.2.2.2.2.2.1.len p1.2.2.2.2.2.2.2.2.2.2.2.2.2.2.2.2.2.2.2.2.2.2.2.2.2.1.cap] 34)) fun x1 =>
  HM.bind (α := Bool × Unit) (HM.bind (α := Int) (HM.load1 (.int .u8) (Addr.add ⟨x1, 0, none⟩ 7)) fun x2 =>
  HM.ite (!(x2 == 0)) (
  HM.pure (true, ())) (
  HM.bind (α := Slc) (HM.load1 .slc (Addr.add ⟨x1, 0, none⟩ 9)) fun x3 =>
  HM.pure (decide (0 < (((x3.len : Nat) : Int) : Int)), ()))) fun x4 =>
  HM.bind (α := Unit) (HM.ite x4.1 (
  HM.bind (α := Int) (HM.load1 (.int .u8) (Addr.add ⟨x1, 0, none⟩ 7)) fun x6 =>
  HM.bind (α := Unit) (HM.callN Tryz.prog [] 121 #[.pointer p0, .int .i64 (IntKind.wrap .i64 x6)]) fun x7 =>
  HM.pure ()) (
  HM.pure ())) fun x5 =>
  HM.bind (α := Slc) (HM.load1 .slc (Addr.add ⟨x1, 0, none⟩ 9)) fun x8 =>
  HM.bind (α := Unit) (HM.ite (decide (0 < (((x8.len : Nat) : Int) : Int))) (
  HM.bind (α := Int) (HM.load1 (.int .i64) (Addr.add ⟨x1, 0, none⟩ 0)) fun x10 =>
  HM.bind (α := Slc) (HM.load1 .slc (Addr.add ⟨x1, 0, none⟩ 9)) fun x11 =>
  HM.bind (α := Unit) (HM.callN Tryz.prog [] 122 #[.pointer p0, .int .i64 x10, .slice x11.a x11.len x11.cap]) fun x12 =>
  HM.pure ()) (
  HM.pure ())) fun x9 =>
  HM.pure ()

theorem packet_writer_end_den (p0 : Option Addr) (p1 : Int × Bool × Bool × Int × Int × ByteArray × ByteArray × Int × Slc × Slc × ByteArray × Bool × Int × Bool × ByteArray × ByteArray × Int × Bool × Slc × Bool × Bool × ByteArray × ByteArray × Bool × Slc × Slc × Unit) : denFn Tryz.prog [121, 122] 28 [0, 1, 3, 12, 21] [0, 1, 3, 12, 21] Tryz.f125.results.toList [] (bodyOf Tryz.f125) [Kind.val (.one .ptr) p0, Kind.val (.agg [.int .i64, .bool, .bool, .int .i64, .int .i64, .str, .str, .int .u8, .slc, .slc, .str, .bool, .int .i64, .bool, .str, .str, .int .i64, .bool, .slc, .bool, .bool, .str, .str, .bool, .slc, .slc]) p1] = packet_writer_end p0 p1 := by kernel_rfl
theorem packet_writer_end_calls (p0 : Option Addr) (p1 : Int × Bool × Bool × Int × Int × ByteArray × ByteArray × Int × Slc × Slc × ByteArray × Bool × Int × Bool × ByteArray × ByteArray × Int × Bool × Slc × Bool × Bool × ByteArray × ByteArray × Bool × Slc × Slc × Unit) (h : Heap) (Q : Value → Heap → Prop) (hh : packet_writer_end p0 p1 h fun x h' => Q (.tuple #[]) h') :
    HCalls Tryz.prog 125 #[.pointer p0, .agg #[.int .i64 p1.1, .bool p1.2.1, .bool p1.2.2.1, .int .i64 p1.2.2.2.1, .int .i64 p1.2.2.2.2.1, .string p1.2.2.2.2.2.1, .string p1.2.2.2.2.2.2.1, .int .u8 p1.2.2.2.2.2.2.2.1, .slice p1.2.2.2.2.2.2.2.2.1.a p1.2.2.2.2.2.2.2.2.1.len p1.2.2.2.2.2.2.2.2.1.cap, .slice p1.2.2.2.2.2.2.2.2.2.1.a p1.2.2.2.2.2.2.2.2.2.1.len p1.2.2.2.2.2.2.2.2.2.1.cap, .string p1.2.2.2.2.2.2.2.2.2.2.1, .bool p1.2.2.2.2.2.2.2.2.2.2.2.1, .int .i64 p1.2.2.2.2.2.2.2.2.2.2.2.2.1, .bool p1.2.2.2.2.2.2.2.2.2.2.2.2.2.1, .string p1.2.2.2.2.2.2.2.2.2.2.2.2.2.2.1, .string p1.2.2.2.2.2.2.2.2.2.2.2.2.2.2.2.1, .int .i64 p1.2.2.2.2.2.2.2.2.2.2.2.2.2.2.2.2.1, .bool p1.2.2.2.2.2.2.2.2.2.2.2.2.2.2.2.2.2.1, .slice p1.2.2.2.2.2.2.2.2.2.2.2.2.2.2.2.2.2.2.1.a p1.2.2.2.2.2.2.2.2.2.2.2.2.2.2.2.2.2.2.1.len p1.2.2.2.2.2.2.2.2.2.2.2.2.2.2.2.2.2.2.1.cap, .bool p1.2.2.2.2.2.2.2.2.2.2.2.2.2.2.2.2.2.2.2.1, .bool p1.2.2.2.2.2.2.2.2.2.2.2.2.2.2.2.2.2.2.2.2.1, .string p1.2.2.2.2.2.2.2.2.2.2.2.2.2.2.2.2.2.2.2.2.2.1, .string p1.2.2.2.2.2.2.2.2.2.2.2.2.2.2.2.2.2.2.2.2.2.2.1, .bool p1.2.2.2.2.2.2.2.2.2.2.2.2.2.2.2.2.2.2.2.2.2.2.2.1, .slice p1.2.2.2.2.2.2.2.2.2.2.2.2.2.2.2.2.2.2.2.2.2.2.2.2.1.a p1.2.2.2.2.2.2.2.2.2.2.2.2.2.2.2.2.2.2.2.2.2.2.2.2.1.len p1.2.2.2.2.2.2.2.2.2.2.2.2.2.2.2.2.2.2.2.2.2.2.2.2.1.cap, .slice p1.2.2.2.2.2.2.2.2.2.2.2.2.2.2.2.2.2.2.2.2.2.2.2.2.2.1.a p1.2.2.2.2.2.2.2.2.2.2.2.2.2.2.2.2.2.2.2.2.2.2.2.2.2.1.len p1.2.2.2.2.2.2.2.2.2.2.2.2.2.2.2.2.2.2.2.2.2.2.2.2.2.1.cap]] h Q :=
  calls_of_eq Tryz.func125 (by kernel_rfl) Tryz.ntmps125 (by kernel_rfl) (CC Tryz.call121 (CC Tryz.call122 CN)) orders (packet_writer_end_den p0 p1) hh

/-- (*aqueduct/packet.writer).lists -/
def packet_writer_lists (p0 : Option Addr) (p1 : Int × Bool × Bool × Int × Int × ByteArray × ByteArray × Int × Slc × Slc × ByteArray × Bool × Int × Bool × ByteArray × ByteArray × Int × Bool × Slc × Bool × Bool × ByteArray × ByteArray × Bool × Slc × Slc × Unit) : HM (Unit) :=
  HM.bind (α := Nat) (HM.new (.cells #[.int .i64 p1.1, .bool p1.2.1, .bool p1.2.2.1, .int .i64 p1.2.2.2.1, .int .i64 p1.2.2.2.2.1, .string p1.2.2.2.2.2.1, .string p1.2.2.2.2.2.2.1, .int .u8 p1.2.2.2.2.2.2.2.1, .slice p1.2.2.2.2.2.2.2.2.1.a p1.2.2.2.2.2.2.2.2.1.len p1.2.2.2.2.2.2.2.2.1.cap, .slice p1.2.2.2.2.2.2.2.2.2.1.a p1.2.2.2.2.2.2.2.2.2.1.len p1.2.2.2.2.2.2.2.2.2.1.cap, .string p1.2.2.2.2.2.2.2.2.2.2.1, .bool p1.2.2.2.2.2.2.2.2.2.2.2.1, .int .i64 p1.2.2.2.2.2.2.2.2.2.2.2.2.1, .bool p1.2.2.2.2.2.2.2.2.2.2.2.2.2.1, .string p1.2.2.2.2.2.2.2.2.2.2.2.2.2.2.1, .string p1.2.2.2.2.2.2.2.2.2.2.2.2.2.2.2.1, .int .i64 p1.2.2.2.2.2.2.2.2.2.2.2.2.2.2.2.2.1, .bool p1.2.2.2.2.2.2.2.2.2.2.2.2.2.2.2.2.2.1, .slice p1.2.2.2.2.2.2.2.2.2.2.2.2.2.2.2.2.2.2.1.a p1.2.2.2.2.2.2.2.2.2.2.2.2.2.2.2.2.2.2.1.len p1.2.2.2.2.2.2.2.2.2.2.2.2.2.2.2.2.2.2.1.cap, .bool p1.2.2.2.2.2.2.2.2.2.2.2.2.2.2.2.2.2.2.2.1, .bool p1.2.2.2.2.2.2.2.2.2.2.2.2.2.2.2.2.2.2.2.2.1, .string p1.2.2.2.2.2.2.2.2.2.2.2.2.2.2.2.2.2.2.2.2.2.1, .string p1.2.2.2.2.2.2.2.2.2.2.2.2.2.2.2.2.2.2.2.2.2.2.1, .bool p1.2.2.2.2.2.2.2.2.2.2.2.2.2.2.2.2.2.2.2.2.2.2.2.1, .slice p1.2.2.2.2.2.2.2.2.2.2.2.2.2.2.2.2.2.2.2.2.2.2.2.2.1.a p1.2.2.2.2.2.2.2.2.2.2.2.2.2.2.2.2.2.2.2.2.2.2.2.2.1.len p1.2.2.2.2.2.2.2.2.2.2.2.2.2.2.2.2.2.2.2.2.2.2.2.2.1.cap, .slice p1.2.2.2.2.2.2.2.2.2.2.2.2.2.2.2.2.2.2.2.2.2.2.2.2.2.1.a p1.2.2.2.2.2.2.2.2.2.2.2.2.2.2.2.2.2.2.2.2.2.2.2.2.2.1.len p1.2.2.2.2.2.2.2.2.2.2.2.2.2.2.2.2.2.2.2.2.2.2.2.2.2.1.cap] 34)) fun x1 =>
  HM.bind (α := Int) (HM.load1 (.int .i64) (Addr.add ⟨x1, 0, none⟩ 4)) fun x2 =>
  HM.bind (α := Unit) (HM.callN Tryz.prog [] 124 #[.pointer p0, .int .i64 x2]) fun x3 =>
  HM.bind (α := Int) (HM.load1 (.int .i64) (Addr.add ⟨x1, 0, none⟩ 0)) fun x4 =>
  HM.bind (α := Slc) (HM.load1 .slc (Addr.add ⟨x1, 0, none⟩ 9)) fun x5 =>
  HM.bind (α := Unit) (HM.callN Tryz.prog [] 122 #[.pointer p0, .int .i64 x4, .slice x5.a x5.len x5.cap]) fun x6 =>
  HM.bind (α := Int) (HM.load1 (.int .i64) (Addr.add ⟨x1, 0, none⟩ 0)) fun x7 =>
  HM.bind (α := Unit) (HM.ite (x7 == 8) (
  HM.bind (α := Slc) (HM.load1 .slc (Addr.add ⟨x1, 0, none⟩ 24)) fun x9 =>
  HM.bind (α := Unit) (HM.callN Tryz.prog [] 169 #[.pointer p0, .slice x9.a x9.len x9.cap]) fun x10 =>
  HM.pure ()) (
  HM.bind (α := Unit) (HM.ite (x7 == 10) (
  HM.bind (α := Slc) (HM.load1 .slc (Addr.add ⟨x1, 0, none⟩ 25)) fun x12 =>
  HM.bind (α := Unit) (HM.callN Tryz.prog [] 170 #[.pointer p0, .int .i64 ((x12.len : Nat) : Int)]) fun x13 =>
  HM.bind (α := Slc) (HM.load1 .slc (Addr.add ⟨x1, 0, none⟩ 25)) fun x14 =>
  HM.bind (α := Slc) (HM.load1 .slc (Addr.add ⟨x1, 0, none⟩ 25)) fun x15 =>
  HM.bind (α := Slc) (HM.slice x14 none (some (if 64 < (((x15.len : Nat) : Int) : Int) then 64 else ((x15.len : Nat) : Int))) none 1) fun x16 =>
  HM.bind (α := Int × Unit) (HM.loop (σ := Int × Unit) (τ := Int × Unit) (fun x18 =>
  HM.ite (decide (x18.1 < (((x16.len : Nat) : Int) : Int))) (
  HM.bind (α := Addr) (HM.idx x16.a x16.len x18.1 1) fun x19 =>
  HM.bind (α := ByteArray) (HM.load1 .str x19) fun x20 =>
  HM.bind (α := Unit) (HM.callN Tryz.prog [] 161 #[.pointer p0, .string x20]) fun x21 =>
  HM.pure (.inl (IntKind.wrap .i64 (x18.1 + 1), ()))) (
  HM.pure (.inr (x18.1, ())))) (0, ())) fun x17 =>
  HM.pure ()) (
  HM.bind (α := Slc) (HM.load1 .slc (Addr.add ⟨x1, 0, none⟩ 8)) fun x22 =>
  HM.bind (α := Unit) (HM.callN Tryz.prog [] 170 #[.pointer p0, .int .i64 ((x22.len : Nat) : Int)]) fun x23 =>
  HM.bind (α := Slc) (HM.load1 .slc (Addr.add ⟨x1, 0, none⟩ 8)) fun x24 =>
  HM.bind (α := Int × Unit) (HM.loop (σ := Int × Unit) (τ := Int × Unit) (fun x26 =>
  HM.ite (decide (x26.1 < (((x24.len : Nat) : Int) : Int))) (
  HM.bind (α := Addr) (HM.idx x24.a x24.len x26.1 1) fun x27 =>
  HM.bind (α := Int) (HM.load1 (.int .u8) x27) fun x28 =>
  HM.bind (α := Unit) (HM.callN Tryz.prog [] 121 #[.pointer p0, .int .i64 (IntKind.wrap .i64 x28)]) fun x29 =>
  HM.pure (.inl (IntKind.wrap .i64 (x26.1 + 1), ()))) (
  HM.pure (.inr (x26.1, ())))) (0, ())) fun x25 =>
  HM.pure ())) fun x11 =>
  HM.pure ())) fun x8 =>
  HM.pure ()

theorem packet_writer_lists_den (p0 : Option Addr) (p1 : Int × Bool × Bool × Int × Int × ByteArray × ByteArray × Int × Slc × Slc × ByteArray × Bool × Int × Bool × ByteArray × ByteArray × Int × Bool × Slc × Bool × Bool × ByteArray × ByteArray × Bool × Slc × Slc × Unit) : denFn Tryz.prog [124, 122, 169, 170, 161, 121] 66 [0, 1, 3, 5, 7, 19, 26, 27, 28, 29, 37, 43, 56, 57, 58, 59] [0, 1, 3, 5, 7, 19, 26, 27, 28, 29, 37, 43, 56, 57, 58, 59] Tryz.f126.results.toList [] (bodyOf Tryz.f126) [Kind.val (.one .ptr) p0, Kind.val (.agg [.int .i64, .bool, .bool, .int .i64, .int .i64, .str, .str, .int .u8, .slc, .slc, .str, .bool, .int .i64, .bool, .str, .str, .int .i64, .bool, .slc, .bool, .bool, .str, .str, .bool, .slc, .slc]) p1] = packet_writer_lists p0 p1 := by kernel_rfl
theorem packet_writer_lists_calls (p0 : Option Addr) (p1 : Int × Bool × Bool × Int × Int × ByteArray × ByteArray × Int × Slc × Slc × ByteArray × Bool × Int × Bool × ByteArray × ByteArray × Int × Bool × Slc × Bool × Bool × ByteArray × ByteArray × Bool × Slc × Slc × Unit) (h : Heap) (Q : Value → Heap → Prop) (hh : packet_writer_lists p0 p1 h fun x h' => Q (.tuple #[]) h') :
    HCalls Tryz.prog 126 #[.pointer p0, .agg #[.int .i64 p1.1, .bool p1.2.1, .bool p1.2.2.1, .int .i64 p1.2.2.2.1, .int .i64 p1.2.2.2.2.1, .string p1.2.2.2.2.2.1, .string p1.2.2.2.2.2.2.1, .int .u8 p1.2.2.2.2.2.2.2.1, .slice p1.2.2.2.2.2.2.2.2.1.a p1.2.2.2.2.2.2.2.2.1.len p1.2.2.2.2.2.2.2.2.1.cap, .slice p1.2.2.2.2.2.2.2.2.2.1.a p1.2.2.2.2.2.2.2.2.2.1.len p1.2.2.2.2.2.2.2.2.2.1.cap, .string p1.2.2.2.2.2.2.2.2.2.2.1, .bool p1.2.2.2.2.2.2.2.2.2.2.2.1, .int .i64 p1.2.2.2.2.2.2.2.2.2.2.2.2.1, .bool p1.2.2.2.2.2.2.2.2.2.2.2.2.2.1, .string p1.2.2.2.2.2.2.2.2.2.2.2.2.2.2.1, .string p1.2.2.2.2.2.2.2.2.2.2.2.2.2.2.2.1, .int .i64 p1.2.2.2.2.2.2.2.2.2.2.2.2.2.2.2.2.1, .bool p1.2.2.2.2.2.2.2.2.2.2.2.2.2.2.2.2.2.1, .slice p1.2.2.2.2.2.2.2.2.2.2.2.2.2.2.2.2.2.2.1.a p1.2.2.2.2.2.2.2.2.2.2.2.2.2.2.2.2.2.2.1.len p1.2.2.2.2.2.2.2.2.2.2.2.2.2.2.2.2.2.2.1.cap, .bool p1.2.2.2.2.2.2.2.2.2.2.2.2.2.2.2.2.2.2.2.1, .bool p1.2.2.2.2.2.2.2.2.2.2.2.2.2.2.2.2.2.2.2.2.1, .string p1.2.2.2.2.2.2.2.2.2.2.2.2.2.2.2.2.2.2.2.2.2.1, .string p1.2.2.2.2.2.2.2.2.2.2.2.2.2.2.2.2.2.2.2.2.2.2.1, .bool p1.2.2.2.2.2.2.2.2.2.2.2.2.2.2.2.2.2.2.2.2.2.2.2.1, .slice p1.2.2.2.2.2.2.2.2.2.2.2.2.2.2.2.2.2.2.2.2.2.2.2.2.1.a p1.2.2.2.2.2.2.2.2.2.2.2.2.2.2.2.2.2.2.2.2.2.2.2.2.1.len p1.2.2.2.2.2.2.2.2.2.2.2.2.2.2.2.2.2.2.2.2.2.2.2.2.1.cap, .slice p1.2.2.2.2.2.2.2.2.2.2.2.2.2.2.2.2.2.2.2.2.2.2.2.2.2.1.a p1.2.2.2.2.2.2.2.2.2.2.2.2.2.2.2.2.2.2.2.2.2.2.2.2.2.1.len p1.2.2.2.2.2.2.2.2.2.2.2.2.2.2.2.2.2.2.2.2.2.2.2.2.2.1.cap]] h Q :=
  calls_of_eq Tryz.func126 (by kernel_rfl) Tryz.ntmps126 (by kernel_rfl) (CC Tryz.call124 (CC Tryz.call122 (CC Tryz.call169 (CC Tryz.call170 (CC Tryz.call161 (CC Tryz.call121 CN)))))) orders (packet_writer_lists_den p0 p1) hh

/-- aqueduct/varint.wide -/
def varint_wide (p0 : Int) : HM (Bool × Unit) :=
  HM.bind (α := Bool × Unit) (HM.ite (p0 == 1) (
  HM.pure (true, ())) (
  HM.ite (p0 == 2) (
  HM.pure (true, ())) (
  HM.pure (p0 == 4, ())))) fun x1 =>
  HM.pure (x1.1, ())

theorem varint_wide_den (p0 : Int) : denFn Tryz.prog [] 13 [0, 2] [0] Tryz.f127.results.toList [.one .bool] (bodyOf Tryz.f127) [Kind.val (.one (.int .i64)) p0] = varint_wide p0 := by kernel_rfl
theorem varint_wide_calls (p0 : Int) (h : Heap) (Q : Value → Heap → Prop) (hh : varint_wide p0 h fun x h' => Q (.bool x.1) h') :
    HCalls Tryz.prog 127 #[.int .i64 p0] h Q :=
  calls_of_eq Tryz.func127 (by kernel_rfl) Tryz.ntmps127 (by kernel_rfl) CN orders (varint_wide_den p0) hh

/-- aqueduct/varint.Size -/
def varint_Size (p0 : Int) : HM (Int × Unit) :=
  HM.bind (α := Int × Unit) (HM.bind (α := (Int × Unit) ⊕ (Int × Unit)) (HM.bind (α := (Int × Unit) ⊕ ((Int × Unit) ⊕ (Int × Unit))) (HM.bind (α := (Int × Unit) ⊕ ((Int × Unit) ⊕ ((Int × Unit) ⊕ (Int × Unit)))) (HM.bind (α := (Unit) ⊕ ((Int × Unit) ⊕ ((Int × Unit) ⊕ ((Int × Unit) ⊕ (Int × Unit))))) (HM.bind (α := (Unit) ⊕ ((Unit) ⊕ ((Int × Unit) ⊕ ((Int × Unit) ⊕ ((Int × Unit) ⊕ (Int × Unit)))))) (HM.bind (α := Bool × Unit) (HM.ite (decide (p0 < (0 : Int))) (
  HM.pure (true, ())) (
  HM.pure (decide (268435455 < (p0 : Int)), ()))) fun x7 =>
  HM.ite x7.1 (
  HM.pure (.inl ())) (
  HM.ite (decide (2097152 ≤ (p0 : Int))) (
  HM.pure (.inr (.inl ()))) (
  HM.ite (decide (16384 ≤ (p0 : Int))) (
  HM.pure (.inr (.inr (.inl (0, ()))))) (
  HM.ite (decide (128 ≤ (p0 : Int))) (
  HM.pure (.inr (.inr (.inr (.inl (0, ())))))) (
  HM.pure (.inr (.inr (.inr (.inr (.inl (0, ()))))))))))) (Sum.elim (fun x6 =>
  HM.pure (.inr (.inr (.inr (.inr (0, ())))))) HM.pure)) (Sum.elim (fun x5 =>
  HM.pure (.inl (IntKind.wrap .i64 (0 + 1), ()))) HM.pure)) (Sum.elim (fun x4 =>
  HM.pure (.inl (IntKind.wrap .i64 (x4.1 + 1), ()))) HM.pure)) (Sum.elim (fun x3 =>
  HM.pure (.inl (IntKind.wrap .i64 (x3.1 + 1), ()))) HM.pure)) (Sum.elim (fun x2 =>
  HM.pure (IntKind.wrap .i64 (x2.1 + 1), ())) HM.pure)) fun x1 =>
  HM.pure (x1.1, ())

theorem varint_Size_den (p0 : Int) : denFn Tryz.prog [] 29 [0, 2, 3, 4, 11, 14, 17] [0, 3, 4, 11, 14, 17] Tryz.f128.results.toList [.one (.int .i64)] (bodyOf Tryz.f128) [Kind.val (.one (.int .i64)) p0] = varint_Size p0 := by kernel_rfl
theorem varint_Size_calls (p0 : Int) (h : Heap) (Q : Value → Heap → Prop) (hh : varint_Size p0 h fun x h' => Q (.int .i64 x.1) h') :
    HCalls Tryz.prog 128 #[.int .i64 p0] h Q :=
  calls_of_eq Tryz.func128 (by kernel_rfl) Tryz.ntmps128 (by kernel_rfl) CN orders (varint_Size_den p0) hh

/-- aqueduct/aqueductref05.connect -/
def ref05_connect (p0 : ByteArray × Int × Unit) (p1 : Int × Bool × Bool × Int × Int × ByteArray × ByteArray × Int × Slc × Slc × ByteArray × Bool × Int × Bool × ByteArray × ByteArray × Int × Bool × Slc × Bool × Bool × ByteArray × ByteArray × Bool × Slc × Slc × Unit) : HM ((ByteArray × Int × Unit) × Unit) :=
  HM.bind (α := Nat) (HM.new (.cells #[.string p0.1, .int .i64 p0.2.1] 209)) fun x1 =>
  HM.bind (α := Nat) (HM.new (.cells #[.int .i64 p1.1, .bool p1.2.1, .bool p1.2.2.1, .int .i64 p1.2.2.2.1, .int .i64 p1.2.2.2.2.1, .string p1.2.2.2.2.2.1, .string p1.2.2.2.2.2.2.1, .int .i64 p1.2.2.2.2.2.2.2.1, .slice p1.2.2.2.2.2.2.2.2.1.a p1.2.2.2.2.2.2.2.2.1.len p1.2.2.2.2.2.2.2.2.1.cap, .slice p1.2.2.2.2.2.2.2.2.2.1.a p1.2.2.2.2.2.2.2.2.2.1.len p1.2.2.2.2.2.2.2.2.2.1.cap, .string p1.2.2.2.2.2.2.2.2.2.2.1, .bool p1.2.2.2.2.2.2.2.2.2.2.2.1, .int .i64 p1.2.2.2.2.2.2.2.2.2.2.2.2.1, .bool p1.2.2.2.2.2.2.2.2.2.2.2.2.2.1, .string p1.2.2.2.2.2.2.2.2.2.2.2.2.2.2.1, .string p1.2.2.2.2.2.2.2.2.2.2.2.2.2.2.2.1, .int .i64 p1.2.2.2.2.2.2.2.2.2.2.2.2.2.2.2.2.1, .bool p1.2.2.2.2.2.2.2.2.2.2.2.2.2.2.2.2.2.1, .slice p1.2.2.2.2.2.2.2.2.2.2.2.2.2.2.2.2.2.2.1.a p1.2.2.2.2.2.2.2.2.2.2.2.2.2.2.2.2.2.2.1.len p1.2.2.2.2.2.2.2.2.2.2.2.2.2.2.2.2.2.2.1.cap, .bool p1.2.2.2.2.2.2.2.2.2.2.2.2.2.2.2.2.2.2.2.1, .bool p1.2.2.2.2.2.2.2.2.2.2.2.2.2.2.2.2.2.2.2.2.1, .string p1.2.2.2.2.2.2.2.2.2.2.2.2.2.2.2.2.2.2.2.2.2.1, .string p1.2.2.2.2.2.2.2.2.2.2.2.2.2.2.2.2.2.2.2.2.2.2.1, .bool p1.2.2.2.2.2.2.2.2.2.2.2.2.2.2.2.2.2.2.2.2.2.2.2.1, .slice p1.2.2.2.2.2.2.2.2.2.2.2.2.2.2.2.2.2.2.2.2.2.2.2.2.1.a p1.2.2.2.2.2.2.2.2.2.2.2.2.2.2.2.2.2.2.2.2.2.2.2.2.1.len p1.2.2.2.2.2.2.2.2.2.2.2.2.2.2.2.2.2.2.2.2.2.2.2.2.1.cap, .slice p1.2.2.2.2.2.2.2.2.2.2.2.2.2.2.2.2.2.2.2.2.2.2.2.2.2.1.a p1.2.2.2.2.2.2.2.2.2.2.2.2.2.2.2.2.2.2.2.2.2.2.2.2.2.1.len p1.2.2.2.2.2.2.2.2.2.2.2.2.2.2.2.2.2.2.2.2.2.2.2.2.2.1.cap] 41)) fun x2 =>
  HM.bind (α := Nat) (HM.new (.cells #[.string (ByteArray.mk #[]), .int .i64 0] 209)) fun x3 =>
  HM.bind (α := ByteArray × Int × Unit) (HM.loadN [.str, .int .i64] ⟨x1, 0, none⟩) fun x4 =>
  HM.bind (α := ByteArray × Int × Unit) (HM.call1 Tryz.prog (.agg [.str, .int .i64]) 135 #[.agg #[.string x4.1, .int .i64 x4.2.1], .string (ByteArray.mk #[77, 81, 84, 84])]) fun x5 =>
  HM.bind (α := Unit) (HM.storeN ⟨x1, 0, none⟩ [.string x5.1, .int .i64 x5.2.1]) fun _ =>
  HM.bind (α := ByteArray × Int × Unit) (HM.loadN [.str, .int .i64] ⟨x1, 0, none⟩) fun x6 =>
  HM.bind (α := ByteArray × Int × Unit) (HM.call1 Tryz.prog (.agg [.str, .int .i64]) 131 #[.agg #[.string x6.1, .int .i64 x6.2.1], .int .i64 1, .int .i64 5]) fun x7 =>
  HM.bind (α := Unit) (HM.storeN ⟨x1, 0, none⟩ [.string x7.1, .int .i64 x7.2.1]) fun _ =>
  HM.bind (α := Bool) (HM.load1 .bool (Addr.add ⟨x2, 0, none⟩ 11)) fun x8 =>
  HM.bind (α := Int) (HM.call1 Tryz.prog (.one (.int .i64)) 130 #[.bool x8, .int .i64 2]) fun x9 =>
  HM.bind (α := Bool) (HM.load1 .bool (Addr.add ⟨x2, 0, none⟩ 20)) fun x10 =>
  HM.bind (α := Int) (HM.call1 Tryz.prog (.one (.int .i64)) 130 #[.bool x10, .int .i64 64]) fun x11 =>
  HM.bind (α := Bool) (HM.load1 .bool (Addr.add ⟨x2, 0, none⟩ 19)) fun x12 =>
  HM.bind (α := Int) (HM.call1 Tryz.prog (.one (.int .i64)) 130 #[.bool x12, .int .i64 128]) fun x13 =>
  HM.bind (α := Bool) (HM.load1 .bool (Addr.add ⟨x2, 0, none⟩ 13)) fun x14 =>
  HM.bind (α := Int × Unit) (HM.ite x14 (
  HM.bind (α := ByteArray × Int × Unit) (HM.loadN [.str, .int .i64] ⟨x1, 0, none⟩) fun x16 =>
  HM.bind (α := Int) (HM.load1 (.int .i64) (Addr.add (Addr.add ⟨x2, 0, none⟩ 14) 2)) fun x17 =>
  HM.bind (α := ByteArray × Int × Unit) (HM.call1 Tryz.prog (.agg [.str, .int .i64]) 133 #[.agg #[.string x16.1, .int .i64 x16.2.1], .int .i64 x17]) fun x18 =>
  HM.bind (α := Unit) (HM.storeN ⟨x1, 0, none⟩ [.string x18.1, .int .i64 x18.2.1]) fun _ =>
  HM.bind (α := Int) (HM.load1 (.int .i64) (Addr.add (Addr.add ⟨x2, 0, none⟩ 14) 2)) fun x19 =>
  HM.bind (α := Int) (HM.call1 Tryz.prog (.one (.int .i64)) 171 #[.int .i64 x19]) fun x20 =>
  HM.bind (α := Bool) (HM.load1 .bool (Addr.add (Addr.add ⟨x2, 0, none⟩ 14) 3)) fun x21 =>
  HM.bind (α := Int) (HM.call1 Tryz.prog (.one (.int .i64)) 130 #[.bool x21, .int .i64 32]) fun x22 =>
  HM.pure (IntKind.wrap .i64 ((IntKind.wrap .i64 ((IntKind.wrap .i64 ((IntKind.wrap .i64 ((IntKind.wrap .i64 (x9 + x11)) + x13)) + 4)) + (IntKind.wrap .i64 (8 * x20)))) + x22), ())) (
  HM.pure (IntKind.wrap .i64 ((IntKind.wrap .i64 (x9 + x11)) + x13), ()))) fun x15 =>
  HM.bind (α := ByteArray × Int × Unit) (HM.loadN [.str, .int .i64] ⟨x1, 0, none⟩) fun x23 =>
  HM.bind (α := ByteArray × Int × Unit) (HM.call1 Tryz.prog (.agg [.str, .int .i64]) 131 #[.agg #[.string x23.1, .int .i64 x23.2.1], .int .i64 1, .int .i64 x15.1]) fun x24 =>
  HM.bind (α := Unit) (HM.storeN ⟨x1, 0, none⟩ [.string x24.1, .int .i64 x24.2.1]) fun _ =>
  HM.bind (α := ByteArray × Int × Unit) (HM.loadN [.str, .int .i64] ⟨x1, 0, none⟩) fun x25 =>
  HM.bind (α := Int) (HM.load1 (.int .i64) (Addr.add ⟨x2, 0, none⟩ 12)) fun x26 =>
  HM.bind (α := ByteArray × Int × Unit) (HM.call1 Tryz.prog (.agg [.str, .int .i64]) 131 #[.agg #[.string x25.1, .int .i64 x25.2.1], .int .i64 2, .int .i64 x26]) fun x27 =>
  HM.bind (α := Unit) (HM.storeN ⟨x1, 0, none⟩ [.string x27.1, .int .i64 x27.2.1]) fun _ =>
  HM.bind (α := ByteArray × Int × Unit) (HM.loadN [.str, .int .i64] ⟨x1, 0, none⟩) fun x28 =>
  HM.bind (α := Slc) (HM.load1 .slc (Addr.add ⟨x2, 0, none⟩ 9)) fun x29 =>
  HM.bind (α := ByteArray × Int × Unit) (HM.call1 Tryz.prog (.agg [.str, .int .i64]) 132 #[.agg #[.string x28.1, .int .i64 x28.2.1], .int .i64 1, .slice x29.a x29.len x29.cap]) fun x30 =>
  HM.bind (α := Unit) (HM.storeN ⟨x1, 0, none⟩ [.string x30.1, .int .i64 x30.2.1]) fun _ =>
  HM.bind (α := ByteArray × Int × Unit) (HM.loadN [.str, .int .i64] ⟨x1, 0, none⟩) fun x31 =>
  HM.bind (α := ByteArray) (HM.load1 .str (Addr.add ⟨x2, 0, none⟩ 10)) fun x32 =>
  HM.bind (α := ByteArray × Int × Unit) (HM.call1 Tryz.prog (.agg [.str, .int .i64]) 135 #[.agg #[.string x31.1, .int .i64 x31.2.1], .string x32]) fun x33 =>
  HM.bind (α := Unit) (HM.storeN ⟨x1, 0, none⟩ [.string x33.1, .int .i64 x33.2.1]) fun _ =>
  HM.bind (α := Bool) (HM.load1 .bool (Addr.add ⟨x2, 0, none⟩ 13)) fun x34 =>
  HM.bind (α := Unit) (HM.ite x34 (
  HM.bind (α := ByteArray × Int × Unit) (HM.loadN [.str, .int .i64] ⟨x1, 0, none⟩) fun x36 =>
  HM.bind (α := Slc) (HM.load1 .slc (Addr.add (Addr.add ⟨x2, 0, none⟩ 14) 4)) fun x37 =>
  HM.bind (α := ByteArray × Int × Unit) (HM.call1 Tryz.prog (.agg [.str, .int .i64]) 132 #[.agg #[.string x36.1, .int .i64 x36.2.1], .int .i64 0, .slice x37.a x37.len x37.cap]) fun x38 =>
  HM.bind (α := Unit) (HM.storeN ⟨x1, 0, none⟩ [.string x38.1, .int .i64 x38.2.1]) fun _ =>
  HM.bind (α := ByteArray × Int × Unit) (HM.loadN [.str, .int .i64] ⟨x1, 0, none⟩) fun x39 =>
  HM.bind (α := ByteArray) (HM.load1 .str (Addr.add (Addr.add ⟨x2, 0, none⟩ 14) 0)) fun x40 =>
  HM.bind (α := ByteArray × Int × Unit) (HM.call1 Tryz.prog (.agg [.str, .int .i64]) 135 #[.agg #[.string x39.1, .int .i64 x39.2.1], .string x40]) fun x41 =>
  HM.bind (α := Unit) (HM.storeN ⟨x1, 0, none⟩ [.string x41.1, .int .i64 x41.2.1]) fun _ =>
  HM.bind (α := ByteArray × Int × Unit) (HM.loadN [.str, .int .i64] ⟨x1, 0, none⟩) fun x42 =>
  HM.bind (α := ByteArray) (HM.load1 .str (Addr.add (Addr.add ⟨x2, 0, none⟩ 14) 1)) fun x43 =>
  HM.bind (α := ByteArray × Int × Unit) (HM.call1 Tryz.prog (.agg [.str, .int .i64]) 172 #[.agg #[.string x42.1, .int .i64 x42.2.1], .string x43]) fun x44 =>
  HM.bind (α := Unit) (HM.storeN ⟨x1, 0, none⟩ [.string x44.1, .int .i64 x44.2.1]) fun _ =>
  HM.pure ()) (
  HM.pure ())) fun x35 =>
  HM.bind (α := Bool) (HM.load1 .bool (Addr.add ⟨x2, 0, none⟩ 19)) fun x45 =>
  HM.bind (α := Unit) (HM.ite x45 (
  HM.bind (α := ByteArray × Int × Unit) (HM.loadN [.str, .int .i64] ⟨x1, 0, none⟩) fun x47 =>
  HM.bind (α := ByteArray) (HM.load1 .str (Addr.add ⟨x2, 0, none⟩ 21)) fun x48 =>
  HM.bind (α := ByteArray × Int × Unit) (HM.call1 Tryz.prog (.agg [.str, .int .i64]) 135 #[.agg #[.string x47.1, .int .i64 x47.2.1], .string x48]) fun x49 =>
  HM.bind (α := Unit) (HM.storeN ⟨x1, 0, none⟩ [.string x49.1, .int .i64 x49.2.1]) fun _ =>
  HM.pure ()) (
  HM.pure ())) fun x46 =>
  HM.bind (α := Bool) (HM.load1 .bool (Addr.add ⟨x2, 0, none⟩ 20)) fun x50 =>
  HM.bind (α := Unit) (HM.ite x50 (
  HM.bind (α := ByteArray × Int × Unit) (HM.loadN [.str, .int .i64] ⟨x1, 0, none⟩) fun x52 =>
  HM.bind (α := ByteArray) (HM.load1 .str (Addr.add ⟨x2, 0, none⟩ 22)) fun x53 =>
  HM.bind (α := ByteArray × Int × Unit) (HM.call1 Tryz.prog (.agg [.str, .int .i64]) 172 #[.agg #[.string x52.1, .int .i64 x52.2.1], .string x53]) fun x54 =>
  HM.bind (α := Unit) (HM.storeN ⟨x1, 0, none⟩ [.string x54.1, .int .i64 x54.2.1]) fun _ =>
  HM.pure ()) (
  HM.pure ())) fun x51 =>
  HM.bind (α := ByteArray × Int × Unit) (HM.loadN [.str, .int .i64] ⟨x1, 0, none⟩) fun x55 =>
  HM.bind (α := Unit) (HM.storeN ⟨x3, 0, none⟩ [.string x55.1, .int .i64 x55.2.1]) fun _ =>
  HM.bind (α := ByteArray × Int × Unit) (HM.loadN [.str, .int .i64] ⟨x3, 0, none⟩) fun x56 =>
  HM.pure ((x56.1, x56.2.1, ()), ())

theorem ref05_connect_den (p0 : ByteArray × Int × Unit) (p1 : Int × Bool × Bool × Int × Int × ByteArray × ByteArray × Int × Slc × Slc × ByteArray × Bool × Int × Bool × ByteArray × ByteArray × Int × Bool × Slc × Bool × Bool × ByteArray × ByteArray × Bool × Slc × Slc × Unit) : denFn Tryz.prog [135, 131, 130, 133, 171, 132, 172] 96 [0, 1, 2, 3, 4, 5, 6, 7, 8, 9, 10, 30, 67, 84, 90] [0, 1, 2, 3, 4, 5, 6, 7, 8, 9, 10, 30, 67, 84, 90] Tryz.f129.results.toList [.agg [.str, .int .i64]] (bodyOf Tryz.f129) [Kind.val (.agg [.str, .int .i64]) p0, Kind.val (.agg [.int .i64, .bool, .bool, .int .i64, .int .i64, .str, .str, .int .i64, .slc, .slc, .str, .bool, .int .i64, .bool, .str, .str, .int .i64, .bool, .slc, .bool, .bool, .str, .str, .bool, .slc, .slc]) p1] = ref05_connect p0 p1 := by kernel_rfl
theorem ref05_connect_calls (p0 : ByteArray × Int × Unit) (p1 : Int × Bool × Bool × Int × Int × ByteArray × ByteArray × Int × Slc × Slc × ByteArray × Bool × Int × Bool × ByteArray × ByteArray × Int × Bool × Slc × Bool × Bool × ByteArray × ByteArray × Bool × Slc × Slc × Unit) (h : Heap) (Q : Value → Heap → Prop) (hh : ref05_connect p0 p1 h fun x h' => Q (.agg #[.string x.1.1, .int .i64 x.1.2.1]) h') :
    HCalls Tryz.prog 129 #[.agg #[.string p0.1, .int .i64 p0.2.1], .agg #[.int .i64 p1.1, .bool p1.2.1, .bool p1.2.2.1, .int .i64 p1.2.2.2.1, .int .i64 p1.2.2.2.2.1, .string p1.2.2.2.2.2.1, .string p1.2.2.2.2.2.2.1, .int .i64 p1.2.2.2.2.2.2.2.1, .slice p1.2.2.2.2.2.2.2.2.1.a p1.2.2.2.2.2.2.2.2.1.len p1.2.2.2.2.2.2.2.2.1.cap, .slice p1.2.2.2.2.2.2.2.2.2.1.a p1.2.2.2.2.2.2.2.2.2.1.len p1.2.2.2.2.2.2.2.2.2.1.cap, .string p1.2.2.2.2.2.2.2.2.2.2.1, .bool p1.2.2.2.2.2.2.2.2.2.2.2.1, .int .i64 p1.2.2.2.2.2.2.2.2.2.2.2.2.1, .bool p1.2.2.2.2.2.2.2.2.2.2.2.2.2.1, .string p1.2.2.2.2.2.2.2.2.2.2.2.2.2.2.1, .string p1.2.2.2.2.2.2.2.2.2.2.2.2.2.2.2.1, .int .i64 p1.2.2.2.2.2.2.2.2.2.2.2.2.2.2.2.2.1, .bool p1.2.2.2.2.2.2.2.2.2.2.2.2.2.2.2.2.2.1, .slice p1.2.2.2.2.2.2.2.2.2.2.2.2.2.2.2.2.2.2.1.a p1.2.2.2.2.2.2.2.2.2.2.2.2.2.2.2.2.2.2.1.len p1.2.2.2.2.2.2.2.2.2.2.2.2.2.2.2.2.2.2.1.cap, .bool p1.2.2.2.2.2.2.2.2.2.2.2.2.2.2.2.2.2.2.2.1, .bool p1.2.2.2.2.2.2.2.2.2.2.2.2.2.2.2.2.2.2.2.2.1, .string p1.2.2.2.2.2.2.2.2.2.2.2.2.2.2.2.2.2.2.2.2.2.1, .string p1.2.2.2.2.2.2.2.2.2.2.2.2.2.2.2.2.2.2.2.2.2.2.1, .bool p1.2.2.2.2.2.2.2.2.2.2.2.2.2.2.2.2.2.2.2.2.2.2.2.1, .slice p1.2.2.2.2.2.2.2.2.2.2.2.2.2.2.2.2.2.2.2.2.2.2.2.2.1.a p1.2.2.2.2.2.2.2.2.2.2.2.2.2.2.2.2.2.2.2.2.2.2.2.2.1.len p1.2.2.2.2.2.2.2.2.2.2.2.2.2.2.2.2.2.2.2.2.2.2.2.2.1.cap, .slice p1.2.2.2.2.2.2.2.2.2.2.2.2.2.2.2.2.2.2.2.2.2.2.2.2.2.1.a p1.2.2.2.2.2.2.2.2.2.2.2.2.2.2.2.2.2.2.2.2.2.2.2.2.2.1.len p1.2.2.2.2.2.2.2.2.2.2.2.2.2.2.2.2.2.2.2.2.2.2.2.2.2.1.cap]] h Q :=
  calls_of_eq Tryz.func129 (by kernel_rfl) Tryz.ntmps129 (by kernel_rfl) (CC Tryz.call135 (CC Tryz.call131 (CC Tryz.call130 (CC Tryz.call133 (CC Tryz.call171 (CC Tryz.call132 (CC Tryz.call172 CN))))))) orders (ref05_connect_den p0 p1) hh

/-- aqueduct/aqueductref05.bit -/
def ref05_bit (p0 : Bool) (p1 : Int) : HM (Int × Unit) :=
  HM.ite p0 (
  HM.pure (p1, ())) (
  HM.pure (0, ()))

theorem ref05_bit_den (p0 : Bool) (p1 : Int) : denFn Tryz.prog [] 7 [0, 1, 4, 5] [0, 1, 5] Tryz.f130.results.toList [.one (.int .i64)] (bodyOf Tryz.f130) [Kind.val (.one .bool) p0, Kind.val (.one (.int .i64)) p1] = ref05_bit p0 p1 := by kernel_rfl
theorem ref05_bit_calls (p0 : Bool) (p1 : Int) (h : Heap) (Q : Value → Heap → Prop) (hh : ref05_bit p0 p1 h fun x h' => Q (.int .i64 x.1) h') :
    HCalls Tryz.prog 130 #[.bool p0, .int .i64 p1] h Q :=
  calls_of_eq Tryz.func130 (by kernel_rfl) Tryz.ntmps130 (by kernel_rfl) CN orders (ref05_bit_den p0 p1) hh

/-- aqueduct/aqueductref05.number -/
def ref05_number (p0 : ByteArray × Int × Unit) (p1 : Int) (p2 : Int) : HM ((ByteArray × Int × Unit) × Unit) :=
  HM.bind (α := Nat) (HM.new (.cells #[.string p0.1, .int .i64 p0.2.1] 209)) fun x1 =>
  HM.bind (α := Nat) (HM.new (.cells #[.string (ByteArray.mk #[]), .int .i64 0] 209)) fun x2 =>
  HM.bind (α := ByteArray × Int × Unit) (HM.callN Tryz.prog [.one .str, .one (.int .i64)] 93 #[.int .i64 p1, .int .i64 p2]) fun x3 =>
  HM.bind (α := ByteArray × Int × Unit) (HM.loadN [.str, .int .i64] ⟨x1, 0, none⟩) fun x4 =>
  HM.bind (α := ByteArray × Int × Unit) (HM.call1 Tryz.prog (.agg [.str, .int .i64]) 134 #[.agg #[.string x4.1, .int .i64 x4.2.1], .string x3.1, .int .i64 x3.2.1]) fun x5 =>
  HM.bind (α := Unit) (HM.storeN ⟨x2, 0, none⟩ [.string x5.1, .int .i64 x5.2.1]) fun _ =>
  HM.bind (α := ByteArray × Int × Unit) (HM.loadN [.str, .int .i64] ⟨x2, 0, none⟩) fun x6 =>
  HM.pure ((x6.1, x6.2.1, ()), ())

theorem ref05_number_den (p0 : ByteArray × Int × Unit) (p1 : Int) (p2 : Int) : denFn Tryz.prog [93, 134] 19 [0, 1, 2, 3, 6, 7, 8] [0, 1, 2, 3, 6, 7, 8] Tryz.f131.results.toList [.agg [.str, .int .i64]] (bodyOf Tryz.f131) [Kind.val (.agg [.str, .int .i64]) p0, Kind.val (.one (.int .i64)) p1, Kind.val (.one (.int .i64)) p2] = ref05_number p0 p1 p2 := by kernel_rfl
theorem ref05_number_calls (p0 : ByteArray × Int × Unit) (p1 : Int) (p2 : Int) (h : Heap) (Q : Value → Heap → Prop) (hh : ref05_number p0 p1 p2 h fun x h' => Q (.agg #[.string x.1.1, .int .i64 x.1.2.1]) h') :
    HCalls Tryz.prog 131 #[.agg #[.string p0.1, .int .i64 p0.2.1], .int .i64 p1, .int .i64 p2] h Q :=
  calls_of_eq Tryz.func131 (by kernel_rfl) Tryz.ntmps131 (by kernel_rfl) (CC Tryz.call93 (CC Tryz.call134 CN)) orders (ref05_number_den p0 p1 p2) hh

/-- aqueduct/aqueductref05.props -/
def ref05_props (p0 : ByteArray × Int × Unit) (p1 : Int) (p2 : Slc) : HM ((ByteArray × Int × Unit) × Unit) :=
  HM.bind (α := Nat) (HM.new (.cells #[.string p0.1, .int .i64 p0.2.1] 209)) fun x1 =>
  HM.bind (α := Nat) (HM.new (.cells #[.string (ByteArray.mk #[]), .int .i64 0] 209)) fun x2 =>
  HM.bind (α := ByteArray × Int × Unit) (HM.callN Tryz.prog [.one .str, .one (.int .i64)] 173 #[.slice p2.a p2.len p2.cap]) fun x3 =>
  HM.bind (α := ByteArray × Int × Unit) (HM.loadN [.str, .int .i64] ⟨x1, 0, none⟩) fun x4 =>
  HM.bind (α := ByteArray × Int × Unit) (HM.call1 Tryz.prog (.agg [.str, .int .i64]) 134 #[.agg #[.string x4.1, .int .i64 x4.2.1], .string x3.1, .int .i64 x3.2.1]) fun x5 =>
  HM.bind (α := Unit) (HM.storeN ⟨x1, 0, none⟩ [.string x5.1, .int .i64 x5.2.1]) fun _ =>
  HM.bind (α := Bool) (HM.call1 Tryz.prog (.one .bool) 174 #[.int .i64 p1, .slice p2.a p2.len p2.cap]) fun x6 =>
  HM.bind (α := Unit) (HM.ite (!x6) (
  HM.bind (α := ByteArray × Int × Unit) (HM.loadN [.str, .int .i64] ⟨x1, 0, none⟩) fun x8 =>
  HM.bind (α := ByteArray × Int × Unit) (HM.call1 Tryz.prog (.agg [.str, .int .i64]) 134 #[.agg #[.string x8.1, .int .i64 x8.2.1], .string (ByteArray.mk #[]), .int .i64 130]) fun x9 =>
  HM.bind (α := Unit) (HM.storeN ⟨x1, 0, none⟩ [.string x9.1, .int .i64 x9.2.1]) fun _ =>
  HM.pure ()) (
  HM.pure ())) fun x7 =>
  HM.bind (α := ByteArray × Int × Unit) (HM.loadN [.str, .int .i64] ⟨x1, 0, none⟩) fun x10 =>
  HM.bind (α := Unit) (HM.storeN ⟨x2, 0, none⟩ [.string x10.1, .int .i64 x10.2.1]) fun _ =>
  HM.bind (α := ByteArray × Int × Unit) (HM.loadN [.str, .int .i64] ⟨x2, 0, none⟩) fun x11 =>
  HM.pure ((x11.1, x11.2.1, ()), ())

theorem ref05_props_den (p0 : ByteArray × Int × Unit) (p1 : Int) (p2 : Slc) : denFn Tryz.prog [173, 134, 174] 27 [0, 1, 2, 3, 6, 7, 8, 9, 23] [0, 1, 2, 3, 6, 7, 8, 9, 23] Tryz.f132.results.toList [.agg [.str, .int .i64]] (bodyOf Tryz.f132) [Kind.val (.agg [.str, .int .i64]) p0, Kind.val (.one (.int .i64)) p1, Kind.val (.one .slc) p2] = ref05_props p0 p1 p2 := by kernel_rfl
theorem ref05_props_calls (p0 : ByteArray × Int × Unit) (p1 : Int) (p2 : Slc) (h : Heap) (Q : Value → Heap → Prop) (hh : ref05_props p0 p1 p2 h fun x h' => Q (.agg #[.string x.1.1, .int .i64 x.1.2.1]) h') :
    HCalls Tryz.prog 132 #[.agg #[.string p0.1, .int .i64 p0.2.1], .int .i64 p1, .slice p2.a p2.len p2.cap] h Q :=
  calls_of_eq Tryz.func132 (by kernel_rfl) Tryz.ntmps132 (by kernel_rfl) (CC Tryz.call173 (CC Tryz.call134 (CC Tryz.call174 CN))) orders (ref05_props_den p0 p1 p2) hh

/-- aqueduct/aqueductref05.qos -/
def ref05_qos (p0 : ByteArray × Int × Unit) (p1 : Int) : HM ((ByteArray × Int × Unit) × Unit) :=
  HM.bind (α := Nat) (HM.new (.cells #[.string p0.1, .int .i64 p0.2.1] 209)) fun x1 =>
  HM.bind (α := Nat) (HM.new (.cells #[.string (ByteArray.mk #[]), .int .i64 0] 209)) fun x2 =>
  HM.bind (α := Bool × Unit) (HM.ite (decide (p1 < (0 : Int))) (
  HM.pure (true, ())) (
  HM.pure (decide (2 < (p1 : Int)), ()))) fun x3 =>
  HM.ite x3.1 (
  HM.bind (α := ByteArray × Int × Unit) (HM.loadN [.str, .int .i64] ⟨x1, 0, none⟩) fun x4 =>
  HM.bind (α := ByteArray × Int × Unit) (HM.call1 Tryz.prog (.agg [.str, .int .i64]) 134 #[.agg #[.string x4.1, .int .i64 x4.2.1], .string (ByteArray.mk #[]), .int .i64 129]) fun x5 =>
  HM.bind (α := Unit) (HM.storeN ⟨x2, 0, none⟩ [.string x5.1, .int .i64 x5.2.1]) fun _ =>
  HM.bind (α := ByteArray × Int × Unit) (HM.loadN [.str, .int .i64] ⟨x2, 0, none⟩) fun x6 =>
  HM.pure ((x6.1, x6.2.1, ()), ())) (
  HM.bind (α := ByteArray × Int × Unit) (HM.loadN [.str, .int .i64] ⟨x1, 0, none⟩) fun x7 =>
  HM.bind (α := Unit) (HM.storeN ⟨x2, 0, none⟩ [.string x7.1, .int .i64 x7.2.1]) fun _ =>
  HM.bind (α := ByteArray × Int × Unit) (HM.loadN [.str, .int .i64] ⟨x2, 0, none⟩) fun x8 =>
  HM.pure ((x8.1, x8.2.1, ()), ()))

theorem ref05_qos_den (p0 : ByteArray × Int × Unit) (p1 : Int) : denFn Tryz.prog [134] 14 [0, 1, 2, 4, 10] [0, 1, 2, 4, 10] Tryz.f133.results.toList [.agg [.str, .int .i64]] (bodyOf Tryz.f133) [Kind.val (.agg [.str, .int .i64]) p0, Kind.val (.one (.int .i64)) p1] = ref05_qos p0 p1 := by kernel_rfl
theorem ref05_qos_calls (p0 : ByteArray × Int × Unit) (p1 : Int) (h : Heap) (Q : Value → Heap → Prop) (hh : ref05_qos p0 p1 h fun x h' => Q (.agg #[.string x.1.1, .int .i64 x.1.2.1]) h') :
    HCalls Tryz.prog 133 #[.agg #[.string p0.1, .int .i64 p0.2.1], .int .i64 p1] h Q :=
  calls_of_eq Tryz.func133 (by kernel_rfl) Tryz.ntmps133 (by kernel_rfl) (CC Tryz.call134 CN) orders (ref05_qos_den p0 p1) hh

/-- aqueduct/aqueductref05.add -/
def ref05_add (p0 : ByteArray × Int × Unit) (p1 : ByteArray) (p2 : Int) : HM ((ByteArray × Int × Unit) × Unit) :=
  HM.bind (α := Nat) (HM.new (.cells #[.string p0.1, .int .i64 p0.2.1] 209)) fun x1 =>
  HM.bind (α := Nat) (HM.new (.cells #[.string (ByteArray.mk #[]), .int .i64 0] 209)) fun x2 =>
  HM.bind (α := Int) (HM.load1 (.int .i64) (Addr.add ⟨x1, 0, none⟩ 1)) fun x3 =>
  HM.bind (α := Unit) (HM.ite (x3 == 0) (
  HM.bind (α := Unit) (HM.store1 (Addr.add ⟨x1, 0, none⟩ 1) (.int .i64 p2)) fun _ =>
  HM.pure ()) (
  HM.pure ())) fun x4 =>
  HM.bind (α := ByteArray) (HM.load1 .str (Addr.add ⟨x1, 0, none⟩ 0)) fun x5 =>
  HM.req (ByteArray.size x5 + ByteArray.size p1 ≤ 9223372036854775807) <|
  HM.bind (α := Unit) (HM.store1 (Addr.add ⟨x1, 0, none⟩ 0) (.string (x5 ++ p1))) fun _ =>
  HM.bind (α := ByteArray × Int × Unit) (HM.loadN [.str, .int .i64] ⟨x1, 0, none⟩) fun x6 =>
  HM.bind (α := Unit) (HM.storeN ⟨x2, 0, none⟩ [.string x6.1, .int .i64 x6.2.1]) fun _ =>
  HM.bind (α := ByteArray × Int × Unit) (HM.loadN [.str, .int .i64] ⟨x2, 0, none⟩) fun x7 =>
  HM.pure ((x7.1, x7.2.1, ()), ())

theorem ref05_add_den (p0 : ByteArray × Int × Unit) (p1 : ByteArray) (p2 : Int) : denFn Tryz.prog [] 18 [0, 1, 2, 3, 6, 9] [0, 1, 2, 3, 6, 9] Tryz.f134.results.toList [.agg [.str, .int .i64]] (bodyOf Tryz.f134) [Kind.val (.agg [.str, .int .i64]) p0, Kind.val (.one .str) p1, Kind.val (.one (.int .i64)) p2] = ref05_add p0 p1 p2 := by kernel_rfl
theorem ref05_add_calls (p0 : ByteArray × Int × Unit) (p1 : ByteArray) (p2 : Int) (h : Heap) (Q : Value → Heap → Prop) (hh : ref05_add p0 p1 p2 h fun x h' => Q (.agg #[.string x.1.1, .int .i64 x.1.2.1]) h') :
    HCalls Tryz.prog 134 #[.agg #[.string p0.1, .int .i64 p0.2.1], .string p1, .int .i64 p2] h Q :=
  calls_of_eq Tryz.func134 (by kernel_rfl) Tryz.ntmps134 (by kernel_rfl) CN orders (ref05_add_den p0 p1 p2) hh

/-- aqueduct/aqueductref05.text -/
def ref05_text (p0 : ByteArray × Int × Unit) (p1 : ByteArray) : HM ((ByteArray × Int × Unit) × Unit) :=
  HM.bind (α := Nat) (HM.new (.cells #[.string p0.1, .int .i64 p0.2.1] 209)) fun x1 =>
  HM.bind (α := Nat) (HM.new (.cells #[.string (ByteArray.mk #[]), .int .i64 0] 209)) fun x2 =>
  HM.bind (α := ByteArray × Int × Unit) (HM.callN Tryz.prog [.one .str, .one (.int .i64)] 175 #[.string p1]) fun x3 =>
  HM.bind (α := ByteArray × Int × Unit) (HM.loadN [.str, .int .i64] ⟨x1, 0, none⟩) fun x4 =>
  HM.bind (α := ByteArray × Int × Unit) (HM.call1 Tryz.prog (.agg [.str, .int .i64]) 134 #[.agg #[.string x4.1, .int .i64 x4.2.1], .string x3.1, .int .i64 x3.2.1]) fun x5 =>
  HM.bind (α := Unit) (HM.storeN ⟨x2, 0, none⟩ [.string x5.1, .int .i64 x5.2.1]) fun _ =>
  HM.bind (α := ByteArray × Int × Unit) (HM.loadN [.str, .int .i64] ⟨x2, 0, none⟩) fun x6 =>
  HM.pure ((x6.1, x6.2.1, ()), ())

theorem ref05_text_den (p0 : ByteArray × Int × Unit) (p1 : ByteArray) : denFn Tryz.prog [175, 134] 16 [0, 1, 2, 4, 5, 6] [0, 1, 2, 4, 5, 6] Tryz.f135.results.toList [.agg [.str, .int .i64]] (bodyOf Tryz.f135) [Kind.val (.agg [.str, .int .i64]) p0, Kind.val (.one .str) p1] = ref05_text p0 p1 := by kernel_rfl
theorem ref05_text_calls (p0 : ByteArray × Int × Unit) (p1 : ByteArray) (h : Heap) (Q : Value → Heap → Prop) (hh : ref05_text p0 p1 h fun x h' => Q (.agg #[.string x.1.1, .int .i64 x.1.2.1]) h') :
    HCalls Tryz.prog 135 #[.agg #[.string p0.1, .int .i64 p0.2.1], .string p1] h Q :=
  calls_of_eq Tryz.func135 (by kernel_rfl) Tryz.ntmps135 (by kernel_rfl) (CC Tryz.call175 (CC Tryz.call134 CN)) orders (ref05_text_den p0 p1) hh

/-- aqueduct/aqueductref05.id -/
def ref05_id (p0 : ByteArray × Int × Unit) (p1 : Int) : HM ((ByteArray × Int × Unit) × Unit) :=
  HM.bind (α := Nat) (HM.new (.cells #[.string p0.1, .int .i64 p0.2.1] 209)) fun x1 =>
  HM.bind (α := Nat) (HM.new (.cells #[.string (ByteArray.mk #[]), .int .i64 0] 209)) fun x2 =>
  HM.bind (α := Bool × Unit) (HM.ite (decide (p1 < (1 : Int))) (
  HM.pure (true, ())) (
  HM.pure (decide (65535 < (p1 : Int)), ()))) fun x3 =>
  HM.ite x3.1 (
  HM.bind (α := ByteArray × Int × Unit) (HM.loadN [.str, .int .i64] ⟨x1, 0, none⟩) fun x4 =>
  HM.bind (α := ByteArray × Int × Unit) (HM.call1 Tryz.prog (.agg [.str, .int .i64]) 134 #[.agg #[.string x4.1, .int .i64 x4.2.1], .string (ByteArray.mk #[]), .int .i64 130]) fun x5 =>
  HM.bind (α := Unit) (HM.storeN ⟨x2, 0, none⟩ [.string x5.1, .int .i64 x5.2.1]) fun _ =>
  HM.bind (α := ByteArray × Int × Unit) (HM.loadN [.str, .int .i64] ⟨x2, 0, none⟩) fun x6 =>
  HM.pure ((x6.1, x6.2.1, ()), ())) (
  HM.bind (α := ByteArray × Int × Unit) (HM.loadN [.str, .int .i64] ⟨x1, 0, none⟩) fun x7 =>
  HM.bind (α := ByteArray × Int × Unit) (HM.call1 Tryz.prog (.agg [.str, .int .i64]) 131 #[.agg #[.string x7.1, .int .i64 x7.2.1], .int .i64 2, .int .i64 p1]) fun x8 =>
  HM.bind (α := Unit) (HM.storeN ⟨x2, 0, none⟩ [.string x8.1, .int .i64 x8.2.1]) fun _ =>
  HM.bind (α := ByteArray × Int × Unit) (HM.loadN [.str, .int .i64] ⟨x2, 0, none⟩) fun x9 =>
  HM.pure ((x9.1, x9.2.1, ()), ()))

theorem ref05_id_den (p0 : ByteArray × Int × Unit) (p1 : Int) : denFn Tryz.prog [134, 131] 16 [0, 1, 2, 4, 10] [0, 1, 2, 4, 10] Tryz.f136.results.toList [.agg [.str, .int .i64]] (bodyOf Tryz.f136) [Kind.val (.agg [.str, .int .i64]) p0, Kind.val (.one (.int .i64)) p1] = ref05_id p0 p1 := by kernel_rfl
theorem ref05_id_calls (p0 : ByteArray × Int × Unit) (p1 : Int) (h : Heap) (Q : Value → Heap → Prop) (hh : ref05_id p0 p1 h fun x h' => Q (.agg #[.string x.1.1, .int .i64 x.1.2.1]) h') :
    HCalls Tryz.prog 136 #[.agg #[.string p0.1, .int .i64 p0.2.1], .int .i64 p1] h Q :=
  calls_of_eq Tryz.func136 (by kernel_rfl) Tryz.ntmps136 (by kernel_rfl) (CC Tryz.call134 (CC Tryz.call131 CN)) orders (ref05_id_den p0 p1) hh

/-- aqueduct/aqueductref05.end -/
def ref05_end (p0 : ByteArray × Int × Unit) (p1 : Int × Bool × Bool × Int × Int × ByteArray × ByteArray × Int × Slc × Slc × ByteArray × Bool × Int × Bool × ByteArray × ByteArray × Int × Bool × Slc × Bool × Bool × ByteArray × ByteArray × Bool × Slc × Slc × Unit) : HM ((ByteArray × Int × Unit) × Unit) :=
  HM.bind (α := Nat) (HM.new (.cells #[.string p0.1, .int .i64 p0.2.1] 209)) fun x1 =>
  HM.bind (α := Nat) (HM.new (.cells #[.int .i64 p1.1, .bool p1.2.1, .bool p1.2.2.1, .int .i64 p1.2.2.2.1, .int .i64 p1.2.2.2.2.1, .string p1.2.2.2.2.2.1, .string p1.2.2.2.2.2.2.1, .int .i64 p1.2.2.2.2.2.2.2.1, .slice p1.2.2.2.2.2.2.2.2.1.a p1.2.2.2.2.2.2.2.2.1.len p1.2.2.2.2.2.2.2.2.1.cap, .slice p1.2.2.2.2.2.2.2.2.2.1.a p1.2.2.2.2.2.2.2.2.2.1.len p1.2.2.2.2.2.2.2.2.2.1.cap, .string p1.2.2.2.2.2.2.2.2.2.2.1, .bool p1.2.2.2.2.2.2.2.2.2.2.2.1, .int .i64 p1.2.2.2.2.2.2.2.2.2.2.2.2.1, .bool p1.2.2.2.2.2.2.2.2.2.2.2.2.2.1, .string p1.2.2.2.2.2.2.2.2.2.2.2.2.2.2.1, .string p1.2.2.2.2.2.2.2.2.2.2.2.2.2.2.2.1, .int .i64 p1.2.2.2.2.2.2.2.2.2.2.2.2.2.2.2.2.1, .bool p1.2.2.2.2.2.2.2.2.2.2.2.2.2.2.2.2.2.1, .slice p1.2.2.2.2.2.2.2.2.2.2.2.2.2.2.2.2.2.2.1.a p1.2.2.2.2.2.2.2.2.2.2.2.2.2.2.2.2.2.2.1.len p1.2.2.2.2.2.2.2.2.2.2.2.2.2.2.2.2.2.2.1.cap, .bool p1.2.2.2.2.2.2.2.2.2.2.2.2.2.2.2.2.2.2.2.1, .bool p1.2.2.2.2.2.2.2.2.2.2.2.2.2.2.2.2.2.2.2.2.1, .string p1.2.2.2.2.2.2.2.2.2.2.2.2.2.2.2.2.2.2.2.2.2.1, .string p1.2.2.2.2.2.2.2.2.2.2.2.2.2.2.2.2.2.2.2.2.2.2.1, .bool p1.2.2.2.2.2.2.2.2.2.2.2.2.2.2.2.2.2.2.2.2.2.2.2.1, .slice p1.2.2.2.2.2.2.2.2.2.2.2.2.2.2.2.2.2.2.2.2.2.2.2.2.1.a p1.2.2.2.2.2.2.2.2.2.2.2.2.2.2.2.2.2.2.2.2.2.2.2.2.1.len p1.2.2.2.2.2.2.2.2.2.2.2.2.2.2.2.2.2.2.2.2.2.2.2.2.1.cap, .slice p1.2.2.2.2.2.2.2.2.2.2.2.2.2.2.2.2.2.2.2.2.2.2.2.2.2.1.a p1.2.2.2.2.2.2.2.2.2.2.2.2.2.2.2.2.2.2.2.2.2.2.2.2.2.1.len p1.2.2.2.2.2.2.2.2.2.2.2.2.2.2.2.2.2.2.2.2.2.2.2.2.2.1.cap] 41)) fun x2 =>
  HM.bind (α := Nat) (HM.new (.cells #[.string (ByteArray.mk #[]), .int .i64 0] 209)) fun x3 =>
  HM.bind (α := Bool × Unit) (HM.bind (α := Int) (HM.load1 (.int .i64) (Addr.add ⟨x2, 0, none⟩ 7)) fun x4 =>
  HM.ite (!(x4 == 0)) (
  HM.pure (true, ())) (
  HM.bind (α := Slc) (HM.load1 .slc (Addr.add ⟨x2, 0, none⟩ 9)) fun x5 =>
  HM.pure (decide (0 < (((x5.len : Nat) : Int) : Int)), ()))) fun x6 =>
  HM.bind (α := Unit) (HM.ite x6.1 (
  HM.bind (α := ByteArray × Int × Unit) (HM.loadN [.str, .int .i64] ⟨x1, 0, none⟩) fun x8 =>
  HM.bind (α := Int) (HM.load1 (.int .i64) (Addr.add ⟨x2, 0, none⟩ 7)) fun x9 =>
  HM.bind (α := ByteArray × Int × Unit) (HM.call1 Tryz.prog (.agg [.str, .int .i64]) 131 #[.agg #[.string x8.1, .int .i64 x8.2.1], .int .i64 1, .int .i64 x9]) fun x10 =>
  HM.bind (α := Unit) (HM.storeN ⟨x1, 0, none⟩ [.string x10.1, .int .i64 x10.2.1]) fun _ =>
  HM.pure ()) (
  HM.pure ())) fun x7 =>
  HM.bind (α := Slc) (HM.load1 .slc (Addr.add ⟨x2, 0, none⟩ 9)) fun x11 =>
  HM.bind (α := Unit) (HM.ite (decide (0 < (((x11.len : Nat) : Int) : Int))) (
  HM.bind (α := ByteArray × Int × Unit) (HM.loadN [.str, .int .i64] ⟨x1, 0, none⟩) fun x13 =>
  HM.bind (α := Int) (HM.load1 (.int .i64) (Addr.add ⟨x2, 0, none⟩ 0)) fun x14 =>
  HM.bind (α := Slc) (HM.load1 .slc (Addr.add ⟨x2, 0, none⟩ 9)) fun x15 =>
  HM.bind (α := ByteArray × Int × Unit) (HM.call1 Tryz.prog (.agg [.str, .int .i64]) 132 #[.agg #[.string x13.1, .int .i64 x13.2.1], .int .i64 x14, .slice x15.a x15.len x15.cap]) fun x16 =>
  HM.bind (α := Unit) (HM.storeN ⟨x1, 0, none⟩ [.string x16.1, .int .i64 x16.2.1]) fun _ =>
  HM.pure ()) (
  HM.pure ())) fun x12 =>
  HM.bind (α := ByteArray × Int × Unit) (HM.loadN [.str, .int .i64] ⟨x1, 0, none⟩) fun x17 =>
  HM.bind (α := Unit) (HM.storeN ⟨x3, 0, none⟩ [.string x17.1, .int .i64 x17.2.1]) fun _ =>
  HM.bind (α := ByteArray × Int × Unit) (HM.loadN [.str, .int .i64] ⟨x3, 0, none⟩) fun x18 =>
  HM.pure ((x18.1, x18.2.1, ()), ())

theorem ref05_end_den (p0 : ByteArray × Int × Unit) (p1 : Int × Bool × Bool × Int × Int × ByteArray × ByteArray × Int × Slc × Slc × ByteArray × Bool × Int × Bool × ByteArray × ByteArray × Int × Bool × Slc × Bool × Bool × ByteArray × ByteArray × Bool × Slc × Slc × Unit) : denFn Tryz.prog [131, 132] 29 [0, 1, 2, 3, 4, 13, 21] [0, 1, 2, 3, 4, 13, 21] Tryz.f137.results.toList [.agg [.str, .int .i64]] (bodyOf Tryz.f137) [Kind.val (.agg [.str, .int .i64]) p0, Kind.val (.agg [.int .i64, .bool, .bool, .int .i64, .int .i64, .str, .str, .int .i64, .slc, .slc, .str, .bool, .int .i64, .bool, .str, .str, .int .i64, .bool, .slc, .bool, .bool, .str, .str, .bool, .slc, .slc]) p1] = ref05_end p0 p1 := by kernel_rfl
theorem ref05_end_calls (p0 : ByteArray × Int × Unit) (p1 : Int × Bool × Bool × Int × Int × ByteArray × ByteArray × Int × Slc × Slc × ByteArray × Bool × Int × Bool × ByteArray × ByteArray × Int × Bool × Slc × Bool × Bool × ByteArray × ByteArray × Bool × Slc × Slc × Unit) (h : Heap) (Q : Value → Heap → Prop) (hh : ref05_end p0 p1 h fun x h' => Q (.agg #[.string x.1.1, .int .i64 x.1.2.1]) h') :
    HCalls Tryz.prog 137 #[.agg #[.string p0.1, .int .i64 p0.2.1], .agg #[.int .i64 p1.1, .bool p1.2.1, .bool p1.2.2.1, .int .i64 p1.2.2.2.1, .int .i64 p1.2.2.2.2.1, .string p1.2.2.2.2.2.1, .string p1.2.2.2.2.2.2.1, .int .i64 p1.2.2.2.2.2.2.2.1, .slice p1.2.2.2.2.2.2.2.2.1.a p1.2.2.2.2.2.2.2.2.1.len p1.2.2.2.2.2.2.2.2.1.cap, .slice p1.2.2.2.2.2.2.2.2.2.1.a p1.2.2.2.2.2.2.2.2.2.1.len p1.2.2.2.2.2.2.2.2.2.1.cap, .string p1.2.2.2.2.2.2.2.2.2.2.1, .bool p1.2.2.2.2.2.2.2.2.2.2.2.1, .int .i64 p1.2.2.2.2.2.2.2.2.2.2.2.2.1, .bool p1.2.2.2.2.2.2.2.2.2.2.2.2.2.1, .string p1.2.2.2.2.2.2.2.2.2.2.2.2.2.2.1, .string p1.2.2.2.2.2.2.2.2.2.2.2.2.2.2.2.1, .int .i64 p1.2.2.2.2.2.2.2.2.2.2.2.2.2.2.2.2.1, .bool p1.2.2.2.2.2.2.2.2.2.2.2.2.2.2.2.2.2.1, .slice p1.2.2.2.2.2.2.2.2.2.2.2.2.2.2.2.2.2.2.1.a p1.2.2.2.2.2.2.2.2.2.2.2.2.2.2.2.2.2.2.1.len p1.2.2.2.2.2.2.2.2.2.2.2.2.2.2.2.2.2.2.1.cap, .bool p1.2.2.2.2.2.2.2.2.2.2.2.2.2.2.2.2.2.2.2.1, .bool p1.2.2.2.2.2.2.2.2.2.2.2.2.2.2.2.2.2.2.2.2.1, .string p1.2.2.2.2.2.2.2.2.2.2.2.2.2.2.2.2.2.2.2.2.2.1, .string p1.2.2.2.2.2.2.2.2.2.2.2.2.2.2.2.2.2.2.2.2.2.2.1, .bool p1.2.2.2.2.2.2.2.2.2.2.2.2.2.2.2.2.2.2.2.2.2.2.2.1, .slice p1.2.2.2.2.2.2.2.2.2.2.2.2.2.2.2.2.2.2.2.2.2.2.2.2.1.a p1.2.2.2.2.2.2.2.2.2.2.2.2.2.2.2.2.2.2.2.2.2.2.2.2.1.len p1.2.2.2.2.2.2.2.2.2.2.2.2.2.2.2.2.2.2.2.2.2.2.2.2.1.cap, .slice p1.2.2.2.2.2.2.2.2.2.2.2.2.2.2.2.2.2.2.2.2.2.2.2.2.2.1.a p1.2.2.2.2.2.2.2.2.2.2.2.2.2.2.2.2.2.2.2.2.2.2.2.2.2.1.len p1.2.2.2.2.2.2.2.2.2.2.2.2.2.2.2.2.2.2.2.2.2.2.2.2.2.1.cap]] h Q :=
  calls_of_eq Tryz.func137 (by kernel_rfl) Tryz.ntmps137 (by kernel_rfl) (CC Tryz.call131 (CC Tryz.call132 CN)) orders (ref05_end_den p0 p1) hh

/-- aqueduct/aqueductref05.lists -/
def ref05_lists (p0 : ByteArray × Int × Unit) (p1 : Int × Bool × Bool × Int × Int × ByteArray × ByteArray × Int × Slc × Slc × ByteArray × Bool × Int × Bool × ByteArray × ByteArray × Int × Bool × Slc × Bool × Bool × ByteArray × ByteArray × Bool × Slc × Slc × Unit) : HM ((ByteArray × Int × Unit) × Unit) :=
  HM.bind (α := Nat) (HM.new (.cells #[.string p0.1, .int .i64 p0.2.1] 209)) fun x1 =>
  HM.bind (α := Nat) (HM.new (.cells #[.int .i64 p1.1, .bool p1.2.1, .bool p1.2.2.1, .int .i64 p1.2.2.2.1, .int .i64 p1.2.2.2.2.1, .string p1.2.2.2.2.2.1, .string p1.2.2.2.2.2.2.1, .int .i64 p1.2.2.2.2.2.2.2.1, .slice p1.2.2.2.2.2.2.2.2.1.a p1.2.2.2.2.2.2.2.2.1.len p1.2.2.2.2.2.2.2.2.1.cap, .slice p1.2.2.2.2.2.2.2.2.2.1.a p1.2.2.2.2.2.2.2.2.2.1.len p1.2.2.2.2.2.2.2.2.2.1.cap, .string p1.2.2.2.2.2.2.2.2.2.2.1, .bool p1.2.2.2.2.2.2.2.2.2.2.2.1, .int .i64 p1.2.2.2.2.2.2.2.2.2.2.2.2.1, .bool p1.2.2.2.2.2.2.2.2.2.2.2.2.2.1, .string p1.2.2.2.2.2.2.2.2.2.2.2.2.2.2.1, .string p1.2.2.2.2.2.2.2.2.2.2.2.2.2.2.2.1, .int .i64 p1.2.2.2.2.2.2.2.2.2.2.2.2.2.2.2.2.1, .bool p1.2.2.2.2.2.2.2.2.2.2.2.2.2.2.2.2.2.1, .slice p1.2.2.2.2.2.2.2.2.2.2.2.2.2.2.2.2.2.2.1.a p1.2.2.2.2.2.2.2.2.2.2.2.2.2.2.2.2.2.2.1.len p1.2.2.2.2.2.2.2.2.2.2.2.2.2.2.2.2.2.2.1.cap, .bool p1.2.2.2.2.2.2.2.2.2.2.2.2.2.2.2.2.2.2.2.1, .bool p1.2.2.2.2.2.2.2.2.2.2.2.2.2.2.2.2.2.2.2.2.1, .string p1.2.2.2.2.2.2.2.2.2.2.2.2.2.2.2.2.2.2.2.2.2.1, .string p1.2.2.2.2.2.2.2.2.2.2.2.2.2.2.2.2.2.2.2.2.2.2.1, .bool p1.2.2.2.2.2.2.2.2.2.2.2.2.2.2.2.2.2.2.2.2.2.2.2.1, .slice p1.2.2.2.2.2.2.2.2.2.2.2.2.2.2.2.2.2.2.2.2.2.2.2.2.1.a p1.2.2.2.2.2.2.2.2.2.2.2.2.2.2.2.2.2.2.2.2.2.2.2.2.1.len p1.2.2.2.2.2.2.2.2.2.2.2.2.2.2.2.2.2.2.2.2.2.2.2.2.1.cap, .slice p1.2.2.2.2.2.2.2.2.2.2.2.2.2.2.2.2.2.2.2.2.2.2.2.2.2.1.a p1.2.2.2.2.2.2.2.2.2.2.2.2.2.2.2.2.2.2.2.2.2.2.2.2.2.1.len p1.2.2.2.2.2.2.2.2.2.2.2.2.2.2.2.2.2.2.2.2.2.2.2.2.2.1.cap] 41)) fun x2 =>
  HM.bind (α := Nat) (HM.new (.cells #[.string (ByteArray.mk #[]), .int .i64 0] 209)) fun x3 =>
  HM.bind (α := ByteArray × Int × Unit) (HM.loadN [.str, .int .i64] ⟨x1, 0, none⟩) fun x4 =>
  HM.bind (α := Int) (HM.load1 (.int .i64) (Addr.add ⟨x2, 0, none⟩ 4)) fun x5 =>
  HM.bind (α := ByteArray × Int × Unit) (HM.call1 Tryz.prog (.agg [.str, .int .i64]) 136 #[.agg #[.string x4.1, .int .i64 x4.2.1], .int .i64 x5]) fun x6 =>
  HM.bind (α := Unit) (HM.storeN ⟨x1, 0, none⟩ [.string x6.1, .int .i64 x6.2.1]) fun _ =>
  HM.bind (α := ByteArray × Int × Unit) (HM.loadN [.str, .int .i64] ⟨x1, 0, none⟩) fun x7 =>
  HM.bind (α := Int) (HM.load1 (.int .i64) (Addr.add ⟨x2, 0, none⟩ 0)) fun x8 =>
  HM.bind (α := Slc) (HM.load1 .slc (Addr.add ⟨x2, 0, none⟩ 9)) fun x9 =>
  HM.bind (α := ByteArray × Int × Unit) (HM.call1 Tryz.prog (.agg [.str, .int .i64]) 132 #[.agg #[.string x7.1, .int .i64 x7.2.1], .int .i64 x8, .slice x9.a x9.len x9.cap]) fun x10 =>
  HM.bind (α := Unit) (HM.storeN ⟨x1, 0, none⟩ [.string x10.1, .int .i64 x10.2.1]) fun _ =>
  HM.bind (α := Int) (HM.load1 (.int .i64) (Addr.add ⟨x2, 0, none⟩ 0)) fun x11 =>
  HM.bind (α := Unit) (HM.ite (x11 == 8) (
  HM.bind (α := ByteArray × Int × Unit) (HM.loadN [.str, .int .i64] ⟨x1, 0, none⟩) fun x13 =>
  HM.bind (α := Slc) (HM.load1 .slc (Addr.add ⟨x2, 0, none⟩ 24)) fun x14 =>
  HM.bind (α := ByteArray × Int × Unit) (HM.call1 Tryz.prog (.agg [.str, .int .i64]) 176 #[.agg #[.string x13.1, .int .i64 x13.2.1], .int .i64 ((x14.len : Nat) : Int)]) fun x15 =>
  HM.bind (α := Unit) (HM.storeN ⟨x1, 0, none⟩ [.string x15.1, .int .i64 x15.2.1]) fun _ =>
  HM.bind (α := Int × Unit) (HM.loop (σ := Int × Unit) (τ := Int × Unit) (fun x17 =>
  HM.bind (α := Bool × Unit) (HM.bind (α := Slc) (HM.load1 .slc (Addr.add ⟨x2, 0, none⟩ 24)) fun x18 =>
  HM.ite (decide (x17.1 < (((x18.len : Nat) : Int) : Int))) (
  HM.pure (decide (x17.1 < (64 : Int)), ())) (
  HM.pure (false, ()))) fun x19 =>
  HM.ite x19.1 (
  HM.bind (α := Slc) (HM.load1 .slc (Addr.add ⟨x2, 0, none⟩ 24)) fun x20 =>
  HM.bind (α := Addr) (HM.idx x20.a x20.len x17.1 5) fun x21 =>
  HM.bind (α := ByteArray × Int × Bool × Bool × Int × Unit) (HM.loadN [.str, .int .i64, .bool, .bool, .int .i64] x21) fun x22 =>
  HM.bind (α := Nat) (HM.new (.cells #[.string (ByteArray.mk #[]), .int .i64 0, .bool false, .bool false, .int .i64 0] 268)) fun x23 =>
  HM.bind (α := Unit) (HM.storeN ⟨x23, 0, none⟩ [.string x22.1, .int .i64 x22.2.1, .bool x22.2.2.1, .bool x22.2.2.2.1, .int .i64 x22.2.2.2.2.1]) fun _ =>
  HM.bind (α := ByteArray × Int × Unit) (HM.loadN [.str, .int .i64] ⟨x1, 0, none⟩) fun x24 =>
  HM.bind (α := ByteArray) (HM.load1 .str (Addr.add ⟨x23, 0, none⟩ 0)) fun x25 =>
  HM.bind (α := ByteArray × Int × Unit) (HM.call1 Tryz.prog (.agg [.str, .int .i64]) 135 #[.agg #[.string x24.1, .int .i64 x24.2.1], .string x25]) fun x26 =>
  HM.bind (α := Unit) (HM.storeN ⟨x1, 0, none⟩ [.string x26.1, .int .i64 x26.2.1]) fun _ =>
  HM.bind (α := ByteArray × Int × Unit) (HM.loadN [.str, .int .i64] ⟨x1, 0, none⟩) fun x27 =>
  HM.bind (α := Int) (HM.load1 (.int .i64) (Addr.add ⟨x23, 0, none⟩ 1)) fun x28 =>
  HM.bind (α := ByteArray × Int × Unit) (HM.call1 Tryz.prog (.agg [.str, .int .i64]) 133 #[.agg #[.string x27.1, .int .i64 x27.2.1], .int .i64 x28]) fun x29 =>
  HM.bind (α := Unit) (HM.storeN ⟨x1, 0, none⟩ [.string x29.1, .int .i64 x29.2.1]) fun _ =>
  HM.bind (α := ByteArray × Int × Unit) (HM.loadN [.str, .int .i64] ⟨x1, 0, none⟩) fun x30 =>
  HM.bind (α := Int) (HM.load1 (.int .i64) (Addr.add ⟨x23, 0, none⟩ 4)) fun x31 =>
  HM.bind (α := ByteArray × Int × Unit) (HM.call1 Tryz.prog (.agg [.str, .int .i64]) 133 #[.agg #[.string x30.1, .int .i64 x30.2.1], .int .i64 x31]) fun x32 =>
  HM.bind (α := Unit) (HM.storeN ⟨x1, 0, none⟩ [.string x32.1, .int .i64 x32.2.1]) fun _ =>
  HM.bind (α := Int) (HM.load1 (.int .i64) (Addr.add ⟨x23, 0, none⟩ 1)) fun x33 =>
  HM.bind (α := Int) (HM.call1 Tryz.prog (.one (.int .i64)) 171 #[.int .i64 x33]) fun x34 =>
  HM.bind (α := Bool) (HM.load1 .bool (Addr.add ⟨x23, 0, none⟩ 2)) fun x35 =>
  HM.bind (α := Int) (HM.call1 Tryz.prog (.one (.int .i64)) 130 #[.bool x35, .int .i64 4]) fun x36 =>
  HM.bind (α := Bool) (HM.load1 .bool (Addr.add ⟨x23, 0, none⟩ 3)) fun x37 =>
  HM.bind (α := Int) (HM.call1 Tryz.prog (.one (.int .i64)) 130 #[.bool x37, .int .i64 8]) fun x38 =>
  HM.bind (α := Int) (HM.load1 (.int .i64) (Addr.add ⟨x23, 0, none⟩ 4)) fun x39 =>
  HM.bind (α := Int) (HM.call1 Tryz.prog (.one (.int .i64)) 171 #[.int .i64 x39]) fun x40 =>
  HM.bind (α := ByteArray × Int × Unit) (HM.loadN [.str, .int .i64] ⟨x1, 0, none⟩) fun x41 =>
  HM.bind (α := ByteArray × Int × Unit) (HM.call1 Tryz.prog (.agg [.str, .int .i64]) 131 #[.agg #[.string x41.1, .int .i64 x41.2.1], .int .i64 1, .int .i64 (IntKind.wrap .i64 ((IntKind.wrap .i64 ((IntKind.wrap .i64 (x34 + x36)) + x38)) + (IntKind.wrap .i64 (16 * x40))))]) fun x42 =>
  HM.bind (α := Unit) (HM.storeN ⟨x1, 0, none⟩ [.string x42.1, .int .i64 x42.2.1]) fun _ =>
  HM.pure (.inl (IntKind.wrap .i64 (x17.1 + 1), ()))) (
  HM.pure (.inr (x17.1, ())))) (0, ())) fun x16 =>
  HM.pure ()) (
  HM.bind (α := Unit) (HM.ite (x11 == 10) (
  HM.bind (α := ByteArray × Int × Unit) (HM.loadN [.str, .int .i64] ⟨x1, 0, none⟩) fun x44 =>
  HM.bind (α := Slc) (HM.load1 .slc (Addr.add ⟨x2, 0, none⟩ 25)) fun x45 =>
  HM.bind (α := ByteArray × Int × Unit) (HM.call1 Tryz.prog (.agg [.str, .int .i64]) 176 #[.agg #[.string x44.1, .int .i64 x44.2.1], .int .i64 ((x45.len : Nat) : Int)]) fun x46 =>
  HM.bind (α := Unit) (HM.storeN ⟨x1, 0, none⟩ [.string x46.1, .int .i64 x46.2.1]) fun _ =>
  HM.bind (α := Int × Unit) (HM.loop (σ := Int × Unit) (τ := Int × Unit) (fun x48 =>
  HM.bind (α := Bool × Unit) (HM.bind (α := Slc) (HM.load1 .slc (Addr.add ⟨x2, 0, none⟩ 25)) fun x49 =>
  HM.ite (decide (x48.1 < (((x49.len : Nat) : Int) : Int))) (
  HM.pure (decide (x48.1 < (64 : Int)), ())) (
  HM.pure (false, ()))) fun x50 =>
  HM.ite x50.1 (
  HM.bind (α := ByteArray × Int × Unit) (HM.loadN [.str, .int .i64] ⟨x1, 0, none⟩) fun x51 =>
  HM.bind (α := Slc) (HM.load1 .slc (Addr.add ⟨x2, 0, none⟩ 25)) fun x52 =>
  HM.bind (α := Addr) (HM.idx x52.a x52.len x48.1 1) fun x53 =>
  HM.bind (α := ByteArray) (HM.load1 .str x53) fun x54 =>
  HM.bind (α := ByteArray × Int × Unit) (HM.call1 Tryz.prog (.agg [.str, .int .i64]) 135 #[.agg #[.string x51.1, .int .i64 x51.2.1], .string x54]) fun x55 =>
  HM.bind (α := Unit) (HM.storeN ⟨x1, 0, none⟩ [.string x55.1, .int .i64 x55.2.1]) fun _ =>
  HM.pure (.inl (IntKind.wrap .i64 (x48.1 + 1), ()))) (
  HM.pure (.inr (x48.1, ())))) (0, ())) fun x47 =>
  HM.pure ()) (
  HM.bind (α := ByteArray × Int × Unit) (HM.loadN [.str, .int .i64] ⟨x1, 0, none⟩) fun x56 =>
  HM.bind (α := Slc) (HM.load1 .slc (Addr.add ⟨x2, 0, none⟩ 8)) fun x57 =>
  HM.bind (α := ByteArray × Int × Unit) (HM.call1 Tryz.prog (.agg [.str, .int .i64]) 176 #[.agg #[.string x56.1, .int .i64 x56.2.1], .int .i64 ((x57.len : Nat) : Int)]) fun x58 =>
  HM.bind (α := Unit) (HM.storeN ⟨x1, 0, none⟩ [.string x58.1, .int .i64 x58.2.1]) fun _ =>
  HM.bind (α := Int × Unit) (HM.loop (σ := Int × Unit) (τ := Int × Unit) (fun x60 =>
  HM.bind (α := Bool × Unit) (HM.bind (α := Slc) (HM.load1 .slc (Addr.add ⟨x2, 0, none⟩ 8)) fun x61 =>
  HM.ite (decide (x60.1 < (((x61.len : Nat) : Int) : Int))) (
  HM.pure (decide (x60.1 < (64 : Int)), ())) (
  HM.pure (false, ()))) fun x62 =>
  HM.ite x62.1 (
  HM.bind (α := ByteArray × Int × Unit) (HM.loadN [.str, .int .i64] ⟨x1, 0, none⟩) fun x63 =>
  HM.bind (α := Slc) (HM.load1 .slc (Addr.add ⟨x2, 0, none⟩ 8)) fun x64 =>
  HM.bind (α := Addr) (HM.idx x64.a x64.len x60.1 1) fun x65 =>
  HM.bind (α := Int) (HM.load1 (.int .i64) x65) fun x66 =>
  HM.bind (α := ByteArray × Int × Unit) (HM.call1 Tryz.prog (.agg [.str, .int .i64]) 131 #[.agg #[.string x63.1, .int .i64 x63.2.1], .int .i64 1, .int .i64 x66]) fun x67 =>
  HM.bind (α := Unit) (HM.storeN ⟨x1, 0, none⟩ [.string x67.1, .int .i64 x67.2.1]) fun _ =>
  HM.pure (.inl (IntKind.wrap .i64 (x60.1 + 1), ()))) (
  HM.pure (.inr (x60.1, ())))) (0, ())) fun x59 =>
  HM.pure ())) fun x43 =>
  HM.pure ())) fun x12 =>
  HM.bind (α := ByteArray × Int × Unit) (HM.loadN [.str, .int .i64] ⟨x1, 0, none⟩) fun x68 =>
  HM.bind (α := Unit) (HM.storeN ⟨x3, 0, none⟩ [.string x68.1, .int .i64 x68.2.1]) fun _ =>
  HM.bind (α := ByteArray × Int × Unit) (HM.loadN [.str, .int .i64] ⟨x3, 0, none⟩) fun x69 =>
  HM.pure ((x69.1, x69.2.1, ()), ())

theorem ref05_lists_den (p0 : ByteArray × Int × Unit) (p1 : Int × Bool × Bool × Int × Int × ByteArray × ByteArray × Int × Slc × Slc × ByteArray × Bool × Int × Bool × ByteArray × ByteArray × Int × Bool × Slc × Bool × Bool × ByteArray × ByteArray × Bool × Slc × Slc × Unit) : denFn Tryz.prog [136, 132, 176, 135, 133, 171, 130, 131] 131 [0, 1, 2, 3, 4, 5, 6, 7, 8, 9, 10, 11, 12, 24, 38, 48, 63, 105, 120] [0, 1, 2, 3, 4, 5, 6, 7, 8, 9, 10, 11, 12, 24, 38, 48, 63, 105, 120] Tryz.f138.results.toList [.agg [.str, .int .i64]] (bodyOf Tryz.f138) [Kind.val (.agg [.str, .int .i64]) p0, Kind.val (.agg [.int .i64, .bool, .bool, .int .i64, .int .i64, .str, .str, .int .i64, .slc, .slc, .str, .bool, .int .i64, .bool, .str, .str, .int .i64, .bool, .slc, .bool, .bool, .str, .str, .bool, .slc, .slc]) p1] = ref05_lists p0 p1 := by kernel_rfl
theorem ref05_lists_calls (p0 : ByteArray × Int × Unit) (p1 : Int × Bool × Bool × Int × Int × ByteArray × ByteArray × Int × Slc × Slc × ByteArray × Bool × Int × Bool × ByteArray × ByteArray × Int × Bool × Slc × Bool × Bool × ByteArray × ByteArray × Bool × Slc × Slc × Unit) (h : Heap) (Q : Value → Heap → Prop) (hh : ref05_lists p0 p1 h fun x h' => Q (.agg #[.string x.1.1, .int .i64 x.1.2.1]) h') :
    HCalls Tryz.prog 138 #[.agg #[.string p0.1, .int .i64 p0.2.1], .agg #[.int .i64 p1.1, .bool p1.2.1, .bool p1.2.2.1, .int .i64 p1.2.2.2.1, .int .i64 p1.2.2.2.2.1, .string p1.2.2.2.2.2.1, .string p1.2.2.2.2.2.2.1, .int .i64 p1.2.2.2.2.2.2.2.1, .slice p1.2.2.2.2.2.2.2.2.1.a p1.2.2.2.2.2.2.2.2.1.len p1.2.2.2.2.2.2.2.2.1.cap, .slice p1.2.2.2.2.2.2.2.2.2.1.a p1.2.2.2.2.2.2.2.2.2.1.len p1.2.2.2.2.2.2.2.2.2.1.cap, .string p1.2.2.2.2.2.2.2.2.2.2.1, .bool p1.2.2.2.2.2.2.2.2.2.2.2.1, .int .i64 p1.2.2.2.2.2.2.2.2.2.2.2.2.1, .bool p1.2.2.2.2.2.2.2.2.2.2.2.2.2.1, .string p1.2.2.2.2.2.2.2.2.2.2.2.2.2.2.1, .string p1.2.2.2.2.2.2.2.2.2.2.2.2.2.2.2.1, .int .i64 p1.2.2.2.2.2.2.2.2.2.2.2.2.2.2.2.2.1, .bool p1.2.2.2.2.2.2.2.2.2.2.2.2.2.2.2.2.2.1, .slice p1.2.2.2.2.2.2.2.2.2.2.2.2.2.2.2.2.2.2.1.a p1.2.2.2.2.2.2.2.2.2.2.2.2.2.2.2.2.2.2.1.len p1.2.2.2.2.2.2.2.2.2.2.2.2.2.2.2.2.2.2.1.cap, .bool p1.2.2.2.2.2.2.2.2.2.2.2.2.2.2.2.2.2.2.2.1, .bool p1.2.2.2.2.2.2.2.2.2.2.2.2.2.2.2.2.2.2.2.2.1, .string p1.2.2.2.2.2.2.2.2.2.2.2.2.2.2.2.2.2.2.2.2.2.1, .string p1.2.2.2.2.2.2.2.2.2.2.2.2.2.2.2.2.2.2.2.2.2.2.1, .bool p1.2.2.2.2.2.2.2.2.2.2.2.2.2.2.2.2.2.2.2.2.2.2.2.1, .slice p1.2.2.2.2.2.2.2.2.2.2.2.2.2.2.2.2.2.2.2.2.2.2.2.2.1.a p1.2.2.2.2.2.2.2.2.2.2.2.2.2.2.2.2.2.2.2.2.2.2.2.2.1.len p1.2.2.2.2.2.2.2.2.2.2.2.2.2.2.2.2.2.2.2.2.2.2.2.2.1.cap, .slice p1.2.2.2.2.2.2.2.2.2.2.2.2.2.2.2.2.2.2.2.2.2.2.2.2.2.1.a p1.2.2.2.2.2.2.2.2.2.2.2.2.2.2.2.2.2.2.2.2.2.2.2.2.2.1.len p1.2.2.2.2.2.2.2.2.2.2.2.2.2.2.2.2.2.2.2.2.2.2.2.2.2.1.cap]] h Q :=
  calls_of_eq Tryz.func138 (by kernel_rfl) Tryz.ntmps138 (by kernel_rfl) (CC Tryz.call136 (CC Tryz.call132 (CC Tryz.call176 (CC Tryz.call135 (CC Tryz.call133 (CC Tryz.call171 (CC Tryz.call130 (CC Tryz.call131 CN)))))))) orders (ref05_lists_den p0 p1) hh

/-- aqueduct/aqueductref01.most -/
def ref01_most (p0 : Int) : HM (Int × Unit) :=
  HM.ite (p0 == 1) (
  HM.pure (256, ())) (
  HM.ite (p0 == 2) (
  HM.pure (65536, ())) (
  HM.ite (p0 == 4) (
  HM.pure (4294967296, ())) (
  HM.pure (0, ()))))

theorem ref01_most_den (p0 : Int) : denFn Tryz.prog [] 10 [0, 2, 3, 4, 6, 8] [0, 3, 4, 6, 8] Tryz.f139.results.toList [.one (.int .i64)] (bodyOf Tryz.f139) [Kind.val (.one (.int .i64)) p0] = ref01_most p0 := by kernel_rfl
theorem ref01_most_calls (p0 : Int) (h : Heap) (Q : Value → Heap → Prop) (hh : ref01_most p0 h fun x h' => Q (.int .i64 x.1) h') :
    HCalls Tryz.prog 139 #[.int .i64 p0] h Q :=
  calls_of_eq Tryz.func139 (by kernel_rfl) Tryz.ntmps139 (by kernel_rfl) CN orders (ref01_most_den p0) hh

/-- aqueduct/aqueductref01.Size -/
def ref01_Size (p0 : Int) : HM (Int × Unit) :=
  HM.bind (α := Bool × Unit) (HM.ite (decide (p0 < (0 : Int))) (
  HM.pure (true, ())) (
  HM.pure (decide (268435455 < (p0 : Int)), ()))) fun x1 =>
  HM.ite x1.1 (
  HM.pure (0, ())) (
  HM.bind (α := Int × Int × Unit) (HM.loop (σ := Int × Int × Unit) (τ := Int × Int × Unit) (fun x3 =>
  HM.ite (decide (127 < (x3.1 : Int))) (
  HM.req (128 ≠ (0 : Int)) <|
  HM.pure (.inl (IntKind.wrap .i64 (Int.tdiv x3.1 128), IntKind.wrap .i64 (x3.2.1 + 1), ()))) (
  HM.pure (.inr (x3.1, x3.2.1, ())))) (p0, 1, ())) fun x2 =>
  HM.pure (x2.2.1, ()))

theorem ref01_Size_den (p0 : Int) : denFn Tryz.prog [] 17 [0, 2, 3, 9, 11] [0, 3, 9, 11] Tryz.f140.results.toList [.one (.int .i64)] (bodyOf Tryz.f140) [Kind.val (.one (.int .i64)) p0] = ref01_Size p0 := by kernel_rfl
theorem ref01_Size_calls (p0 : Int) (h : Heap) (Q : Value → Heap → Prop) (hh : ref01_Size p0 h fun x h' => Q (.int .i64 x.1) h') :
    HCalls Tryz.prog 140 #[.int .i64 p0] h Q :=
  calls_of_eq Tryz.func140 (by kernel_rfl) Tryz.ntmps140 (by kernel_rfl) CN orders (ref01_Size_den p0) hh

/-- strings.CutPrefix -/
def strings_CutPrefix (p0 : ByteArray) (p1 : ByteArray) : HM (ByteArray × Bool × Unit) :=
  HM.bind (α := ByteArray × Bool × Unit) (HM.callN Tryz.prog [.one .str, .one .bool] 177 #[.string p0, .string p1]) fun x1 =>
  HM.pure (x1.1, x1.2.1, ())

theorem strings_CutPrefix_den (p0 : ByteArray) (p1 : ByteArray) : denFn Tryz.prog [177] 11 [0, 1, 4, 5] [0, 1, 4, 5] Tryz.f141.results.toList [.one .str, .one .bool] (bodyOf Tryz.f141) [Kind.val (.one .str) p0, Kind.val (.one .str) p1] = strings_CutPrefix p0 p1 := by kernel_rfl
theorem strings_CutPrefix_calls (p0 : ByteArray) (p1 : ByteArray) (h : Heap) (Q : Value → Heap → Prop) (hh : strings_CutPrefix p0 p1 h fun x h' => Q (.tuple #[.string x.1, .bool x.2.1]) h') :
    HCalls Tryz.prog 141 #[.string p0, .string p1] h Q :=
  calls_of_eq Tryz.func141 (by kernel_rfl) Tryz.ntmps141 (by kernel_rfl) (CC Tryz.call177 CN) orders (strings_CutPrefix_den p0 p1) hh

/-- aqueduct/topic.Match -/
def topic_Match (p0 : ByteArray) (p1 : ByteArray) : HM (Bool × Unit) :=
  HM.bind (α := Bool × Unit) (HM.bind (α := Int) (HM.call1 Tryz.prog (.one (.int .u8)) 65 #[.string p0]) fun x1 =>
  HM.ite (!(x1 == 0)) (
  HM.pure (true, ())) (
  HM.bind (α := Int) (HM.call1 Tryz.prog (.one (.int .u8)) 110 #[.string p1]) fun x2 =>
  HM.pure (!(x2 == 0), ()))) fun x3 =>
  HM.ite x3.1 (
  HM.pure (false, ())) (
  HM.bind (α := Bool × Unit) (HM.bind (α := Int) (HM.strIdx p1 0) fun x4 =>
  HM.ite (x4 == 36) (
  HM.bind (α := ByteArray) (HM.substr p0 none (some 1)) fun x5 =>
  HM.ite (decide (x5 = (ByteArray.mk #[43]))) (
  HM.pure (true, ())) (
  HM.bind (α := ByteArray) (HM.substr p0 none (some 1)) fun x6 =>
  HM.pure (decide (x6 = (ByteArray.mk #[35])), ()))) (
  HM.pure (false, ()))) fun x7 =>
  HM.ite x7.1 (
  HM.pure (false, ())) (
  HM.bind (α := Slc) (HM.call1 Tryz.prog (.one .slc) 108 #[.string p0]) fun x8 =>
  HM.bind (α := Slc) (HM.call1 Tryz.prog (.one .slc) 108 #[.string p1]) fun x9 =>
  HM.bind (α := Addr) (HM.idx x8.a x8.len (IntKind.wrap .i64 (((x8.len : Nat) : Int) - 1)) 1) fun x10 =>
  HM.bind (α := ByteArray) (HM.load1 .str x10) fun x11 =>
  HM.bind (α := Slc × Unit) (HM.ite (decide (x11 = (ByteArray.mk #[35]))) (
  HM.bind (α := Slc) (HM.slice x8 none (some (IntKind.wrap .i64 (((x8.len : Nat) : Int) - 1))) none 1) fun x13 =>
  HM.pure (x13, ())) (
  HM.pure (x8, ()))) fun x12 =>
  HM.bind (α := Bool × Unit) (HM.ite (decide (((x9.len : Nat) : Int) < (((x12.1.len : Nat) : Int) : Int))) (
  HM.pure (true, ())) (
  HM.ite (!(decide (x11 = (ByteArray.mk #[35])))) (
  HM.pure (decide (((x12.1.len : Nat) : Int) < (((x9.len : Nat) : Int) : Int)), ())) (
  HM.pure (false, ())))) fun x14 =>
  HM.ite x14.1 (
  HM.pure (false, ())) (
  HM.bind (α := Slc) (HM.slice x9 none (some ((x12.1.len : Nat) : Int)) none 1) fun x15 =>
  HM.bind (α := Bool) (HM.call1 Tryz.prog (.one .bool) 178 #[.slice x12.1.a x12.1.len x12.1.cap, .slice x15.a x15.len x15.cap, .func (.func 179) #[] #[]]) fun x16 =>
  HM.pure (x16, ()))))

theorem topic_Match_den (p0 : ByteArray) (p1 : ByteArray) : denFn Tryz.prog [65, 110, 108, 178] 68 [0, 1, 4, 5, 6, 7, 15, 28, 40, 61] [0, 1, 5, 6, 7, 15, 28, 40, 61] Tryz.f142.results.toList [.one .bool] (bodyOf Tryz.f142) [Kind.val (.one .str) p0, Kind.val (.one .str) p1] = topic_Match p0 p1 := by kernel_rfl
theorem topic_Match_calls (p0 : ByteArray) (p1 : ByteArray) (h : Heap) (Q : Value → Heap → Prop) (hh : topic_Match p0 p1 h fun x h' => Q (.bool x.1) h') :
    HCalls Tryz.prog 142 #[.string p0, .string p1] h Q :=
  calls_of_eq Tryz.func142 (by kernel_rfl) Tryz.ntmps142 (by kernel_rfl) (CC Tryz.call65 (CC Tryz.call110 (CC Tryz.call108 (CC Tryz.call178 CN)))) orders (topic_Match_den p0 p1) hh

/-- aqueduct/text.Fault -/
def text_Fault (p0 : ByteArray) : HM (Int × Bool × Unit) :=
  HM.bind (α := (Int × Unit) ⊕ (Int × Bool × Unit)) (HM.loop (σ := Int × Unit) (τ := (Int × Unit) ⊕ (Int × Bool × Unit)) (fun x2 =>
  HM.ite (decide (x2.1 < (((ByteArray.size p0 : Nat) : Int) : Int))) (
  HM.bind (α := ByteArray) (HM.substr p0 (some x2.1) none) fun x3 =>
  HM.bind (α := Int) (HM.call1 Tryz.prog (.one (.int .i64)) 195 #[.string x3]) fun x4 =>
  HM.ite (x4 == 0) (
  HM.pure (.inr (.inr (x2.1, true, ())))) (
  HM.pure (.inl (IntKind.wrap .i64 (x2.1 + x4), ())))) (
  HM.pure (.inr (.inl (x2.1, ()))))) (0, ())) (Sum.elim (fun x1 =>
  HM.pure (0, false, ())) HM.pure)

theorem text_Fault_den (p0 : ByteArray) : denFn Tryz.prog [195] 20 [0, 2, 3, 4, 5, 9, 15] [0, 4, 5, 9, 15] Tryz.f157.results.toList [.one (.int .i64), .one .bool] (bodyOf Tryz.f157) [Kind.val (.one .str) p0] = text_Fault p0 := by kernel_rfl
theorem text_Fault_calls (p0 : ByteArray) (h : Heap) (Q : Value → Heap → Prop) (hh : text_Fault p0 h fun x h' => Q (.tuple #[.int .i64 x.1, .bool x.2.1]) h') :
    HCalls Tryz.prog 157 #[.string p0] h Q :=
  calls_of_eq Tryz.func157 (by kernel_rfl) Tryz.ntmps157 (by kernel_rfl) (CC Tryz.call195 CN) orders (text_Fault_den p0) hh

/-- aqueduct/aqueductref02.Fault -/
def ref02_Fault (p0 : ByteArray) : HM (Int × Bool × Unit) :=
  HM.bind (α := (Int × Unit) ⊕ (Int × Bool × Unit)) (HM.loop (σ := Int × Unit) (τ := (Int × Unit) ⊕ (Int × Bool × Unit)) (fun x2 =>
  HM.ite (decide (x2.1 < (((ByteArray.size p0 : Nat) : Int) : Int))) (
  HM.bind (α := Int) (HM.call1 Tryz.prog (.one (.int .i64)) 196 #[.string p0, .int .i64 x2.1]) fun x3 =>
  HM.ite (x3 == 0) (
  HM.pure (.inr (.inr (x2.1, true, ())))) (
  HM.pure (.inl (IntKind.wrap .i64 (x2.1 + x3), ())))) (
  HM.pure (.inr (.inl (x2.1, ()))))) (0, ())) (Sum.elim (fun x1 =>
  HM.pure (0, false, ())) HM.pure)

theorem ref02_Fault_den (p0 : ByteArray) : denFn Tryz.prog [196] 19 [0, 2, 3, 4, 5, 9, 14] [0, 4, 5, 9, 14] Tryz.f158.results.toList [.one (.int .i64), .one .bool] (bodyOf Tryz.f158) [Kind.val (.one .str) p0] = ref02_Fault p0 := by kernel_rfl
theorem ref02_Fault_calls (p0 : ByteArray) (h : Heap) (Q : Value → Heap → Prop) (hh : ref02_Fault p0 h fun x h' => Q (.tuple #[.int .i64 x.1, .bool x.2.1]) h') :
    HCalls Tryz.prog 158 #[.string p0] h Q :=
  calls_of_eq Tryz.func158 (by kernel_rfl) Tryz.ntmps158 (by kernel_rfl) (CC Tryz.call196 CN) orders (ref02_Fault_den p0) hh

/-- aqueduct/aqueductref07.Match -/
def ref07_Match (p0 : ByteArray) (p1 : ByteArray) : HM (Bool × Unit) :=
  HM.bind (α := Int) (HM.call1 Tryz.prog (.one (.int .i64)) 69 #[.string p0]) fun x1 =>
  HM.bind (α := Int) (HM.call1 Tryz.prog (.one (.int .i64)) 70 #[.string p1]) fun x2 =>
  HM.bind (α := Bool × Unit) (HM.ite (!(x1 == 0)) (
  HM.pure (true, ())) (
  HM.pure (!(x2 == 0), ()))) fun x3 =>
  HM.ite x3.1 (
  HM.pure (false, ())) (
  HM.bind (α := Bool × Unit) (HM.bind (α := Int) (HM.strIdx p1 0) fun x4 =>
  HM.ite (x4 == 36) (
  HM.bind (α := Int) (HM.strIdx p0 0) fun x5 =>
  HM.ite (x5 == 43) (
  HM.pure (true, ())) (
  HM.bind (α := Int) (HM.strIdx p0 0) fun x6 =>
  HM.pure (x6 == 35, ()))) (
  HM.pure (false, ()))) fun x7 =>
  HM.ite x7.1 (
  HM.pure (false, ())) (
  HM.bind (α := Slc) (HM.call1 Tryz.prog (.one .slc) 112 #[.string p0]) fun x8 =>
  HM.bind (α := Slc) (HM.call1 Tryz.prog (.one .slc) 112 #[.string p1]) fun x9 =>
  HM.bind (α := (Int × Unit) ⊕ (Bool × Unit)) (HM.loop (σ := Int × Unit) (τ := (Int × Unit) ⊕ (Bool × Unit)) (fun x11 =>
  HM.ite (decide (x11.1 < (((x8.len : Nat) : Int) : Int))) (
  HM.bind (α := Addr) (HM.idx x8.a x8.len x11.1 1) fun x12 =>
  HM.bind (α := ByteArray) (HM.load1 .str x12) fun x13 =>
  HM.ite (decide (x13 = (ByteArray.mk #[35]))) (
  HM.pure (.inr (.inr (true, ())))) (
  HM.ite (decide (((x9.len : Nat) : Int) ≤ (x11.1 : Int))) (
  HM.pure (.inr (.inr (false, ())))) (
  HM.bind (α := Bool × Unit) (HM.bind (α := Addr) (HM.idx x8.a x8.len x11.1 1) fun x14 =>
  HM.bind (α := ByteArray) (HM.load1 .str x14) fun x15 =>
  HM.ite (!(decide (x15 = (ByteArray.mk #[43])))) (
  HM.bind (α := Addr) (HM.idx x8.a x8.len x11.1 1) fun x16 =>
  HM.bind (α := ByteArray) (HM.load1 .str x16) fun x17 =>
  HM.bind (α := Addr) (HM.idx x9.a x9.len x11.1 1) fun x18 =>
  HM.bind (α := ByteArray) (HM.load1 .str x18) fun x19 =>
  HM.pure (!(decide (x17 = x19)), ())) (
  HM.pure (false, ()))) fun x20 =>
  HM.ite x20.1 (
  HM.pure (.inr (.inr (false, ())))) (
  HM.pure (.inl (IntKind.wrap .i64 (x11.1 + 1), ())))))) (
  HM.pure (.inr (.inl (x11.1, ()))))) (0, ())) (Sum.elim (fun x10 =>
  HM.pure (((x8.len : Nat) : Int) == ((x9.len : Nat) : Int), ())) HM.pure)))

theorem ref07_Match_den (p0 : ByteArray) (p1 : ByteArray) : denFn Tryz.prog [69, 70, 112] 73 [0, 1, 4, 5, 6, 7, 8, 9, 19, 32, 40, 47, 51, 67] [0, 1, 5, 6, 7, 8, 9, 19, 32, 40, 47, 51, 67] Tryz.f159.results.toList [.one .bool] (bodyOf Tryz.f159) [Kind.val (.one .str) p0, Kind.val (.one .str) p1] = ref07_Match p0 p1 := by kernel_rfl
theorem ref07_Match_calls (p0 : ByteArray) (p1 : ByteArray) (h : Heap) (Q : Value → Heap → Prop) (hh : ref07_Match p0 p1 h fun x h' => Q (.bool x.1) h') :
    HCalls Tryz.prog 159 #[.string p0, .string p1] h Q :=
  calls_of_eq Tryz.func159 (by kernel_rfl) Tryz.ntmps159 (by kernel_rfl) (CC Tryz.call69 (CC Tryz.call70 (CC Tryz.call112 CN))) orders (ref07_Match_den p0 p1) hh

/-- (*aqueduct/ids.Pool).Left -/
def ids_Pool_Left (p0 : Option Addr) : HM (Int × Unit) :=
  HM.ite (Option.isNone p0) (
  HM.pure (0, ())) (
  HM.bind (α := Addr) (HM.nonnil p0) fun x1 =>
  HM.bind (α := Int) (HM.load1 (.int .i64) (Addr.add x1 0)) fun x2 =>
  HM.bind (α := Addr) (HM.nonnil p0) fun x3 =>
  HM.bind (α := Option Nat) (HM.load1 .map (Addr.add x3 2)) fun x4 =>
  HM.bind (α := Int) (HM.mapLen x4) fun x5 =>
  HM.pure (IntKind.wrap .i64 (x2 - x5), ()))

theorem ids_Pool_Left_den (p0 : Option Addr) : denFn Tryz.prog [] 15 [0, 2, 4] [0, 4] Tryz.f160.results.toList [.one (.int .i64)] (bodyOf Tryz.f160) [Kind.val (.one .ptr) p0] = ids_Pool_Left p0 := by kernel_rfl
theorem ids_Pool_Left_calls (p0 : Option Addr) (h : Heap) (Q : Value → Heap → Prop) (hh : ids_Pool_Left p0 h fun x h' => Q (.int .i64 x.1) h') :
    HCalls Tryz.prog 160 #[.pointer p0] h Q :=
  calls_of_eq Tryz.func160 (by kernel_rfl) Tryz.ntmps160 (by kernel_rfl) CN orders (ids_Pool_Left_den p0) hh

/-- (*aqueduct/packet.writer).text -/
def packet_writer_text (p0 : Option Addr) (p1 : ByteArray) : HM (Unit) :=
  HM.bind (α := ByteArray × Int × Unit) (HM.callN Tryz.prog [.one .str, .one (.int .u8)] 197 #[.string p1]) fun x1 =>
  HM.bind (α := Unit) (HM.callN Tryz.prog [] 164 #[.pointer p0, .string x1.1, .int .u8 x1.2.1]) fun x2 =>
  HM.pure ()

theorem packet_writer_text_den (p0 : Option Addr) (p1 : ByteArray) : denFn Tryz.prog [197, 164] 10 [0, 1] [0, 1] Tryz.f161.results.toList [] (bodyOf Tryz.f161) [Kind.val (.one .ptr) p0, Kind.val (.one .str) p1] = packet_writer_text p0 p1 := by kernel_rfl
theorem packet_writer_text_calls (p0 : Option Addr) (p1 : ByteArray) (h : Heap) (Q : Value → Heap → Prop) (hh : packet_writer_text p0 p1 h fun x h' => Q (.tuple #[]) h') :
    HCalls Tryz.prog 161 #[.pointer p0, .string p1] h Q :=
  calls_of_eq Tryz.func161 (by kernel_rfl) Tryz.ntmps161 (by kernel_rfl) (CC Tryz.call197 (CC Tryz.call164 CN)) orders (packet_writer_text_den p0 p1) hh

/-- (*aqueduct/packet.writer).two -/
def packet_writer_two (p0 : Option Addr) (p1 : Int) : HM (Unit) :=
  HM.bind (α := ByteArray × Int × Unit) (HM.callN Tryz.prog [.one .str, .one (.int .u8)] 88 #[.int .i64 2, .int .i64 p1]) fun x1 =>
  HM.bind (α := Unit) (HM.callN Tryz.prog [] 164 #[.pointer p0, .string x1.1, .int .u8 x1.2.1]) fun x2 =>
  HM.pure ()

theorem packet_writer_two_den (p0 : Option Addr) (p1 : Int) : denFn Tryz.prog [88, 164] 10 [0, 1] [0, 1] Tryz.f162.results.toList [] (bodyOf Tryz.f162) [Kind.val (.one .ptr) p0, Kind.val (.one (.int .i64)) p1] = packet_writer_two p0 p1 := by kernel_rfl
theorem packet_writer_two_calls (p0 : Option Addr) (p1 : Int) (h : Heap) (Q : Value → Heap → Prop) (hh : packet_writer_two p0 p1 h fun x h' => Q (.tuple #[]) h') :
    HCalls Tryz.prog 162 #[.pointer p0, .int .i64 p1] h Q :=
  calls_of_eq Tryz.func162 (by kernel_rfl) Tryz.ntmps162 (by kernel_rfl) (CC Tryz.call88 (CC Tryz.call164 CN)) orders (packet_writer_two_den p0 p1) hh

/-- (*aqueduct/packet.writer).data -/
def packet_writer_data (p0 : Option Addr) (p1 : ByteArray) : HM (Unit) :=
  HM.bind (α := ByteArray × Int × Unit) (HM.callN Tryz.prog [.one .str, .one (.int .u8)] 198 #[.string p1]) fun x1 =>
  HM.bind (α := Unit) (HM.callN Tryz.prog [] 164 #[.pointer p0, .string x1.1, .int .u8 x1.2.1]) fun x2 =>
  HM.pure ()

theorem packet_writer_data_den (p0 : Option Addr) (p1 : ByteArray) : denFn Tryz.prog [198, 164] 10 [0, 1] [0, 1] Tryz.f163.results.toList [] (bodyOf Tryz.f163) [Kind.val (.one .ptr) p0, Kind.val (.one .str) p1] = packet_writer_data p0 p1 := by kernel_rfl
theorem packet_writer_data_calls (p0 : Option Addr) (p1 : ByteArray) (h : Heap) (Q : Value → Heap → Prop) (hh : packet_writer_data p0 p1 h fun x h' => Q (.tuple #[]) h') :
    HCalls Tryz.prog 163 #[.pointer p0, .string p1] h Q :=
  calls_of_eq Tryz.func163 (by kernel_rfl) Tryz.ntmps163 (by kernel_rfl) (CC Tryz.call198 (CC Tryz.call164 CN)) orders (packet_writer_data_den p0 p1) hh

/-- (*aqueduct/packet.writer).part -/
def packet_writer_part (p0 : Option Addr) (p1 : ByteArray) (p2 : Int) : HM (Unit) :=
  HM.bind (α := Unit) (HM.callN Tryz.prog [] 84 #[.pointer p0, .int .u8 p2]) fun x1 =>
  HM.bind (α := Addr) (HM.nonnil p0) fun x2 =>
  HM.bind (α := Int × Value × Unit) (HM.callN Tryz.prog [.one (.int .i64), .one .any] 100 #[.pointer (some (Addr.add x2 0)), .string p1]) fun x3 =>
  HM.pure ()

theorem packet_writer_part_den (p0 : Option Addr) (p1 : ByteArray) (p2 : Int) : denFn Tryz.prog [84, 100] 14 [0, 1, 2] [0, 1, 2] Tryz.f164.results.toList [] (bodyOf Tryz.f164) [Kind.val (.one .ptr) p0, Kind.val (.one .str) p1, Kind.val (.one (.int .u8)) p2] = packet_writer_part p0 p1 p2 := by kernel_rfl
theorem packet_writer_part_calls (p0 : Option Addr) (p1 : ByteArray) (p2 : Int) (h : Heap) (Q : Value → Heap → Prop) (hh : packet_writer_part p0 p1 p2 h fun x h' => Q (.tuple #[]) h') :
    HCalls Tryz.prog 164 #[.pointer p0, .string p1, .int .u8 p2] h Q :=
  calls_of_eq Tryz.func164 (by kernel_rfl) Tryz.ntmps164 (by kernel_rfl) (CC Tryz.call84 (CC Tryz.call100 CN)) orders (packet_writer_part_den p0 p1 p2) hh

/-- aqueduct/prop.Put -/
def prop_Put (p0 : Slc) : HM (ByteArray × Int × Unit) :=
  HM.ite (decide (64 < (((p0.len : Nat) : Int) : Int))) (
  HM.pure (ByteArray.mk #[], 149, ())) (
  HM.bind (α := Nat) (HM.new (.cells #[.pointer none, .slice none 0 0] 199)) fun x1 =>
  HM.bind (α := (Int × Unit) ⊕ (ByteArray × Int × Unit)) (HM.loop (σ := Int × Unit) (τ := (Int × Unit) ⊕ (ByteArray × Int × Unit)) (fun x3 =>
  HM.ite (decide (x3.1 < (((p0.len : Nat) : Int) : Int))) (
  HM.bind (α := Addr) (HM.idx p0.a p0.len x3.1 4) fun x4 =>
  HM.bind (α := Int × Int × ByteArray × ByteArray × Unit) (HM.loadN [.int .i64, .int .i64, .str, .str] x4) fun x5 =>
  HM.bind (α := Nat) (HM.new (.cells #[.int .i64 0, .int .i64 0, .string (ByteArray.mk #[]), .string (ByteArray.mk #[])] 44)) fun x6 =>
  HM.bind (α := Unit) (HM.storeN ⟨x6, 0, none⟩ [.int .i64 x5.1, .int .i64 x5.2.1, .string x5.2.2.1, .string x5.2.2.2.1]) fun _ =>
  HM.bind (α := Int) (HM.load1 (.int .i64) (Addr.add ⟨x6, 0, none⟩ 0)) fun x7 =>
  HM.bind (α := Int) (HM.call1 Tryz.prog (.one (.int .i64)) 199 #[.int .i64 x7]) fun x8 =>
  HM.ite (x8 == 0) (
  HM.pure (.inr (.inr (ByteArray.mk #[], 129, ())))) (
  HM.bind (α := Slc) (HM.slice p0 none (some x3.1) none 4) fun x9 =>
  HM.bind (α := Int) (HM.load1 (.int .i64) (Addr.add ⟨x6, 0, none⟩ 0)) fun x10 =>
  HM.bind (α := Bool) (HM.call1 Tryz.prog (.one .bool) 200 #[.slice x9.a x9.len x9.cap, .int .i64 x10]) fun x11 =>
  HM.ite x11 (
  HM.pure (.inr (.inr (ByteArray.mk #[], 130, ())))) (
  HM.bind (α := Int × Int × ByteArray × ByteArray × Unit) (HM.loadN [.int .i64, .int .i64, .str, .str] ⟨x6, 0, none⟩) fun x12 =>
  HM.bind (α := ByteArray × Int × Unit) (HM.callN Tryz.prog [.one .str, .one (.int .u8)] 201 #[.agg #[.int .i64 x12.1, .int .i64 x12.2.1, .string x12.2.2.1, .string x12.2.2.2.1]]) fun x13 =>
  HM.ite (!(x13.2.1 == 0)) (
  HM.pure (.inr (.inr (ByteArray.mk #[], x13.2.1, ())))) (
  HM.bind (α := Int) (HM.load1 (.int .i64) (Addr.add ⟨x6, 0, none⟩ 0)) fun x14 =>
  HM.bind (α := ByteArray × Int × Unit) (HM.callN Tryz.prog [.one .str, .one (.int .u8)] 89 #[.int .i64 x14]) fun x15 =>
  HM.req (ByteArray.size x15.1 + ByteArray.size x13.1 ≤ 9223372036854775807) <|
  HM.bind (α := Int × Value × Unit) (HM.callN Tryz.prog [.one (.int .i64), .one .any] 100 #[.pointer (some ⟨x1, 0, none⟩), .string (x15.1 ++ x13.1)]) fun x16 =>
  HM.pure (.inl (IntKind.wrap .i64 (x3.1 + 1), ())))))) (
  HM.pure (.inr (.inl (x3.1, ()))))) (0, ())) (Sum.elim (fun x2 =>
  HM.bind (α := Int) (HM.call1 Tryz.prog (.one (.int .i64)) 87 #[.pointer (some ⟨x1, 0, none⟩)]) fun x17 =>
  HM.bind (α := ByteArray × Int × Unit) (HM.callN Tryz.prog [.one .str, .one (.int .u8)] 89 #[.int .i64 x17]) fun x18 =>
  HM.ite (!(x18.2.1 == 0)) (
  HM.pure (ByteArray.mk #[], 149, ())) (
  HM.bind (α := ByteArray) (HM.call1 Tryz.prog (.one .str) 90 #[.pointer (some ⟨x1, 0, none⟩)]) fun x19 =>
  HM.req (ByteArray.size x18.1 + ByteArray.size x19 ≤ 9223372036854775807) <|
  HM.pure (x18.1 ++ x19, 0, ()))) HM.pure))

theorem prop_Put_den (p0 : Slc) : denFn Tryz.prog [199, 200, 201, 89, 100, 87, 90] 64 [0, 2, 3, 4, 5, 6, 7, 8, 9, 11, 12, 15, 16, 17, 18, 19, 23, 28, 41, 60] [0, 4, 5, 6, 7, 8, 9, 11, 12, 15, 16, 17, 18, 19, 23, 28, 41, 60] Tryz.f165.results.toList [.one .str, .one (.int .u8)] (bodyOf Tryz.f165) [Kind.val (.one .slc) p0] = prop_Put p0 := by kernel_rfl
theorem prop_Put_calls (p0 : Slc) (h : Heap) (Q : Value → Heap → Prop) (hh : prop_Put p0 h fun x h' => Q (.tuple #[.string x.1, .int .u8 x.2.1]) h') :
    HCalls Tryz.prog 165 #[.slice p0.a p0.len p0.cap] h Q :=
  calls_of_eq Tryz.func165 (by kernel_rfl) Tryz.ntmps165 (by kernel_rfl) (CC Tryz.call199 (CC Tryz.call200 (CC Tryz.call201 (CC Tryz.call89 (CC Tryz.call100 (CC Tryz.call87 (CC Tryz.call90 CN))))))) orders (prop_Put_den p0) hh

/-- slices.ContainsFunc[[]aqueduct/prop.Property,aqueduct/prop.Property] -/
def slices_ContainsFunc (p0 : Slc) (p1 : Value) : HM (Bool × Unit) :=
  HM.bind (α := Int) (HM.call1 Tryz.prog (.one (.int .i64)) 202 #[.slice p0.a p0.len p0.cap, p1]) fun x1 =>
  HM.pure (decide (0 ≤ (x1 : Int)), ())

theorem slices_ContainsFunc_den (p0 : Slc) (p1 : Value) : denFn Tryz.prog [202] 9 [0, 1, 4] [0, 1] Tryz.f166.results.toList [.one .bool] (bodyOf Tryz.f166) [Kind.val (.one .slc) p0, Kind.val (.one .any) p1] = slices_ContainsFunc p0 p1 := by kernel_rfl
theorem slices_ContainsFunc_calls (p0 : Slc) (p1 : Value) (h : Heap) (Q : Value → Heap → Prop) (hh : slices_ContainsFunc p0 p1 h fun x h' => Q (.bool x.1) h') :
    HCalls Tryz.prog 166 #[.slice p0.a p0.len p0.cap, p1] h Q :=
  calls_of_eq Tryz.func166 (by kernel_rfl) Tryz.ntmps166 (by kernel_rfl) (CC Tryz.call202 CN) orders (slices_ContainsFunc_den p0 p1) hh

/-- (*aqueduct/packet.writer).props$1 -/
def packet_writer_props_f1 (p0 : Int × Int × ByteArray × ByteArray × Unit) (p1 : Addr) : HM (Bool × Unit) :=
  HM.bind (α := Nat) (HM.new (.cells #[.int .i64 p0.1, .int .i64 p0.2.1, .string p0.2.2.1, .string p0.2.2.2.1] 44)) fun x1 =>
  HM.bind (α := Int) (HM.load1 (.int .i64) p1) fun x2 =>
  HM.bind (α := Int) (HM.load1 (.int .i64) (Addr.add ⟨x1, 0, none⟩ 0)) fun x3 =>
  HM.bind (α := Bool) (HM.call1 Tryz.prog (.one .bool) 168 #[.int .i64 x2, .int .i64 x3]) fun x4 =>
  HM.pure (!x4, ())

theorem packet_writer_props_f1_den (p0 : Int × Int × ByteArray × ByteArray × Unit) (p1 : Addr) : denFn Tryz.prog [168] 9 [0, 1, 2, 3] [0, 1, 2] Tryz.f167.results.toList [.one .bool] (bodyOf Tryz.f167) [Kind.val (.agg [.int .i64, .int .i64, .str, .str]) p0, Value.pointer (some p1)] = packet_writer_props_f1 p0 p1 := by kernel_rfl
theorem packet_writer_props_f1_calls (p0 : Int × Int × ByteArray × ByteArray × Unit) (p1 : Addr) (h : Heap) (Q : Value → Heap → Prop) (hh : packet_writer_props_f1 p0 p1 h fun x h' => Q (.bool x.1) h') :
    HCalls Tryz.prog 167 #[.agg #[.int .i64 p0.1, .int .i64 p0.2.1, .string p0.2.2.1, .string p0.2.2.2.1], .pointer (some p1)] h Q :=
  calls_of_eq Tryz.func167 (by kernel_rfl) Tryz.ntmps167 (by kernel_rfl) (CC Tryz.call168 CN) orders (packet_writer_props_f1_den p0 p1) hh

/-- aqueduct/packet.Allowed -/
def packet_Allowed (p0 : Int) (p1 : Int) : HM (Bool × Unit) :=
  HM.bind (α := Slc × Unit) (HM.ite (p0 == 0) (
  HM.bind (α := Nat) (HM.new (.cells #[.int .i64 1, .int .i64 2, .int .i64 3, .int .i64 8, .int .i64 9, .int .i64 24, .int .i64 38] 3)) fun x2 =>
  HM.pure (⟨some ⟨x2, 0, none⟩, 7, 7⟩, ())) (
  HM.bind (α := Slc × Unit) (HM.ite (p0 == 1) (
  HM.bind (α := Nat) (HM.new (.cells #[.int .i64 17, .int .i64 21, .int .i64 22, .int .i64 23, .int .i64 25, .int .i64 33, .int .i64 34, .int .i64 38, .int .i64 39] 3)) fun x4 =>
  HM.pure (⟨some ⟨x4, 0, none⟩, 9, 9⟩, ())) (
  HM.bind (α := Slc × Unit) (HM.ite (p0 == 2) (
  HM.bind (α := Nat) (HM.new (.cells #[.int .i64 17, .int .i64 18, .int .i64 19, .int .i64 21, .int .i64 22, .int .i64 26, .int .i64 28, .int .i64 31, .int .i64 33, .int .i64 34, .int .i64 36, .int .i64 37, .int .i64 38, .int .i64 39, .int .i64 40, .int .i64 41, .int .i64 42] 3)) fun x6 =>
  HM.pure (⟨some ⟨x6, 0, none⟩, 17, 17⟩, ())) (
  HM.bind (α := Slc × Unit) (HM.ite (p0 == 3) (
  HM.bind (α := Nat) (HM.new (.cells #[.int .i64 1, .int .i64 2, .int .i64 3, .int .i64 8, .int .i64 9, .int .i64 11, .int .i64 35, .int .i64 38] 3)) fun x8 =>
  HM.pure (⟨some ⟨x8, 0, none⟩, 8, 8⟩, ())) (
  HM.bind (α := Slc × Unit) (HM.ite (p0 == 8) (
  HM.bind (α := Nat) (HM.new (.cells #[.int .i64 11, .int .i64 38] 3)) fun x10 =>
  HM.pure (⟨some ⟨x10, 0, none⟩, 2, 2⟩, ())) (
  HM.bind (α := Slc × Unit) (HM.ite (p0 == 10) (
  HM.bind (α := Nat) (HM.new (.cells #[.int .i64 38] 3)) fun x12 =>
  HM.pure (⟨some ⟨x12, 0, none⟩, 1, 1⟩, ())) (
  HM.bind (α := Slc × Unit) (HM.ite (p0 == 14) (
  HM.bind (α := Nat) (HM.new (.cells #[.int .i64 17, .int .i64 28, .int .i64 31, .int .i64 38] 3)) fun x14 =>
  HM.pure (⟨some ⟨x14, 0, none⟩, 4, 4⟩, ())) (
  HM.bind (α := Slc × Unit) (HM.ite (p0 == 15) (
  HM.bind (α := Nat) (HM.new (.cells #[.int .i64 21, .int .i64 22, .int .i64 31, .int .i64 38] 3)) fun x16 =>
  HM.pure (⟨some ⟨x16, 0, none⟩, 4, 4⟩, ())) (
  HM.bind (α := Bool × Unit) (HM.ite (p0 == 4) (
  HM.pure (p0 == 4, ())) (
  HM.bind (α := Bool × Unit) (HM.ite (p0 == 5) (
  HM.pure (p0 == 5, ())) (
  HM.bind (α := Bool × Unit) (HM.ite (p0 == 6) (
  HM.pure (p0 == 6, ())) (
  HM.bind (α := Bool × Unit) (HM.ite (p0 == 7) (
  HM.pure (p0 == 7, ())) (
  HM.bind (α := Bool × Unit) (HM.ite (p0 == 9) (
  HM.pure (p0 == 9, ())) (
  HM.pure (p0 == 11, ()))) fun x21 =>
  HM.pure (x21.1, ()))) fun x20 =>
  HM.pure (x20.1, ()))) fun x19 =>
  HM.pure (x19.1, ()))) fun x18 =>
  HM.pure (x18.1, ()))) fun x17 =>
  HM.bind (α := Slc × Unit) (HM.ite x17.1 (
  HM.bind (α := Nat) (HM.new (.cells #[.int .i64 31, .int .i64 38] 3)) fun x23 =>
  HM.pure (⟨some ⟨x23, 0, none⟩, 2, 2⟩, ())) (
  HM.pure (⟨none, 0, 0⟩, ()))) fun x22 =>
  HM.pure (x22.1, ()))) fun x15 =>
  HM.pure (x15.1, ()))) fun x13 =>
  HM.pure (x13.1, ()))) fun x11 =>
  HM.pure (x11.1, ()))) fun x9 =>
  HM.pure (x9.1, ()))) fun x7 =>
  HM.pure (x7.1, ()))) fun x5 =>
  HM.pure (x5.1, ()))) fun x3 =>
  HM.pure (x3.1, ()))) fun x1 =>
  HM.bind (α := Bool) (HM.call1 Tryz.prog (.one .bool) 203 #[.slice x1.1.a x1.1.len x1.1.cap, .int .i64 p1]) fun x24 =>
  HM.pure (x24, ())

theorem packet_Allowed_den (p0 : Int) (p1 : Int) : denFn Tryz.prog [203] 42 [0, 1, 4, 5, 6, 7, 10, 13, 16, 19, 22, 25, 28, 31] [0, 1, 5, 6, 7, 10, 13, 16, 19, 22, 25, 28, 31] Tryz.f168.results.toList [.one .bool] (bodyOf Tryz.f168) [Kind.val (.one (.int .i64)) p0, Kind.val (.one (.int .i64)) p1] = packet_Allowed p0 p1 := by kernel_rfl
theorem packet_Allowed_calls (p0 : Int) (p1 : Int) (h : Heap) (Q : Value → Heap → Prop) (hh : packet_Allowed p0 p1 h fun x h' => Q (.bool x.1) h') :
    HCalls Tryz.prog 168 #[.int .i64 p0, .int .i64 p1] h Q :=
  calls_of_eq Tryz.func168 (by kernel_rfl) Tryz.ntmps168 (by kernel_rfl) (CC Tryz.call203 CN) orders (packet_Allowed_den p0 p1) hh

/-- (*aqueduct/packet.writer).subs -/
def packet_writer_subs (p0 : Option Addr) (p1 : Slc) : HM (Unit) :=
  HM.bind (α := Unit) (HM.callN Tryz.prog [] 170 #[.pointer p0, .int .i64 ((p1.len : Nat) : Int)]) fun x1 =>
  HM.bind (α := Slc) (HM.slice p1 none (some (if 64 < (((p1.len : Nat) : Int) : Int) then 64 else ((p1.len : Nat) : Int))) none 5) fun x2 =>
  HM.bind (α := Int × Unit) (HM.loop (σ := Int × Unit) (τ := Int × Unit) (fun x4 =>
  HM.ite (decide (x4.1 < (((x2.len : Nat) : Int) : Int))) (
  HM.bind (α := Addr) (HM.idx x2.a x2.len x4.1 5) fun x5 =>
  HM.bind (α := ByteArray × Int × Bool × Bool × Int × Unit) (HM.loadN [.str, .int .i64, .bool, .bool, .int .i64] x5) fun x6 =>
  HM.bind (α := Nat) (HM.new (.cells #[.string (ByteArray.mk #[]), .int .i64 0, .bool false, .bool false, .int .i64 0] 294)) fun x7 =>
  HM.bind (α := Unit) (HM.storeN ⟨x7, 0, none⟩ [.string x6.1, .int .i64 x6.2.1, .bool x6.2.2.1, .bool x6.2.2.2.1, .int .i64 x6.2.2.2.2.1]) fun _ =>
  HM.bind (α := ByteArray) (HM.load1 .str (Addr.add ⟨x7, 0, none⟩ 0)) fun x8 =>
  HM.bind (α := Unit) (HM.callN Tryz.prog [] 161 #[.pointer p0, .string x8]) fun x9 =>
  HM.bind (α := Int) (HM.load1 (.int .i64) (Addr.add ⟨x7, 0, none⟩ 1)) fun x10 =>
  HM.bind (α := Unit) (HM.callN Tryz.prog [] 83 #[.pointer p0, .int .i64 x10]) fun x11 =>
  HM.bind (α := Int) (HM.load1 (.int .i64) (Addr.add ⟨x7, 0, none⟩ 4)) fun x12 =>
  HM.bind (α := Unit) (HM.callN Tryz.prog [] 83 #[.pointer p0, .int .i64 x12]) fun x13 =>
  HM.bind (α := Int) (HM.load1 (.int .i64) (Addr.add ⟨x7, 0, none⟩ 1)) fun x14 =>
  HM.bind (α := Bool) (HM.load1 .bool (Addr.add ⟨x7, 0, none⟩ 2)) fun x15 =>
  HM.bind (α := Bool) (HM.load1 .bool (Addr.add ⟨x7, 0, none⟩ 3)) fun x16 =>
  HM.bind (α := Int) (HM.load1 (.int .i64) (Addr.add ⟨x7, 0, none⟩ 4)) fun x17 =>
  HM.req ((0 : Int) ≤ 4) <|
  HM.bind (α := Int) (HM.call1 Tryz.prog (.one (.int .i64)) 85 #[.bool x15, .int .i64 4]) fun x18 =>
  HM.bind (α := Int) (HM.load1 (.int .i64) (Addr.add ⟨x7, 0, none⟩ 4)) fun x19 =>
  HM.req ((.int .i64 x19 : Value) = .int .i64 x17) <|
  HM.bind (α := Bool) (HM.load1 .bool (Addr.add ⟨x7, 0, none⟩ 3)) fun x20 =>
  HM.req ((.bool x20 : Value) = .bool x16) <|
  HM.bind (α := Int) (HM.load1 (.int .i64) (Addr.add ⟨x7, 0, none⟩ 1)) fun x21 =>
  HM.req ((.int .i64 x21 : Value) = .int .i64 x14) <|
  HM.bind (α := Int) (HM.call1 Tryz.prog (.one (.int .i64)) 85 #[.bool x16, .int .i64 8]) fun x22 =>
  HM.bind (α := Int) (HM.load1 (.int .i64) (Addr.add ⟨x7, 0, none⟩ 4)) fun x23 =>
  HM.req ((.int .i64 x23 : Value) = .int .i64 x17) <|
  HM.bind (α := Int) (HM.load1 (.int .i64) (Addr.add ⟨x7, 0, none⟩ 1)) fun x24 =>
  HM.req ((.int .i64 x24 : Value) = .int .i64 x14) <|
  HM.bind (α := Unit) (HM.callN Tryz.prog [] 121 #[.pointer p0, .int .i64 (IntKind.wrap .i64 ((IntKind.wrap .i64 ((IntKind.wrap .i64 ((bitOp .and .i64 x14 3) + x18)) + x22)) + (IntKind.wrap .i64 ((bitOp .and .i64 x17 3) * 2 ^ (min (Int.toNat 4) (IntKind.bits .i64))))))]) fun x25 =>
  HM.pure (.inl (IntKind.wrap .i64 (x4.1 + 1), ()))) (
  HM.pure (.inr (x4.1, ())))) (0, ())) fun x3 =>
  HM.pure ()

theorem packet_writer_subs_den (p0 : Option Addr) (p1 : Slc) : denFn Tryz.prog [170, 161, 83, 85, 121] 51 [0, 1, 5, 14, 15, 16, 17] [0, 1, 5, 14, 15, 16, 17] Tryz.f169.results.toList [] (bodyOf Tryz.f169) [Kind.val (.one .ptr) p0, Kind.val (.one .slc) p1] = packet_writer_subs p0 p1 := by kernel_rfl
theorem packet_writer_subs_calls (p0 : Option Addr) (p1 : Slc) (h : Heap) (Q : Value → Heap → Prop) (hh : packet_writer_subs p0 p1 h fun x h' => Q (.tuple #[]) h') :
    HCalls Tryz.prog 169 #[.pointer p0, .slice p1.a p1.len p1.cap] h Q :=
  calls_of_eq Tryz.func169 (by kernel_rfl) Tryz.ntmps169 (by kernel_rfl) (CC Tryz.call170 (CC Tryz.call161 (CC Tryz.call83 (CC Tryz.call85 (CC Tryz.call121 CN))))) orders (packet_writer_subs_den p0 p1) hh

/-- (*aqueduct/packet.writer).some -/
def packet_writer_some (p0 : Option Addr) (p1 : Int) : HM (Unit) :=
  HM.bind (α := Unit) (HM.ite (p1 == 0) (
  HM.bind (α := Unit) (HM.callN Tryz.prog [] 84 #[.pointer p0, .int .u8 130]) fun x2 =>
  HM.pure ()) (
  HM.bind (α := Unit) (HM.ite (decide (64 < (p1 : Int))) (
  HM.bind (α := Unit) (HM.callN Tryz.prog [] 84 #[.pointer p0, .int .u8 149]) fun x4 =>
  HM.pure ()) (
  HM.pure ())) fun x3 =>
  HM.pure ())) fun x1 =>
  HM.pure ()

theorem packet_writer_some_den (p0 : Option Addr) (p1 : Int) : denFn Tryz.prog [84] 14 [0, 1, 4, 9] [0, 1, 4, 9] Tryz.f170.results.toList [] (bodyOf Tryz.f170) [Kind.val (.one .ptr) p0, Kind.val (.one (.int .i64)) p1] = packet_writer_some p0 p1 := by kernel_rfl
theorem packet_writer_some_calls (p0 : Option Addr) (p1 : Int) (h : Heap) (Q : Value → Heap → Prop) (hh : packet_writer_some p0 p1 h fun x h' => Q (.tuple #[]) h') :
    HCalls Tryz.prog 170 #[.pointer p0, .int .i64 p1] h Q :=
  calls_of_eq Tryz.func170 (by kernel_rfl) Tryz.ntmps170 (by kernel_rfl) (CC Tryz.call84 CN) orders (packet_writer_some_den p0 p1) hh

/-- aqueduct/aqueductref05.low -/
def ref05_low (p0 : Int) : HM (Int × Unit) :=
  HM.req (4 ≠ (0 : Int)) <|
  HM.bind (α := Int × Unit) (HM.ite (decide ((Int.tmod p0 4) < (0 : Int))) (
  HM.pure (IntKind.wrap .i64 ((Int.tmod p0 4) + 4), ())) (
  HM.pure (Int.tmod p0 4, ()))) fun x1 =>
  HM.pure (x1.1, ())

theorem ref05_low_den (p0 : Int) : denFn Tryz.prog [] 10 [0, 2, 6] [0, 6] Tryz.f171.results.toList [.one (.int .i64)] (bodyOf Tryz.f171) [Kind.val (.one (.int .i64)) p0] = ref05_low p0 := by kernel_rfl
theorem ref05_low_calls (p0 : Int) (h : Heap) (Q : Value → Heap → Prop) (hh : ref05_low p0 h fun x h' => Q (.int .i64 x.1) h') :
    HCalls Tryz.prog 171 #[.int .i64 p0] h Q :=
  calls_of_eq Tryz.func171 (by kernel_rfl) Tryz.ntmps171 (by kernel_rfl) CN orders (ref05_low_den p0) hh

/-- aqueduct/aqueductref05.data -/
def ref05_data (p0 : ByteArray × Int × Unit) (p1 : ByteArray) : HM ((ByteArray × Int × Unit) × Unit) :=
  HM.bind (α := Nat) (HM.new (.cells #[.string p0.1, .int .i64 p0.2.1] 209)) fun x1 =>
  HM.bind (α := Nat) (HM.new (.cells #[.string (ByteArray.mk #[]), .int .i64 0] 209)) fun x2 =>
  HM.bind (α := ByteArray × Int × Unit) (HM.callN Tryz.prog [.one .str, .one (.int .i64)] 204 #[.string p1]) fun x3 =>
  HM.bind (α := ByteArray × Int × Unit) (HM.loadN [.str, .int .i64] ⟨x1, 0, none⟩) fun x4 =>
  HM.bind (α := ByteArray × Int × Unit) (HM.call1 Tryz.prog (.agg [.str, .int .i64]) 134 #[.agg #[.string x4.1, .int .i64 x4.2.1], .string x3.1, .int .i64 x3.2.1]) fun x5 =>
  HM.bind (α := Unit) (HM.storeN ⟨x2, 0, none⟩ [.string x5.1, .int .i64 x5.2.1]) fun _ =>
  HM.bind (α := ByteArray × Int × Unit) (HM.loadN [.str, .int .i64] ⟨x2, 0, none⟩) fun x6 =>
  HM.pure ((x6.1, x6.2.1, ()), ())

theorem ref05_data_den (p0 : ByteArray × Int × Unit) (p1 : ByteArray) : denFn Tryz.prog [204, 134] 16 [0, 1, 2, 4, 5, 6] [0, 1, 2, 4, 5, 6] Tryz.f172.results.toList [.agg [.str, .int .i64]] (bodyOf Tryz.f172) [Kind.val (.agg [.str, .int .i64]) p0, Kind.val (.one .str) p1] = ref05_data p0 p1 := by kernel_rfl
theorem ref05_data_calls (p0 : ByteArray × Int × Unit) (p1 : ByteArray) (h : Heap) (Q : Value → Heap → Prop) (hh : ref05_data p0 p1 h fun x h' => Q (.agg #[.string x.1.1, .int .i64 x.1.2.1]) h') :
    HCalls Tryz.prog 172 #[.agg #[.string p0.1, .int .i64 p0.2.1], .string p1] h Q :=
  calls_of_eq Tryz.func172 (by kernel_rfl) Tryz.ntmps172 (by kernel_rfl) (CC Tryz.call204 (CC Tryz.call134 CN)) orders (ref05_data_den p0 p1) hh

/-- aqueduct/aqueductref04.Put -/
def ref04_Put (p0 : Slc) : HM (ByteArray × Int × Unit) :=
  HM.ite (decide (64 < (((p0.len : Nat) : Int) : Int))) (
  HM.pure (ByteArray.mk #[], 149, ())) (
  HM.bind (α := (ByteArray × Int × Unit) ⊕ (ByteArray × Int × Unit)) (HM.loop (σ := ByteArray × Int × Unit) (τ := (ByteArray × Int × Unit) ⊕ (ByteArray × Int × Unit)) (fun x2 =>
  HM.ite (decide (x2.2.1 < (((p0.len : Nat) : Int) : Int))) (
  HM.bind (α := Addr) (HM.idx p0.a p0.len x2.2.1 4) fun x3 =>
  HM.bind (α := Int) (HM.load1 (.int .i64) (Addr.add x3 0)) fun x4 =>
  HM.bind (α := Int) (HM.call1 Tryz.prog (.one (.int .i64)) 205 #[.int .i64 x4]) fun x5 =>
  HM.ite (x5 == 0) (
  HM.pure (.inr (.inr (ByteArray.mk #[], 129, ())))) (
  HM.bind (α := Addr) (HM.idx p0.a p0.len x2.2.1 4) fun x6 =>
  HM.bind (α := Int) (HM.load1 (.int .i64) (Addr.add x6 0)) fun x7 =>
  HM.bind (α := Bool) (HM.call1 Tryz.prog (.one .bool) 206 #[.slice p0.a p0.len p0.cap, .int .i64 x2.2.1, .int .i64 x7]) fun x8 =>
  HM.ite x8 (
  HM.pure (.inr (.inr (ByteArray.mk #[], 130, ())))) (
  HM.bind (α := Addr) (HM.idx p0.a p0.len x2.2.1 4) fun x9 =>
  HM.bind (α := Int × Int × ByteArray × ByteArray × Unit) (HM.loadN [.int .i64, .int .i64, .str, .str] x9) fun x10 =>
  HM.bind (α := ByteArray × Int × Unit) (HM.callN Tryz.prog [.one .str, .one (.int .i64)] 207 #[.agg #[.int .i64 x10.1, .int .i64 x10.2.1, .string x10.2.2.1, .string x10.2.2.2.1]]) fun x11 =>
  HM.ite (!(x11.2.1 == 0)) (
  HM.pure (.inr (.inr (ByteArray.mk #[], x11.2.1, ())))) (
  HM.bind (α := Addr) (HM.idx p0.a p0.len x2.2.1 4) fun x12 =>
  HM.bind (α := Int) (HM.load1 (.int .i64) (Addr.add x12 0)) fun x13 =>
  HM.bind (α := ByteArray × Int × Unit) (HM.callN Tryz.prog [.one .str, .one (.int .i64)] 94 #[.int .i64 x13]) fun x14 =>
  HM.req (ByteArray.size x2.1 + ByteArray.size x14.1 ≤ 9223372036854775807) <|
  HM.req (ByteArray.size (x2.1 ++ x14.1) + ByteArray.size x11.1 ≤ 9223372036854775807) <|
  HM.pure (.inl ((x2.1 ++ x14.1) ++ x11.1, IntKind.wrap .i64 (x2.2.1 + 1), ())))))) (
  HM.pure (.inr (.inl (x2.1, x2.2.1, ()))))) (ByteArray.mk #[], 0, ())) (Sum.elim (fun x1 =>
  HM.bind (α := ByteArray × Int × Unit) (HM.callN Tryz.prog [.one .str, .one (.int .i64)] 94 #[.int .i64 ((ByteArray.size x1.1 : Nat) : Int)]) fun x15 =>
  HM.ite (!(x15.2.1 == 0)) (
  HM.pure (ByteArray.mk #[], 149, ())) (
  HM.req (ByteArray.size x15.1 + ByteArray.size x1.1 ≤ 9223372036854775807) <|
  HM.pure (x15.1 ++ x1.1, 0, ()))) HM.pure))

theorem ref04_Put_den (p0 : Slc) : denFn Tryz.prog [205, 206, 207, 94] 76 [0, 2, 3, 4, 5, 6, 7, 8, 9, 10, 12, 13, 16, 20, 30, 39, 49, 72] [0, 4, 5, 6, 7, 8, 9, 10, 12, 13, 16, 20, 30, 39, 49, 72] Tryz.f173.results.toList [.one .str, .one (.int .i64)] (bodyOf Tryz.f173) [Kind.val (.one .slc) p0] = ref04_Put p0 := by kernel_rfl
theorem ref04_Put_calls (p0 : Slc) (h : Heap) (Q : Value → Heap → Prop) (hh : ref04_Put p0 h fun x h' => Q (.tuple #[.string x.1, .int .i64 x.2.1]) h') :
    HCalls Tryz.prog 173 #[.slice p0.a p0.len p0.cap] h Q :=
  calls_of_eq Tryz.func173 (by kernel_rfl) Tryz.ntmps173 (by kernel_rfl) (CC Tryz.call205 (CC Tryz.call206 (CC Tryz.call207 (CC Tryz.call94 CN)))) orders (ref04_Put_den p0) hh

/-- aqueduct/aqueductref05.all -/
def ref05_all (p0 : Int) (p1 : Slc) : HM (Bool × Unit) :=
  HM.bind (α := (Int × Unit) ⊕ (Bool × Unit)) (HM.loop (σ := Int × Unit) (τ := (Int × Unit) ⊕ (Bool × Unit)) (fun x2 =>
  HM.ite (decide (x2.1 < (((p1.len : Nat) : Int) : Int))) (
  HM.bind (α := Addr) (HM.idx p1.a p1.len x2.1 4) fun x3 =>
  HM.bind (α := Int) (HM.load1 (.int .i64) (Addr.add x3 0)) fun x4 =>
  HM.bind (α := Bool) (HM.call1 Tryz.prog (.one .bool) 208 #[.int .i64 p0, .int .i64 x4]) fun x5 =>
  HM.ite (!x5) (
  HM.pure (.inr (.inr (false, ())))) (
  HM.pure (.inl (IntKind.wrap .i64 (x2.1 + 1), ())))) (
  HM.pure (.inr (.inl (x2.1, ()))))) (0, ())) (Sum.elim (fun x1 =>
  HM.pure (true, ())) HM.pure)

theorem ref05_all_den (p0 : Int) (p1 : Slc) : denFn Tryz.prog [208] 22 [0, 1, 4, 5, 6, 10, 21] [0, 1, 5, 6, 10, 21] Tryz.f174.results.toList [.one .bool] (bodyOf Tryz.f174) [Kind.val (.one (.int .i64)) p0, Kind.val (.one .slc) p1] = ref05_all p0 p1 := by kernel_rfl
theorem ref05_all_calls (p0 : Int) (p1 : Slc) (h : Heap) (Q : Value → Heap → Prop) (hh : ref05_all p0 p1 h fun x h' => Q (.bool x.1) h') :
    HCalls Tryz.prog 174 #[.int .i64 p0, .slice p1.a p1.len p1.cap] h Q :=
  calls_of_eq Tryz.func174 (by kernel_rfl) Tryz.ntmps174 (by kernel_rfl) (CC Tryz.call208 CN) orders (ref05_all_den p0 p1) hh

/-- aqueduct/aqueductref02.Put -/
def ref02_Put (p0 : ByteArray) : HM (ByteArray × Int × Unit) :=
  HM.bind (α := Int × Bool × Unit) (HM.callN Tryz.prog [.one (.int .i64), .one .bool] 158 #[.string p0]) fun x1 =>
  HM.ite x1.2.1 (
  HM.pure (ByteArray.mk #[], 129, ())) (
  HM.bind (α := ByteArray × Int × Unit) (HM.callN Tryz.prog [.one .str, .one (.int .i64)] 204 #[.string p0]) fun x2 =>
  HM.pure (x2.1, x2.2.1, ()))

theorem ref02_Put_den (p0 : ByteArray) : denFn Tryz.prog [158, 204] 16 [0, 2, 3, 5, 11] [0, 5, 11] Tryz.f175.results.toList [.one .str, .one (.int .i64)] (bodyOf Tryz.f175) [Kind.val (.one .str) p0] = ref02_Put p0 := by kernel_rfl
theorem ref02_Put_calls (p0 : ByteArray) (h : Heap) (Q : Value → Heap → Prop) (hh : ref02_Put p0 h fun x h' => Q (.tuple #[.string x.1, .int .i64 x.2.1]) h') :
    HCalls Tryz.prog 175 #[.string p0] h Q :=
  calls_of_eq Tryz.func175 (by kernel_rfl) Tryz.ntmps175 (by kernel_rfl) (CC Tryz.call158 (CC Tryz.call204 CN)) orders (ref02_Put_den p0) hh

/-- aqueduct/aqueductref05.some -/
def ref05_some (p0 : ByteArray × Int × Unit) (p1 : Int) : HM ((ByteArray × Int × Unit) × Unit) :=
  HM.bind (α := Nat) (HM.new (.cells #[.string p0.1, .int .i64 p0.2.1] 209)) fun x1 =>
  HM.bind (α := Nat) (HM.new (.cells #[.string (ByteArray.mk #[]), .int .i64 0] 209)) fun x2 =>
  HM.ite (p1 == 0) (
  HM.bind (α := ByteArray × Int × Unit) (HM.loadN [.str, .int .i64] ⟨x1, 0, none⟩) fun x3 =>
  HM.bind (α := ByteArray × Int × Unit) (HM.call1 Tryz.prog (.agg [.str, .int .i64]) 134 #[.agg #[.string x3.1, .int .i64 x3.2.1], .string (ByteArray.mk #[]), .int .i64 130]) fun x4 =>
  HM.bind (α := Unit) (HM.storeN ⟨x2, 0, none⟩ [.string x4.1, .int .i64 x4.2.1]) fun _ =>
  HM.bind (α := ByteArray × Int × Unit) (HM.loadN [.str, .int .i64] ⟨x2, 0, none⟩) fun x5 =>
  HM.pure ((x5.1, x5.2.1, ()), ())) (
  HM.ite (decide (64 < (p1 : Int))) (
  HM.bind (α := ByteArray × Int × Unit) (HM.loadN [.str, .int .i64] ⟨x1, 0, none⟩) fun x6 =>
  HM.bind (α := ByteArray × Int × Unit) (HM.call1 Tryz.prog (.agg [.str, .int .i64]) 134 #[.agg #[.string x6.1, .int .i64 x6.2.1], .string (ByteArray.mk #[]), .int .i64 149]) fun x7 =>
  HM.bind (α := Unit) (HM.storeN ⟨x2, 0, none⟩ [.string x7.1, .int .i64 x7.2.1]) fun _ =>
  HM.bind (α := ByteArray × Int × Unit) (HM.loadN [.str, .int .i64] ⟨x2, 0, none⟩) fun x8 =>
  HM.pure ((x8.1, x8.2.1, ()), ())) (
  HM.bind (α := ByteArray × Int × Unit) (HM.loadN [.str, .int .i64] ⟨x1, 0, none⟩) fun x9 =>
  HM.bind (α := Unit) (HM.storeN ⟨x2, 0, none⟩ [.string x9.1, .int .i64 x9.2.1]) fun _ =>
  HM.bind (α := ByteArray × Int × Unit) (HM.loadN [.str, .int .i64] ⟨x2, 0, none⟩) fun x10 =>
  HM.pure ((x10.1, x10.2.1, ()), ())))

theorem ref05_some_den (p0 : ByteArray × Int × Unit) (p1 : Int) : denFn Tryz.prog [134] 14 [0, 1, 2, 4, 6, 10] [0, 1, 2, 4, 6, 10] Tryz.f176.results.toList [.agg [.str, .int .i64]] (bodyOf Tryz.f176) [Kind.val (.agg [.str, .int .i64]) p0, Kind.val (.one (.int .i64)) p1] = ref05_some p0 p1 := by kernel_rfl
theorem ref05_some_calls (p0 : ByteArray × Int × Unit) (p1 : Int) (h : Heap) (Q : Value → Heap → Prop) (hh : ref05_some p0 p1 h fun x h' => Q (.agg #[.string x.1.1, .int .i64 x.1.2.1]) h') :
    HCalls Tryz.prog 176 #[.agg #[.string p0.1, .int .i64 p0.2.1], .int .i64 p1] h Q :=
  calls_of_eq Tryz.func176 (by kernel_rfl) Tryz.ntmps176 (by kernel_rfl) (CC Tryz.call134 CN) orders (ref05_some_den p0 p1) hh

/-- internal/stringslite.CutPrefix -/
def stringslite_CutPrefix (p0 : ByteArray) (p1 : ByteArray) : HM (ByteArray × Bool × Unit) :=
  HM.bind (α := Bool) (HM.call1 Tryz.prog (.one .bool) 209 #[.string p0, .string p1]) fun x1 =>
  HM.ite (!x1) (
  HM.pure (p0, false, ())) (
  HM.bind (α := ByteArray) (HM.substr p0 (some ((ByteArray.size p1 : Nat) : Int)) none) fun x2 =>
  HM.pure (x2, true, ()))

theorem stringslite_CutPrefix_den (p0 : ByteArray) (p1 : ByteArray) : denFn Tryz.prog [209] 15 [0, 1, 4, 5, 9] [0, 1, 4, 5, 9] Tryz.f177.results.toList [.one .str, .one .bool] (bodyOf Tryz.f177) [Kind.val (.one .str) p0, Kind.val (.one .str) p1] = stringslite_CutPrefix p0 p1 := by kernel_rfl
theorem stringslite_CutPrefix_calls (p0 : ByteArray) (p1 : ByteArray) (h : Heap) (Q : Value → Heap → Prop) (hh : stringslite_CutPrefix p0 p1 h fun x h' => Q (.tuple #[.string x.1, .bool x.2.1]) h') :
    HCalls Tryz.prog 177 #[.string p0, .string p1] h Q :=
  calls_of_eq Tryz.func177 (by kernel_rfl) Tryz.ntmps177 (by kernel_rfl) (CC Tryz.call209 CN) orders (stringslite_CutPrefix_den p0 p1) hh

/-- slices.EqualFunc[[]string,[]string,string,string] -/
def slices_EqualFunc (p0 : Slc) (p1 : Slc) (p2 : Value) : HM (Bool × Unit) :=
  HM.ite (!(((p0.len : Nat) : Int) == ((p1.len : Nat) : Int))) (
  HM.pure (false, ())) (
  HM.bind (α := (Int × Unit) ⊕ (Bool × Unit)) (HM.loop (σ := Int × Unit) (τ := (Int × Unit) ⊕ (Bool × Unit)) (fun x2 =>
  HM.ite (decide (x2.1 < (((p0.len : Nat) : Int) : Int))) (
  HM.bind (α := Addr) (HM.idx p0.a p0.len x2.1 1) fun x3 =>
  HM.bind (α := ByteArray) (HM.load1 .str x3) fun x4 =>
  HM.bind (α := Addr) (HM.idx p1.a p1.len x2.1 1) fun x5 =>
  HM.bind (α := ByteArray) (HM.load1 .str x5) fun x6 =>
  HM.bind (α := Bool) (HM.callV1 Tryz.prog (.one .bool) p2 #[.string x4, .string x6]) fun x7 =>
  HM.ite (!x7) (
  HM.pure (.inr (.inr (false, ())))) (
  HM.pure (.inl (IntKind.wrap .i64 (x2.1 + 1), ())))) (
  HM.pure (.inr (.inl (x2.1, ()))))) (0, ())) (Sum.elim (fun x1 =>
  HM.pure (true, ())) HM.pure))

theorem slices_EqualFunc_den (p0 : Slc) (p1 : Slc) (p2 : Value) : denFn Tryz.prog [] 32 [0, 1, 2, 6, 7, 8, 9, 14, 15, 16, 17, 18, 30] [0, 1, 2, 7, 8, 9, 14, 15, 16, 17, 18, 30] Tryz.f178.results.toList [.one .bool] (bodyOf Tryz.f178) [Kind.val (.one .slc) p0, Kind.val (.one .slc) p1, Kind.val (.one .any) p2] = slices_EqualFunc p0 p1 p2 := by kernel_rfl
theorem slices_EqualFunc_calls (p0 : Slc) (p1 : Slc) (p2 : Value) (h : Heap) (Q : Value → Heap → Prop) (hh : slices_EqualFunc p0 p1 p2 h fun x h' => Q (.bool x.1) h') :
    HCalls Tryz.prog 178 #[.slice p0.a p0.len p0.cap, .slice p1.a p1.len p1.cap, p2] h Q :=
  calls_of_eq Tryz.func178 (by kernel_rfl) Tryz.ntmps178 (by kernel_rfl) CN orders (slices_EqualFunc_den p0 p1 p2) hh

/-- aqueduct/topic.Match$1 -/
def topic_Match_f1 (p0 : ByteArray) (p1 : ByteArray) : HM (Bool × Unit) :=
  HM.bind (α := Bool × Unit) (HM.ite (decide (p0 = (ByteArray.mk #[43]))) (
  HM.pure (true, ())) (
  HM.pure (decide (p0 = p1), ()))) fun x1 =>
  HM.pure (x1.1, ())

theorem topic_Match_f1_den (p0 : ByteArray) (p1 : ByteArray) : denFn Tryz.prog [] 12 [0, 1, 4] [0, 1] Tryz.f179.results.toList [.one .bool] (bodyOf Tryz.f179) [Kind.val (.one .str) p0, Kind.val (.one .str) p1] = topic_Match_f1 p0 p1 := by kernel_rfl
theorem topic_Match_f1_calls (p0 : ByteArray) (p1 : ByteArray) (h : Heap) (Q : Value → Heap → Prop) (hh : topic_Match_f1 p0 p1 h fun x h' => Q (.bool x.1) h') :
    HCalls Tryz.prog 179 #[.string p0, .string p1] h Q :=
  calls_of_eq Tryz.func179 (by kernel_rfl) Tryz.ntmps179 (by kernel_rfl) CN orders (topic_Match_f1_den p0 p1) hh

/-- aqueduct/text.next -/
def text_next (p0 : ByteArray) : HM (Int × Unit) :=
  HM.bind (α := Int × Int × Unit) (HM.callN Tryz.prog [.one (.int .i32), .one (.int .i64)] 188 #[.string p0]) fun x1 =>
  HM.bind (α := Bool × Unit) (HM.ite (x1.1 == 0) (
  HM.pure (true, ())) (
  HM.ite (x1.1 == 65533) (
  HM.pure (decide (x1.2.1 < (2 : Int)), ())) (
  HM.pure (false, ())))) fun x2 =>
  HM.ite x2.1 (
  HM.pure (0, ())) (
  HM.pure (x1.2.1, ()))

theorem text_next_den (p0 : ByteArray) : denFn Tryz.prog [188] 21 [0, 2, 3, 4, 19] [0, 3, 4, 19] Tryz.f195.results.toList [.one (.int .i64)] (bodyOf Tryz.f195) [Kind.val (.one .str) p0] = text_next p0 := by kernel_rfl
theorem text_next_calls (p0 : ByteArray) (h : Heap) (Q : Value → Heap → Prop) (hh : text_next p0 h fun x h' => Q (.int .i64 x.1) h') :
    HCalls Tryz.prog 195 #[.string p0] h Q :=
  calls_of_eq Tryz.func195 (by kernel_rfl) Tryz.ntmps195 (by kernel_rfl) (CC Tryz.call188 CN) orders (text_next_den p0) hh

/-- aqueduct/aqueductref02.Char -/
def ref02_Char (p0 : ByteArray) (p1 : Int) : HM (Int × Unit) :=
  HM.bind (α := Int) (HM.strIdx p0 p1) fun x1 =>
  HM.bind (α := Bool × Unit) (HM.ite (decide (1 ≤ ((IntKind.wrap .i64 x1) : Int))) (
  HM.pure (decide ((IntKind.wrap .i64 x1) ≤ (127 : Int)), ())) (
  HM.pure (false, ()))) fun x2 =>
  HM.ite x2.1 (
  HM.pure (1, ())) (
  HM.bind (α := Bool) (HM.call1 Tryz.prog (.one .bool) 217 #[.string p0, .int .i64 (IntKind.wrap .i64 (p1 + 1)), .int .i64 128, .int .i64 191]) fun x3 =>
  HM.bind (α := Bool) (HM.call1 Tryz.prog (.one .bool) 217 #[.string p0, .int .i64 (IntKind.wrap .i64 (p1 + 2)), .int .i64 128, .int .i64 191]) fun x4 =>
  HM.bind (α := Bool) (HM.call1 Tryz.prog (.one .bool) 217 #[.string p0, .int .i64 (IntKind.wrap .i64 (p1 + 3)), .int .i64 128, .int .i64 191]) fun x5 =>
  HM.bind (α := Bool × Unit) (HM.ite (decide (194 ≤ ((IntKind.wrap .i64 x1) : Int))) (
  HM.ite (decide ((IntKind.wrap .i64 x1) ≤ (223 : Int))) (
  HM.pure (x3, ())) (
  HM.pure (false, ()))) (
  HM.pure (false, ()))) fun x6 =>
  HM.ite x6.1 (
  HM.pure (2, ())) (
  HM.bind (α := Bool × Unit) (HM.ite (decide (224 ≤ ((IntKind.wrap .i64 x1) : Int))) (
  HM.ite (decide ((IntKind.wrap .i64 x1) ≤ (239 : Int))) (
  HM.ite x3 (
  HM.pure (x4, ())) (
  HM.pure (false, ()))) (
  HM.pure (false, ()))) (
  HM.pure (false, ()))) fun x7 =>
  HM.ite x7.1 (
  HM.bind (α := Bool) (HM.call1 Tryz.prog (.one .bool) 217 #[.string p0, .int .i64 (IntKind.wrap .i64 (p1 + 1)), .int .i64 160, .int .i64 191]) fun x8 =>
  HM.bind (α := Bool) (HM.call1 Tryz.prog (.one .bool) 217 #[.string p0, .int .i64 (IntKind.wrap .i64 (p1 + 1)), .int .i64 128, .int .i64 159]) fun x9 =>
  HM.bind (α := Bool × Unit) (HM.ite ((IntKind.wrap .i64 x1) == 224) (
  HM.ite (!x8) (
  HM.pure (true, ())) (
  HM.ite ((IntKind.wrap .i64 x1) == 237) (
  HM.pure (!x9, ())) (
  HM.pure (false, ())))) (
  HM.ite ((IntKind.wrap .i64 x1) == 237) (
  HM.pure (!x9, ())) (
  HM.pure (false, ())))) fun x10 =>
  HM.ite x10.1 (
  HM.pure (0, ())) (
  HM.pure (3, ()))) (
  HM.bind (α := Bool × Unit) (HM.ite (decide (240 ≤ ((IntKind.wrap .i64 x1) : Int))) (
  HM.ite (decide ((IntKind.wrap .i64 x1) ≤ (244 : Int))) (
  HM.ite x3 (
  HM.ite x4 (
  HM.pure (x5, ())) (
  HM.pure (false, ()))) (
  HM.pure (false, ()))) (
  HM.pure (false, ()))) (
  HM.pure (false, ()))) fun x11 =>
  HM.ite x11.1 (
  HM.bind (α := Bool) (HM.call1 Tryz.prog (.one .bool) 217 #[.string p0, .int .i64 (IntKind.wrap .i64 (p1 + 1)), .int .i64 144, .int .i64 191]) fun x12 =>
  HM.bind (α := Bool) (HM.call1 Tryz.prog (.one .bool) 217 #[.string p0, .int .i64 (IntKind.wrap .i64 (p1 + 1)), .int .i64 128, .int .i64 143]) fun x13 =>
  HM.bind (α := Bool × Unit) (HM.ite ((IntKind.wrap .i64 x1) == 240) (
  HM.ite (!x12) (
  HM.pure (true, ())) (
  HM.ite ((IntKind.wrap .i64 x1) == 244) (
  HM.pure (!x13, ())) (
  HM.pure (false, ())))) (
  HM.ite ((IntKind.wrap .i64 x1) == 244) (
  HM.pure (!x13, ())) (
  HM.pure (false, ())))) fun x14 =>
  HM.ite x14.1 (
  HM.pure (0, ())) (
  HM.pure (4, ()))) (
  HM.pure (0, ())))))

theorem ref02_Char_den (p0 : ByteArray) (p1 : Int) : denFn Tryz.prog [217] 115 [0, 1, 4, 5, 6, 7, 8, 9, 10, 11, 12, 22, 43, 55, 77, 92, 114] [0, 1, 5, 6, 7, 8, 9, 10, 11, 12, 22, 43, 55, 77, 92, 114] Tryz.f196.results.toList [.one (.int .i64)] (bodyOf Tryz.f196) [Kind.val (.one .str) p0, Kind.val (.one (.int .i64)) p1] = ref02_Char p0 p1 := by kernel_rfl
theorem ref02_Char_calls (p0 : ByteArray) (p1 : Int) (h : Heap) (Q : Value → Heap → Prop) (hh : ref02_Char p0 p1 h fun x h' => Q (.int .i64 x.1) h') :
    HCalls Tryz.prog 196 #[.string p0, .int .i64 p1] h Q :=
  calls_of_eq Tryz.func196 (by kernel_rfl) Tryz.ntmps196 (by kernel_rfl) (CC Tryz.call217 CN) orders (ref02_Char_den p0 p1) hh

/-- aqueduct/text.Put -/
def text_Put (p0 : ByteArray) : HM (ByteArray × Int × Unit) :=
  HM.bind (α := Int × Bool × Unit) (HM.callN Tryz.prog [.one (.int .i64), .one .bool] 157 #[.string p0]) fun x1 =>
  HM.ite x1.2.1 (
  HM.pure (ByteArray.mk #[], 129, ())) (
  HM.bind (α := ByteArray × Int × Unit) (HM.callN Tryz.prog [.one .str, .one (.int .u8)] 198 #[.string p0]) fun x2 =>
  HM.pure (x2.1, x2.2.1, ()))

theorem text_Put_den (p0 : ByteArray) : denFn Tryz.prog [157, 198] 16 [0, 2, 3, 5, 11] [0, 5, 11] Tryz.f197.results.toList [.one .str, .one (.int .u8)] (bodyOf Tryz.f197) [Kind.val (.one .str) p0] = text_Put p0 := by kernel_rfl
theorem text_Put_calls (p0 : ByteArray) (h : Heap) (Q : Value → Heap → Prop) (hh : text_Put p0 h fun x h' => Q (.tuple #[.string x.1, .int .u8 x.2.1]) h') :
    HCalls Tryz.prog 197 #[.string p0] h Q :=
  calls_of_eq Tryz.func197 (by kernel_rfl) Tryz.ntmps197 (by kernel_rfl) (CC Tryz.call157 (CC Tryz.call198 CN)) orders (text_Put_den p0) hh

/-- aqueduct/varint.Data -/
def varint_Data (p0 : ByteArray) : HM (ByteArray × Int × Unit) :=
  HM.ite (decide (65535 < (((ByteArray.size p0 : Nat) : Int) : Int))) (
  HM.pure (ByteArray.mk #[], 149, ())) (
  HM.bind (α := ByteArray × Int × Unit) (HM.callN Tryz.prog [.one .str, .one (.int .u8)] 88 #[.int .i64 2, .int .i64 ((ByteArray.size p0 : Nat) : Int)]) fun x1 =>
  HM.req (ByteArray.size x1.1 + ByteArray.size p0 ≤ 9223372036854775807) <|
  HM.pure (x1.1 ++ p0, 0, ()))

theorem varint_Data_den (p0 : ByteArray) : denFn Tryz.prog [88] 18 [0, 2, 3, 4, 8] [0, 4, 8] Tryz.f198.results.toList [.one .str, .one (.int .u8)] (bodyOf Tryz.f198) [Kind.val (.one .str) p0] = varint_Data p0 := by kernel_rfl
theorem varint_Data_calls (p0 : ByteArray) (h : Heap) (Q : Value → Heap → Prop) (hh : varint_Data p0 h fun x h' => Q (.tuple #[.string x.1, .int .u8 x.2.1]) h') :
    HCalls Tryz.prog 198 #[.string p0] h Q :=
  calls_of_eq Tryz.func198 (by kernel_rfl) Tryz.ntmps198 (by kernel_rfl) (CC Tryz.call88 CN) orders (varint_Data_den p0) hh

/-- aqueduct/prop.KindOf -/
def prop_KindOf (p0 : Int) : HM (Int × Unit) :=
  HM.bind (α := Bool × Unit) (HM.ite (p0 == 1) (
  HM.pure (p0 == 1, ())) (
  HM.bind (α := Bool × Unit) (HM.ite (p0 == 23) (
  HM.pure (p0 == 23, ())) (
  HM.bind (α := Bool × Unit) (HM.ite (p0 == 25) (
  HM.pure (p0 == 25, ())) (
  HM.bind (α := Bool × Unit) (HM.ite (p0 == 36) (
  HM.pure (p0 == 36, ())) (
  HM.bind (α := Bool × Unit) (HM.ite (p0 == 37) (
  HM.pure (p0 == 37, ())) (
  HM.bind (α := Bool × Unit) (HM.ite (p0 == 40) (
  HM.pure (p0 == 40, ())) (
  HM.bind (α := Bool × Unit) (HM.ite (p0 == 41) (
  HM.pure (p0 == 41, ())) (
  HM.pure (p0 == 42, ()))) fun x7 =>
  HM.pure (x7.1, ()))) fun x6 =>
  HM.pure (x6.1, ()))) fun x5 =>
  HM.pure (x5.1, ()))) fun x4 =>
  HM.pure (x4.1, ()))) fun x3 =>
  HM.pure (x3.1, ()))) fun x2 =>
  HM.pure (x2.1, ()))) fun x1 =>
  HM.ite x1.1 (
  HM.pure (1, ())) (
  HM.bind (α := Bool × Unit) (HM.ite (p0 == 19) (
  HM.pure (p0 == 19, ())) (
  HM.bind (α := Bool × Unit) (HM.ite (p0 == 33) (
  HM.pure (p0 == 33, ())) (
  HM.bind (α := Bool × Unit) (HM.ite (p0 == 34) (
  HM.pure (p0 == 34, ())) (
  HM.pure (p0 == 35, ()))) fun x10 =>
  HM.pure (x10.1, ()))) fun x9 =>
  HM.pure (x9.1, ()))) fun x8 =>
  HM.ite x8.1 (
  HM.pure (2, ())) (
  HM.bind (α := Bool × Unit) (HM.ite (p0 == 2) (
  HM.pure (p0 == 2, ())) (
  HM.bind (α := Bool × Unit) (HM.ite (p0 == 17) (
  HM.pure (p0 == 17, ())) (
  HM.bind (α := Bool × Unit) (HM.ite (p0 == 24) (
  HM.pure (p0 == 24, ())) (
  HM.pure (p0 == 39, ()))) fun x13 =>
  HM.pure (x13.1, ()))) fun x12 =>
  HM.pure (x12.1, ()))) fun x11 =>
  HM.ite x11.1 (
  HM.pure (3, ())) (
  HM.ite (p0 == 11) (
  HM.pure (4, ())) (
  HM.bind (α := Bool × Unit) (HM.ite (p0 == 9) (
  HM.pure (p0 == 9, ())) (
  HM.pure (p0 == 22, ()))) fun x14 =>
  HM.ite x14.1 (
  HM.pure (5, ())) (
  HM.bind (α := Bool × Unit) (HM.ite (p0 == 3) (
  HM.pure (p0 == 3, ())) (
  HM.bind (α := Bool × Unit) (HM.ite (p0 == 8) (
  HM.pure (p0 == 8, ())) (
  HM.bind (α := Bool × Unit) (HM.ite (p0 == 18) (
  HM.pure (p0 == 18, ())) (
  HM.bind (α := Bool × Unit) (HM.ite (p0 == 21) (
  HM.pure (p0 == 21, ())) (
  HM.bind (α := Bool × Unit) (HM.ite (p0 == 26) (
  HM.pure (p0 == 26, ())) (
  HM.bind (α := Bool × Unit) (HM.ite (p0 == 28) (
  HM.pure (p0 == 28, ())) (
  HM.pure (p0 == 31, ()))) fun x20 =>
  HM.pure (x20.1, ()))) fun x19 =>
  HM.pure (x19.1, ()))) fun x18 =>
  HM.pure (x18.1, ()))) fun x17 =>
  HM.pure (x17.1, ()))) fun x16 =>
  HM.pure (x16.1, ()))) fun x15 =>
  HM.ite x15.1 (
  HM.pure (6, ())) (
  HM.ite (p0 == 38) (
  HM.pure (7, ())) (
  HM.pure (0, ()))))))))

theorem prop_KindOf_den (p0 : Int) : denFn Tryz.prog [] 38 [0, 2, 3, 4, 13, 18, 23, 25, 28, 36] [0, 3, 4, 13, 18, 23, 25, 28, 36] Tryz.f199.results.toList [.one (.int .i64)] (bodyOf Tryz.f199) [Kind.val (.one (.int .i64)) p0] = prop_KindOf p0 := by kernel_rfl
theorem prop_KindOf_calls (p0 : Int) (h : Heap) (Q : Value → Heap → Prop) (hh : prop_KindOf p0 h fun x h' => Q (.int .i64 x.1) h') :
    HCalls Tryz.prog 199 #[.int .i64 p0] h Q :=
  calls_of_eq Tryz.func199 (by kernel_rfl) Tryz.ntmps199 (by kernel_rfl) CN orders (prop_KindOf_den p0) hh

/-- aqueduct/prop.has -/
def prop_has (p0 : Slc) (p1 : Int) : HM (Bool × Unit) :=
  HM.bind (α := (Int × Int × ByteArray × ByteArray × Unit) × Bool × Unit) (HM.callN Tryz.prog [.agg [.int .i64, .int .i64, .str, .str], .one .bool] 218 #[.slice p0.a p0.len p0.cap, .int .i64 p1]) fun x1 =>
  HM.bind (α := Nat) (HM.new (.cells #[.int .i64 0, .int .i64 0, .string (ByteArray.mk #[]), .string (ByteArray.mk #[])] 44)) fun x2 =>
  HM.bind (α := Unit) (HM.storeN ⟨x2, 0, none⟩ [.int .i64 x1.1.1, .int .i64 x1.1.2.1, .string x1.1.2.2.1, .string x1.1.2.2.2.1]) fun _ =>
  HM.bind (α := Bool × Unit) (HM.ite x1.2.1 (
  HM.pure (!(p1 == 38), ())) (
  HM.pure (false, ()))) fun x3 =>
  HM.pure (x3.1, ())

theorem prop_has_den (p0 : Slc) (p1 : Int) : denFn Tryz.prog [218] 18 [0, 1, 4, 6] [0, 1, 6] Tryz.f200.results.toList [.one .bool] (bodyOf Tryz.f200) [Kind.val (.one .slc) p0, Kind.val (.one (.int .i64)) p1] = prop_has p0 p1 := by kernel_rfl
theorem prop_has_calls (p0 : Slc) (p1 : Int) (h : Heap) (Q : Value → Heap → Prop) (hh : prop_has p0 p1 h fun x h' => Q (.bool x.1) h') :
    HCalls Tryz.prog 200 #[.slice p0.a p0.len p0.cap, .int .i64 p1] h Q :=
  calls_of_eq Tryz.func200 (by kernel_rfl) Tryz.ntmps200 (by kernel_rfl) (CC Tryz.call218 CN) orders (prop_has_den p0 p1) hh

/-- (aqueduct/prop.Property).value -/
def prop_Property_value (p0 : Int × Int × ByteArray × ByteArray × Unit) : HM (ByteArray × Int × Unit) :=
  HM.bind (α := Nat) (HM.new (.cells #[.int .i64 p0.1, .int .i64 p0.2.1, .string p0.2.2.1, .string p0.2.2.2.1] 44)) fun x1 =>
  HM.bind (α := Int) (HM.load1 (.int .i64) (Addr.add ⟨x1, 0, none⟩ 0)) fun x2 =>
  HM.bind (α := Int) (HM.call1 Tryz.prog (.one (.int .i64)) 199 #[.int .i64 x2]) fun x3 =>
  HM.ite (x3 == 4) (
  HM.bind (α := Int) (HM.load1 (.int .i64) (Addr.add ⟨x1, 0, none⟩ 1)) fun x4 =>
  HM.bind (α := ByteArray × Int × Unit) (HM.callN Tryz.prog [.one .str, .one (.int .u8)] 89 #[.int .i64 x4]) fun x5 =>
  HM.pure (x5.1, x5.2.1, ())) (
  HM.ite (x3 == 5) (
  HM.bind (α := ByteArray) (HM.load1 .str (Addr.add ⟨x1, 0, none⟩ 2)) fun x6 =>
  HM.bind (α := ByteArray × Int × Unit) (HM.callN Tryz.prog [.one .str, .one (.int .u8)] 198 #[.string x6]) fun x7 =>
  HM.pure (x7.1, x7.2.1, ())) (
  HM.ite (x3 == 6) (
  HM.bind (α := ByteArray) (HM.load1 .str (Addr.add ⟨x1, 0, none⟩ 2)) fun x8 =>
  HM.bind (α := ByteArray × Int × Unit) (HM.callN Tryz.prog [.one .str, .one (.int .u8)] 197 #[.string x8]) fun x9 =>
  HM.pure (x9.1, x9.2.1, ())) (
  HM.ite (x3 == 7) (
  HM.bind (α := ByteArray) (HM.load1 .str (Addr.add ⟨x1, 0, none⟩ 2)) fun x10 =>
  HM.bind (α := ByteArray × Int × Unit) (HM.callN Tryz.prog [.one .str, .one (.int .u8)] 197 #[.string x10]) fun x11 =>
  HM.ite (!(x11.2.1 == 0)) (
  HM.pure (ByteArray.mk #[], x11.2.1, ())) (
  HM.bind (α := ByteArray) (HM.load1 .str (Addr.add ⟨x1, 0, none⟩ 3)) fun x12 =>
  HM.bind (α := ByteArray × Int × Unit) (HM.callN Tryz.prog [.one .str, .one (.int .u8)] 197 #[.string x12]) fun x13 =>
  HM.req (ByteArray.size x11.1 + ByteArray.size x13.1 ≤ 9223372036854775807) <|
  HM.pure (x11.1 ++ x13.1, x13.2.1, ()))) (
  HM.bind (α := Int) (HM.load1 (.int .i64) (Addr.add ⟨x1, 0, none⟩ 1)) fun x14 =>
  HM.bind (α := Int) (HM.call1 Tryz.prog (.one (.int .i64)) 219 #[.int .i64 x3]) fun x15 =>
  HM.bind (α := Int) (HM.load1 (.int .i64) (Addr.add ⟨x1, 0, none⟩ 1)) fun x16 =>
  HM.req ((.int .i64 x16 : Value) = .int .i64 x14) <|
  HM.bind (α := ByteArray × Int × Unit) (HM.callN Tryz.prog [.one .str, .one (.int .u8)] 88 #[.int .i64 x15, .int .i64 x14]) fun x17 =>
  HM.pure (x17.1, x17.2.1, ())))))

theorem prop_Property_value_den (p0 : Int × Int × ByteArray × ByteArray × Unit) : denFn Tryz.prog [199, 89, 198, 197, 219, 88] 61 [0, 1, 2, 3, 4, 5, 6, 7, 11, 19, 26, 33, 40, 49] [0, 1, 4, 5, 6, 7, 11, 19, 26, 33, 40, 49] Tryz.f201.results.toList [.one .str, .one (.int .u8)] (bodyOf Tryz.f201) [Kind.val (.agg [.int .i64, .int .i64, .str, .str]) p0] = prop_Property_value p0 := by kernel_rfl
theorem prop_Property_value_calls (p0 : Int × Int × ByteArray × ByteArray × Unit) (h : Heap) (Q : Value → Heap → Prop) (hh : prop_Property_value p0 h fun x h' => Q (.tuple #[.string x.1, .int .u8 x.2.1]) h') :
    HCalls Tryz.prog 201 #[.agg #[.int .i64 p0.1, .int .i64 p0.2.1, .string p0.2.2.1, .string p0.2.2.2.1]] h Q :=
  calls_of_eq Tryz.func201 (by kernel_rfl) Tryz.ntmps201 (by kernel_rfl) (CC Tryz.call199 (CC Tryz.call89 (CC Tryz.call198 (CC Tryz.call197 (CC Tryz.call219 (CC Tryz.call88 CN)))))) orders (prop_Property_value_den p0) hh

/-- slices.IndexFunc[[]aqueduct/prop.Property,aqueduct/prop.Property] -/
def slices_IndexFunc_Property (p0 : Slc) (p1 : Value) : HM (Int × Unit) :=
  HM.bind (α := (Int × Unit) ⊕ (Int × Unit)) (HM.loop (σ := Int × Unit) (τ := (Int × Unit) ⊕ (Int × Unit)) (fun x2 =>
  HM.ite (decide (x2.1 < (((p0.len : Nat) : Int) : Int))) (
  HM.bind (α := Addr) (HM.idx p0.a p0.len x2.1 4) fun x3 =>
  HM.bind (α := Int × Int × ByteArray × ByteArray × Unit) (HM.loadN [.int .i64, .int .i64, .str, .str] x3) fun x4 =>
  HM.bind (α := Bool) (HM.callV1 Tryz.prog (.one .bool) p1 #[.agg #[.int .i64 x4.1, .int .i64 x4.2.1, .string x4.2.2.1, .string x4.2.2.2.1]]) fun x5 =>
  HM.ite x5 (
  HM.pure (.inr (.inr (x2.1, ())))) (
  HM.pure (.inl (IntKind.wrap .i64 (x2.1 + 1), ())))) (
  HM.pure (.inr (.inl (x2.1, ()))))) (0, ())) (Sum.elim (fun x1 =>
  HM.pure ((-1), ())) HM.pure)

theorem slices_IndexFunc_Property_den (p0 : Slc) (p1 : Value) : denFn Tryz.prog [] 19 [0, 1, 4, 5, 7, 8, 9, 16] [0, 1, 5, 7, 8, 9, 16] Tryz.f202.results.toList [.one (.int .i64)] (bodyOf Tryz.f202) [Kind.val (.one .slc) p0, Kind.val (.one .any) p1] = slices_IndexFunc_Property p0 p1 := by kernel_rfl
theorem slices_IndexFunc_Property_calls (p0 : Slc) (p1 : Value) (h : Heap) (Q : Value → Heap → Prop) (hh : slices_IndexFunc_Property p0 p1 h fun x h' => Q (.int .i64 x.1) h') :
    HCalls Tryz.prog 202 #[.slice p0.a p0.len p0.cap, p1] h Q :=
  calls_of_eq Tryz.func202 (by kernel_rfl) Tryz.ntmps202 (by kernel_rfl) CN orders (slices_IndexFunc_Property_den p0 p1) hh

/-- slices.Contains[[]int,int] -/
def slices_Contains (p0 : Slc) (p1 : Int) : HM (Bool × Unit) :=
  HM.bind (α := Int) (HM.call1 Tryz.prog (.one (.int .i64)) 220 #[.slice p0.a p0.len p0.cap, .int .i64 p1]) fun x1 =>
  HM.pure (decide (0 ≤ (x1 : Int)), ())

theorem slices_Contains_den (p0 : Slc) (p1 : Int) : denFn Tryz.prog [220] 9 [0, 1, 4] [0, 1] Tryz.f203.results.toList [.one .bool] (bodyOf Tryz.f203) [Kind.val (.one .slc) p0, Kind.val (.one (.int .i64)) p1] = slices_Contains p0 p1 := by kernel_rfl
theorem slices_Contains_calls (p0 : Slc) (p1 : Int) (h : Heap) (Q : Value → Heap → Prop) (hh : slices_Contains p0 p1 h fun x h' => Q (.bool x.1) h') :
    HCalls Tryz.prog 203 #[.slice p0.a p0.len p0.cap, .int .i64 p1] h Q :=
  calls_of_eq Tryz.func203 (by kernel_rfl) Tryz.ntmps203 (by kernel_rfl) (CC Tryz.call220 CN) orders (slices_Contains_den p0 p1) hh

/-- aqueduct/aqueductref01.Data -/
def ref01_Data (p0 : ByteArray) : HM (ByteArray × Int × Unit) :=
  HM.ite (decide (65535 < (((ByteArray.size p0 : Nat) : Int) : Int))) (
  HM.pure (ByteArray.mk #[], 149, ())) (
  HM.bind (α := ByteArray × Int × Unit) (HM.callN Tryz.prog [.one .str, .one (.int .i64)] 93 #[.int .i64 2, .int .i64 ((ByteArray.size p0 : Nat) : Int)]) fun x1 =>
  HM.req (ByteArray.size x1.1 + ByteArray.size p0 ≤ 9223372036854775807) <|
  HM.pure (x1.1 ++ p0, 0, ()))

theorem ref01_Data_den (p0 : ByteArray) : denFn Tryz.prog [93] 18 [0, 2, 3, 4, 8] [0, 4, 8] Tryz.f204.results.toList [.one .str, .one (.int .i64)] (bodyOf Tryz.f204) [Kind.val (.one .str) p0] = ref01_Data p0 := by kernel_rfl
theorem ref01_Data_calls (p0 : ByteArray) (h : Heap) (Q : Value → Heap → Prop) (hh : ref01_Data p0 h fun x h' => Q (.tuple #[.string x.1, .int .i64 x.2.1]) h') :
    HCalls Tryz.prog 204 #[.string p0] h Q :=
  calls_of_eq Tryz.func204 (by kernel_rfl) Tryz.ntmps204 (by kernel_rfl) (CC Tryz.call93 CN) orders (ref01_Data_den p0) hh

/-- aqueduct/aqueductref04.KindOf -/
def ref04_KindOf (p0 : Int) : HM (Int × Unit) :=
  HM.bind (α := Nat) (HM.new (.cells #[.int .i64 1, .int .i64 23, .int .i64 25, .int .i64 36, .int .i64 37, .int .i64 40, .int .i64 41, .int .i64 42] 3)) fun x1 =>
  HM.bind (α := Bool) (HM.call1 Tryz.prog (.one .bool) 221 #[.int .i64 p0, .slice (some ⟨x1, 0, none⟩) 8 8]) fun x2 =>
  HM.bind (α := Nat) (HM.new (.cells #[.int .i64 19, .int .i64 33, .int .i64 34, .int .i64 35] 3)) fun x3 =>
  HM.bind (α := Bool) (HM.call1 Tryz.prog (.one .bool) 221 #[.int .i64 p0, .slice (some ⟨x3, 0, none⟩) 4 4]) fun x4 =>
  HM.bind (α := Nat) (HM.new (.cells #[.int .i64 2, .int .i64 17, .int .i64 24, .int .i64 39] 3)) fun x5 =>
  HM.bind (α := Bool) (HM.call1 Tryz.prog (.one .bool) 221 #[.int .i64 p0, .slice (some ⟨x5, 0, none⟩) 4 4]) fun x6 =>
  HM.bind (α := Nat) (HM.new (.cells #[.int .i64 9, .int .i64 22] 3)) fun x7 =>
  HM.bind (α := Bool) (HM.call1 Tryz.prog (.one .bool) 221 #[.int .i64 p0, .slice (some ⟨x7, 0, none⟩) 2 2]) fun x8 =>
  HM.bind (α := Nat) (HM.new (.cells #[.int .i64 3, .int .i64 8, .int .i64 18, .int .i64 21, .int .i64 26, .int .i64 28, .int .i64 31] 3)) fun x9 =>
  HM.bind (α := Bool) (HM.call1 Tryz.prog (.one .bool) 221 #[.int .i64 p0, .slice (some ⟨x9, 0, none⟩) 7 7]) fun x10 =>
  HM.ite x2 (
  HM.pure (1, ())) (
  HM.ite x4 (
  HM.pure (2, ())) (
  HM.ite x6 (
  HM.pure (3, ())) (
  HM.ite (p0 == 11) (
  HM.pure (4, ())) (
  HM.ite x8 (
  HM.pure (5, ())) (
  HM.ite x10 (
  HM.pure (6, ())) (
  HM.ite (p0 == 38) (
  HM.pure (7, ())) (
  HM.pure (0, ()))))))))

theorem ref04_KindOf_den (p0 : Int) : denFn Tryz.prog [221] 32 [0, 2, 3, 4, 5, 6, 7, 23, 24, 25, 27, 28, 29, 31] [0, 3, 4, 5, 6, 7, 23, 24, 25, 27, 28, 29, 31] Tryz.f205.results.toList [.one (.int .i64)] (bodyOf Tryz.f205) [Kind.val (.one (.int .i64)) p0] = ref04_KindOf p0 := by kernel_rfl
theorem ref04_KindOf_calls (p0 : Int) (h : Heap) (Q : Value → Heap → Prop) (hh : ref04_KindOf p0 h fun x h' => Q (.int .i64 x.1) h') :
    HCalls Tryz.prog 205 #[.int .i64 p0] h Q :=
  calls_of_eq Tryz.func205 (by kernel_rfl) Tryz.ntmps205 (by kernel_rfl) (CC Tryz.call221 CN) orders (ref04_KindOf_den p0) hh

/-- aqueduct/aqueductref04.twice -/
def ref04_twice (p0 : Slc) (p1 : Int) (p2 : Int) : HM (Bool × Unit) :=
  HM.ite (p2 == 38) (
  HM.pure (false, ())) (
  HM.bind (α := (Int × Unit) ⊕ (Bool × Unit)) (HM.loop (σ := Int × Unit) (τ := (Int × Unit) ⊕ (Bool × Unit)) (fun x2 =>
  HM.ite (decide (x2.1 < (p1 : Int))) (
  HM.bind (α := Addr) (HM.idx p0.a p0.len x2.1 4) fun x3 =>
  HM.bind (α := Int) (HM.load1 (.int .i64) (Addr.add x3 0)) fun x4 =>
  HM.ite (x4 == p2) (
  HM.pure (.inr (.inr (true, ())))) (
  HM.pure (.inl (IntKind.wrap .i64 (x2.1 + 1), ())))) (
  HM.pure (.inr (.inl (x2.1, ()))))) (0, ())) (Sum.elim (fun x1 =>
  HM.pure (false, ())) HM.pure))

theorem ref04_twice_den (p0 : Slc) (p1 : Int) (p2 : Int) : denFn Tryz.prog [] 22 [0, 1, 2, 6, 7, 9, 12, 21] [0, 1, 2, 7, 9, 12, 21] Tryz.f206.results.toList [.one .bool] (bodyOf Tryz.f206) [Kind.val (.one .slc) p0, Kind.val (.one (.int .i64)) p1, Kind.val (.one (.int .i64)) p2] = ref04_twice p0 p1 p2 := by kernel_rfl
theorem ref04_twice_calls (p0 : Slc) (p1 : Int) (p2 : Int) (h : Heap) (Q : Value → Heap → Prop) (hh : ref04_twice p0 p1 p2 h fun x h' => Q (.bool x.1) h') :
    HCalls Tryz.prog 206 #[.slice p0.a p0.len p0.cap, .int .i64 p1, .int .i64 p2] h Q :=
  calls_of_eq Tryz.func206 (by kernel_rfl) Tryz.ntmps206 (by kernel_rfl) CN orders (ref04_twice_den p0 p1 p2) hh

/-- aqueduct/aqueductref04.value -/
def ref04_value (p0 : Int × Int × ByteArray × ByteArray × Unit) : HM (ByteArray × Int × Unit) :=
  HM.bind (α := Nat) (HM.new (.cells #[.int .i64 p0.1, .int .i64 p0.2.1, .string p0.2.2.1, .string p0.2.2.2.1] 45)) fun x1 =>
  HM.bind (α := Int) (HM.load1 (.int .i64) (Addr.add ⟨x1, 0, none⟩ 0)) fun x2 =>
  HM.bind (α := Int) (HM.call1 Tryz.prog (.one (.int .i64)) 205 #[.int .i64 x2]) fun x3 =>
  HM.ite (x3 == 4) (
  HM.bind (α := Int) (HM.load1 (.int .i64) (Addr.add ⟨x1, 0, none⟩ 1)) fun x4 =>
  HM.bind (α := ByteArray × Int × Unit) (HM.callN Tryz.prog [.one .str, .one (.int .i64)] 94 #[.int .i64 x4]) fun x5 =>
  HM.pure (x5.1, x5.2.1, ())) (
  HM.ite (x3 == 5) (
  HM.bind (α := ByteArray) (HM.load1 .str (Addr.add ⟨x1, 0, none⟩ 2)) fun x6 =>
  HM.bind (α := ByteArray × Int × Unit) (HM.callN Tryz.prog [.one .str, .one (.int .i64)] 204 #[.string x6]) fun x7 =>
  HM.pure (x7.1, x7.2.1, ())) (
  HM.ite (x3 == 6) (
  HM.bind (α := ByteArray) (HM.load1 .str (Addr.add ⟨x1, 0, none⟩ 2)) fun x8 =>
  HM.bind (α := ByteArray × Int × Unit) (HM.callN Tryz.prog [.one .str, .one (.int .i64)] 175 #[.string x8]) fun x9 =>
  HM.pure (x9.1, x9.2.1, ())) (
  HM.ite (x3 == 7) (
  HM.bind (α := ByteArray) (HM.load1 .str (Addr.add ⟨x1, 0, none⟩ 2)) fun x10 =>
  HM.bind (α := ByteArray × Int × Unit) (HM.callN Tryz.prog [.one .str, .one (.int .i64)] 175 #[.string x10]) fun x11 =>
  HM.ite (!(x11.2.1 == 0)) (
  HM.pure (ByteArray.mk #[], x11.2.1, ())) (
  HM.bind (α := ByteArray) (HM.load1 .str (Addr.add ⟨x1, 0, none⟩ 3)) fun x12 =>
  HM.bind (α := ByteArray × Int × Unit) (HM.callN Tryz.prog [.one .str, .one (.int .i64)] 175 #[.string x12]) fun x13 =>
  HM.ite (!(x13.2.1 == 0)) (
  HM.pure (ByteArray.mk #[], x13.2.1, ())) (
  HM.req (ByteArray.size x11.1 + ByteArray.size x13.1 ≤ 9223372036854775807) <|
  HM.pure (x11.1 ++ x13.1, 0, ())))) (
  HM.bind (α := Int) (HM.call1 Tryz.prog (.one (.int .i64)) 222 #[.int .i64 x3]) fun x14 =>
  HM.bind (α := Int) (HM.load1 (.int .i64) (Addr.add ⟨x1, 0, none⟩ 1)) fun x15 =>
  HM.bind (α := ByteArray × Int × Unit) (HM.callN Tryz.prog [.one .str, .one (.int .i64)] 93 #[.int .i64 x14, .int .i64 x15]) fun x16 =>
  HM.pure (x16.1, x16.2.1, ())))))

theorem ref04_value_den (p0 : Int × Int × ByteArray × ByteArray × Unit) : denFn Tryz.prog [205, 94, 204, 175, 222, 93] 66 [0, 1, 2, 3, 4, 5, 6, 7, 8, 9, 13, 14, 21, 28, 35, 44, 53] [0, 1, 4, 5, 6, 7, 8, 9, 13, 14, 21, 28, 35, 44, 53] Tryz.f207.results.toList [.one .str, .one (.int .i64)] (bodyOf Tryz.f207) [Kind.val (.agg [.int .i64, .int .i64, .str, .str]) p0] = ref04_value p0 := by kernel_rfl
theorem ref04_value_calls (p0 : Int × Int × ByteArray × ByteArray × Unit) (h : Heap) (Q : Value → Heap → Prop) (hh : ref04_value p0 h fun x h' => Q (.tuple #[.string x.1, .int .i64 x.2.1]) h') :
    HCalls Tryz.prog 207 #[.agg #[.int .i64 p0.1, .int .i64 p0.2.1, .string p0.2.2.1, .string p0.2.2.2.1]] h Q :=
  calls_of_eq Tryz.func207 (by kernel_rfl) Tryz.ntmps207 (by kernel_rfl) (CC Tryz.call205 (CC Tryz.call94 (CC Tryz.call204 (CC Tryz.call175 (CC Tryz.call222 (CC Tryz.call93 CN)))))) orders (ref04_value_den p0) hh

/-- aqueduct/aqueductref05.Allowed -/
def ref05_Allowed (p0 : Int) (p1 : Int) : HM (Bool × Unit) :=
  HM.ite (p0 == 0) (
  HM.bind (α := Nat) (HM.new (.cells #[.int .i64 1, .int .i64 2, .int .i64 3, .int .i64 8, .int .i64 9, .int .i64 24, .int .i64 38] 3)) fun x1 =>
  HM.bind (α := Bool) (HM.call1 Tryz.prog (.one .bool) 223 #[.int .i64 p1, .slice (some ⟨x1, 0, none⟩) 7 7]) fun x2 =>
  HM.pure (x2, ())) (
  HM.ite (p0 == 1) (
  HM.bind (α := Nat) (HM.new (.cells #[.int .i64 17, .int .i64 21, .int .i64 22, .int .i64 23, .int .i64 25, .int .i64 33, .int .i64 34, .int .i64 38, .int .i64 39] 3)) fun x3 =>
  HM.bind (α := Bool) (HM.call1 Tryz.prog (.one .bool) 223 #[.int .i64 p1, .slice (some ⟨x3, 0, none⟩) 9 9]) fun x4 =>
  HM.pure (x4, ())) (
  HM.ite (p0 == 2) (
  HM.bind (α := Bool × Unit) (HM.bind (α := Nat) (HM.new (.cells #[.int .i64 17, .int .i64 18, .int .i64 19, .int .i64 21, .int .i64 22, .int .i64 26, .int .i64 28, .int .i64 31, .int .i64 33, .int .i64 34] 3)) fun x5 =>
  HM.bind (α := Bool) (HM.call1 Tryz.prog (.one .bool) 223 #[.int .i64 p1, .slice (some ⟨x5, 0, none⟩) 10 10]) fun x6 =>
  HM.ite x6 (
  HM.pure (true, ())) (
  HM.ite (decide (36 ≤ (p1 : Int))) (
  HM.pure (decide (p1 ≤ (42 : Int)), ())) (
  HM.pure (false, ())))) fun x7 =>
  HM.pure (x7.1, ())) (
  HM.ite (p0 == 3) (
  HM.bind (α := Nat) (HM.new (.cells #[.int .i64 1, .int .i64 2, .int .i64 3, .int .i64 8, .int .i64 9, .int .i64 11, .int .i64 35, .int .i64 38] 3)) fun x8 =>
  HM.bind (α := Bool) (HM.call1 Tryz.prog (.one .bool) 223 #[.int .i64 p1, .slice (some ⟨x8, 0, none⟩) 8 8]) fun x9 =>
  HM.pure (x9, ())) (
  HM.bind (α := Bool × Unit) (HM.ite (p0 == 4) (
  HM.pure (p0 == 4, ())) (
  HM.bind (α := Bool × Unit) (HM.ite (p0 == 5) (
  HM.pure (p0 == 5, ())) (
  HM.bind (α := Bool × Unit) (HM.ite (p0 == 6) (
  HM.pure (p0 == 6, ())) (
  HM.bind (α := Bool × Unit) (HM.ite (p0 == 7) (
  HM.pure (p0 == 7, ())) (
  HM.bind (α := Bool × Unit) (HM.ite (p0 == 9) (
  HM.pure (p0 == 9, ())) (
  HM.pure (p0 == 11, ()))) fun x14 =>
  HM.pure (x14.1, ()))) fun x13 =>
  HM.pure (x13.1, ()))) fun x12 =>
  HM.pure (x12.1, ()))) fun x11 =>
  HM.pure (x11.1, ()))) fun x10 =>
  HM.ite x10.1 (
  HM.bind (α := Bool × Unit) (HM.ite (p1 == 31) (
  HM.pure (true, ())) (
  HM.pure (p1 == 38, ()))) fun x15 =>
  HM.pure (x15.1, ())) (
  HM.ite (p0 == 8) (
  HM.bind (α := Bool × Unit) (HM.ite (p1 == 11) (
  HM.pure (true, ())) (
  HM.pure (p1 == 38, ()))) fun x16 =>
  HM.pure (x16.1, ())) (
  HM.ite (p0 == 10) (
  HM.pure (p1 == 38, ())) (
  HM.ite (p0 == 14) (
  HM.bind (α := Nat) (HM.new (.cells #[.int .i64 17, .int .i64 28, .int .i64 31, .int .i64 38] 3)) fun x17 =>
  HM.bind (α := Bool) (HM.call1 Tryz.prog (.one .bool) 223 #[.int .i64 p1, .slice (some ⟨x17, 0, none⟩) 4 4]) fun x18 =>
  HM.pure (x18, ())) (
  HM.ite (p0 == 15) (
  HM.bind (α := Nat) (HM.new (.cells #[.int .i64 21, .int .i64 22, .int .i64 31, .int .i64 38] 3)) fun x19 =>
  HM.bind (α := Bool) (HM.call1 Tryz.prog (.one .bool) 223 #[.int .i64 p1, .slice (some ⟨x19, 0, none⟩) 4 4]) fun x20 =>
  HM.pure (x20, ())) (
  HM.pure (false, ()))))))))))

theorem ref05_Allowed_den (p0 : Int) (p1 : Int) : denFn Tryz.prog [223] 69 [0, 1, 4, 5, 6, 11, 16, 29, 34, 47, 55, 59, 64] [0, 1, 5, 6, 11, 16, 29, 34, 47, 55, 59, 64] Tryz.f208.results.toList [.one .bool] (bodyOf Tryz.f208) [Kind.val (.one (.int .i64)) p0, Kind.val (.one (.int .i64)) p1] = ref05_Allowed p0 p1 := by kernel_rfl
theorem ref05_Allowed_calls (p0 : Int) (p1 : Int) (h : Heap) (Q : Value → Heap → Prop) (hh : ref05_Allowed p0 p1 h fun x h' => Q (.bool x.1) h') :
    HCalls Tryz.prog 208 #[.int .i64 p0, .int .i64 p1] h Q :=
  calls_of_eq Tryz.func208 (by kernel_rfl) Tryz.ntmps208 (by kernel_rfl) (CC Tryz.call223 CN) orders (ref05_Allowed_den p0 p1) hh

/-- internal/stringslite.HasPrefix -/
def stringslite_HasPrefix (p0 : ByteArray) (p1 : ByteArray) : HM (Bool × Unit) :=
  HM.bind (α := Bool × Unit) (HM.ite (decide (((ByteArray.size p1 : Nat) : Int) ≤ (((ByteArray.size p0 : Nat) : Int) : Int))) (
  HM.bind (α := ByteArray) (HM.substr p0 none (some ((ByteArray.size p1 : Nat) : Int))) fun x1 =>
  HM.pure (decide (x1 = p1), ())) (
  HM.pure (false, ()))) fun x2 =>
  HM.pure (x2.1, ())

theorem stringslite_HasPrefix_den (p0 : ByteArray) (p1 : ByteArray) : denFn Tryz.prog [] 18 [0, 1, 4] [0, 1] Tryz.f209.results.toList [.one .bool] (bodyOf Tryz.f209) [Kind.val (.one .str) p0, Kind.val (.one .str) p1] = stringslite_HasPrefix p0 p1 := by kernel_rfl
theorem stringslite_HasPrefix_calls (p0 : ByteArray) (p1 : ByteArray) (h : Heap) (Q : Value → Heap → Prop) (hh : stringslite_HasPrefix p0 p1 h fun x h' => Q (.bool x.1) h') :
    HCalls Tryz.prog 209 #[.string p0, .string p1] h Q :=
  calls_of_eq Tryz.func209 (by kernel_rfl) Tryz.ntmps209 (by kernel_rfl) CN orders (stringslite_HasPrefix_den p0 p1) hh

/-- aqueduct/aqueductref02.tail -/
def ref02_tail (p0 : ByteArray) (p1 : Int) (p2 : Int) (p3 : Int) : HM (Bool × Unit) :=
  HM.bind (α := Bool × Unit) (HM.ite (decide (p1 < (((ByteArray.size p0 : Nat) : Int) : Int))) (
  HM.bind (α := Int) (HM.strIdx p0 p1) fun x1 =>
  HM.ite (decide (p2 ≤ ((IntKind.wrap .i64 x1) : Int))) (
  HM.bind (α := Int) (HM.strIdx p0 p1) fun x2 =>
  HM.pure (decide ((IntKind.wrap .i64 x2) ≤ (p3 : Int)), ())) (
  HM.pure (false, ()))) (
  HM.pure (false, ()))) fun x3 =>
  HM.pure (x3.1, ())

theorem ref02_tail_den (p0 : ByteArray) (p1 : Int) (p2 : Int) (p3 : Int) : denFn Tryz.prog [] 29 [0, 1, 2, 3, 8] [0, 1, 2, 3] Tryz.f217.results.toList [.one .bool] (bodyOf Tryz.f217) [Kind.val (.one .str) p0, Kind.val (.one (.int .i64)) p1, Kind.val (.one (.int .i64)) p2, Kind.val (.one (.int .i64)) p3] = ref02_tail p0 p1 p2 p3 := by kernel_rfl
theorem ref02_tail_calls (p0 : ByteArray) (p1 : Int) (p2 : Int) (p3 : Int) (h : Heap) (Q : Value → Heap → Prop) (hh : ref02_tail p0 p1 p2 p3 h fun x h' => Q (.bool x.1) h') :
    HCalls Tryz.prog 217 #[.string p0, .int .i64 p1, .int .i64 p2, .int .i64 p3] h Q :=
  calls_of_eq Tryz.func217 (by kernel_rfl) Tryz.ntmps217 (by kernel_rfl) CN orders (ref02_tail_den p0 p1 p2 p3) hh

/-- aqueduct/prop.Find -/
def prop_Find (p0 : Slc) (p1 : Int) : HM ((Int × Int × ByteArray × ByteArray × Unit) × Bool × Unit) :=
  HM.bind (α := Nat) (HM.new (.cells #[.int .i64 p1] 3)) fun x1 =>
  HM.bind (α := Nat) (HM.new (.cells #[.int .i64 0, .int .i64 0, .string (ByteArray.mk #[]), .string (ByteArray.mk #[])] 44)) fun x2 =>
  HM.bind (α := Int) (HM.call1 Tryz.prog (.one (.int .i64)) 202 #[.slice p0.a p0.len p0.cap, .func (.func 226) #[] #[.pointer (some ⟨x1, 0, none⟩)]]) fun x3 =>
  HM.ite (decide (x3 < (0 : Int))) (
  HM.bind (α := Unit) (HM.storeN ⟨x2, 0, none⟩ [.int .i64 0, .int .i64 0, .string (ByteArray.mk #[]), .string (ByteArray.mk #[])]) fun _ =>
  HM.bind (α := Int × Int × ByteArray × ByteArray × Unit) (HM.loadN [.int .i64, .int .i64, .str, .str] ⟨x2, 0, none⟩) fun x4 =>
  HM.pure ((x4.1, x4.2.1, x4.2.2.1, x4.2.2.2.1, ()), false, ())) (
  HM.bind (α := Addr) (HM.idx p0.a p0.len x3 4) fun x5 =>
  HM.bind (α := Int × Int × ByteArray × ByteArray × Unit) (HM.loadN [.int .i64, .int .i64, .str, .str] x5) fun x6 =>
  HM.bind (α := Unit) (HM.storeN ⟨x2, 0, none⟩ [.int .i64 x6.1, .int .i64 x6.2.1, .string x6.2.2.1, .string x6.2.2.2.1]) fun _ =>
  HM.bind (α := Int × Int × ByteArray × ByteArray × Unit) (HM.loadN [.int .i64, .int .i64, .str, .str] ⟨x2, 0, none⟩) fun x7 =>
  HM.pure ((x7.1, x7.2.1, x7.2.2.1, x7.2.2.2.1, ()), true, ()))

theorem prop_Find_den (p0 : Slc) (p1 : Int) : denFn Tryz.prog [202] 17 [0, 1, 3, 4, 5, 6, 11] [0, 1, 3, 4, 6, 11] Tryz.f218.results.toList [.agg [.int .i64, .int .i64, .str, .str], .one .bool] (bodyOf Tryz.f218) [Kind.val (.one .slc) p0, Kind.val (.one (.int .i64)) p1] = prop_Find p0 p1 := by kernel_rfl
theorem prop_Find_calls (p0 : Slc) (p1 : Int) (h : Heap) (Q : Value → Heap → Prop) (hh : prop_Find p0 p1 h fun x h' => Q (.tuple #[.agg #[.int .i64 x.1.1, .int .i64 x.1.2.1, .string x.1.2.2.1, .string x.1.2.2.2.1], .bool x.2.1]) h') :
    HCalls Tryz.prog 218 #[.slice p0.a p0.len p0.cap, .int .i64 p1] h Q :=
  calls_of_eq Tryz.func218 (by kernel_rfl) Tryz.ntmps218 (by kernel_rfl) (CC Tryz.call202 CN) orders (prop_Find_den p0 p1) hh

/-- (aqueduct/prop.Kind).width -/
def prop_Kind_width (p0 : Int) : HM (Int × Unit) :=
  HM.ite (p0 == 1) (
  HM.pure (1, ())) (
  HM.ite (p0 == 2) (
  HM.pure (2, ())) (
  HM.pure (4, ())))

theorem prop_Kind_width_den (p0 : Int) : denFn Tryz.prog [] 8 [0, 2, 3, 4, 6] [0, 3, 4, 6] Tryz.f219.results.toList [.one (.int .i64)] (bodyOf Tryz.f219) [Kind.val (.one (.int .i64)) p0] = prop_Kind_width p0 := by kernel_rfl
theorem prop_Kind_width_calls (p0 : Int) (h : Heap) (Q : Value → Heap → Prop) (hh : prop_Kind_width p0 h fun x h' => Q (.int .i64 x.1) h') :
    HCalls Tryz.prog 219 #[.int .i64 p0] h Q :=
  calls_of_eq Tryz.func219 (by kernel_rfl) Tryz.ntmps219 (by kernel_rfl) CN orders (prop_Kind_width_den p0) hh

/-- slices.Index[[]int,int] -/
def slices_Index (p0 : Slc) (p1 : Int) : HM (Int × Unit) :=
  HM.bind (α := (Int × Unit) ⊕ (Int × Unit)) (HM.loop (σ := Int × Unit) (τ := (Int × Unit) ⊕ (Int × Unit)) (fun x2 =>
  HM.ite (decide (x2.1 < (((p0.len : Nat) : Int) : Int))) (
  HM.bind (α := Addr) (HM.idx p0.a p0.len x2.1 1) fun x3 =>
  HM.bind (α := Int) (HM.load1 (.int .i64) x3) fun x4 =>
  HM.ite (p1 == x4) (
  HM.pure (.inr (.inr (x2.1, ())))) (
  HM.pure (.inl (IntKind.wrap .i64 (x2.1 + 1), ())))) (
  HM.pure (.inr (.inl (x2.1, ()))))) (0, ())) (Sum.elim (fun x1 =>
  HM.pure ((-1), ())) HM.pure)

theorem slices_Index_den (p0 : Slc) (p1 : Int) : denFn Tryz.prog [] 19 [0, 1, 4, 5, 7, 8, 9, 16] [0, 1, 5, 7, 8, 9, 16] Tryz.f220.results.toList [.one (.int .i64)] (bodyOf Tryz.f220) [Kind.val (.one .slc) p0, Kind.val (.one (.int .i64)) p1] = slices_Index p0 p1 := by kernel_rfl
theorem slices_Index_calls (p0 : Slc) (p1 : Int) (h : Heap) (Q : Value → Heap → Prop) (hh : slices_Index p0 p1 h fun x h' => Q (.int .i64 x.1) h') :
    HCalls Tryz.prog 220 #[.slice p0.a p0.len p0.cap, .int .i64 p1] h Q :=
  calls_of_eq Tryz.func220 (by kernel_rfl) Tryz.ntmps220 (by kernel_rfl) CN orders (slices_Index_den p0 p1) hh

/-- aqueduct/aqueductref04.in -/
def ref04_in (p0 : Int) (p1 : Slc) : HM (Bool × Unit) :=
  HM.bind (α := (Int × Unit) ⊕ (Bool × Unit)) (HM.loop (σ := Int × Unit) (τ := (Int × Unit) ⊕ (Bool × Unit)) (fun x2 =>
  HM.ite (decide (x2.1 < (((p1.len : Nat) : Int) : Int))) (
  HM.bind (α := Addr) (HM.idx p1.a p1.len x2.1 1) fun x3 =>
  HM.bind (α := Int) (HM.load1 (.int .i64) x3) fun x4 =>
  HM.ite (x4 == p0) (
  HM.pure (.inr (.inr (true, ())))) (
  HM.pure (.inl (IntKind.wrap .i64 (x2.1 + 1), ())))) (
  HM.pure (.inr (.inl (x2.1, ()))))) (0, ())) (Sum.elim (fun x1 =>
  HM.pure (false, ())) HM.pure)

theorem ref04_in_den (p0 : Int) (p1 : Slc) : denFn Tryz.prog [] 18 [0, 1, 4, 5, 9, 17] [0, 1, 5, 9, 17] Tryz.f221.results.toList [.one .bool] (bodyOf Tryz.f221) [Kind.val (.one (.int .i64)) p0, Kind.val (.one .slc) p1] = ref04_in p0 p1 := by kernel_rfl
theorem ref04_in_calls (p0 : Int) (p1 : Slc) (h : Heap) (Q : Value → Heap → Prop) (hh : ref04_in p0 p1 h fun x h' => Q (.bool x.1) h') :
    HCalls Tryz.prog 221 #[.int .i64 p0, .slice p1.a p1.len p1.cap] h Q :=
  calls_of_eq Tryz.func221 (by kernel_rfl) Tryz.ntmps221 (by kernel_rfl) CN orders (ref04_in_den p0 p1) hh

/-- aqueduct/aqueductref04.width -/
def ref04_width (p0 : Int) : HM (Int × Unit) :=
  HM.ite (p0 == 1) (
  HM.pure (1, ())) (
  HM.ite (p0 == 2) (
  HM.pure (2, ())) (
  HM.pure (4, ())))

theorem ref04_width_den (p0 : Int) : denFn Tryz.prog [] 7 [0, 2, 4, 6] [0, 4, 6] Tryz.f222.results.toList [.one (.int .i64)] (bodyOf Tryz.f222) [Kind.val (.one (.int .i64)) p0] = ref04_width p0 := by kernel_rfl
theorem ref04_width_calls (p0 : Int) (h : Heap) (Q : Value → Heap → Prop) (hh : ref04_width p0 h fun x h' => Q (.int .i64 x.1) h') :
    HCalls Tryz.prog 222 #[.int .i64 p0] h Q :=
  calls_of_eq Tryz.func222 (by kernel_rfl) Tryz.ntmps222 (by kernel_rfl) CN orders (ref04_width_den p0) hh

/-- aqueduct/aqueductref05.in -/
def ref05_in (p0 : Int) (p1 : Slc) : HM (Bool × Unit) :=
  HM.bind (α := (Int × Unit) ⊕ (Bool × Unit)) (HM.loop (σ := Int × Unit) (τ := (Int × Unit) ⊕ (Bool × Unit)) (fun x2 =>
  HM.ite (decide (x2.1 < (((p1.len : Nat) : Int) : Int))) (
  HM.bind (α := Addr) (HM.idx p1.a p1.len x2.1 1) fun x3 =>
  HM.bind (α := Int) (HM.load1 (.int .i64) x3) fun x4 =>
  HM.ite (x4 == p0) (
  HM.pure (.inr (.inr (true, ())))) (
  HM.pure (.inl (IntKind.wrap .i64 (x2.1 + 1), ())))) (
  HM.pure (.inr (.inl (x2.1, ()))))) (0, ())) (Sum.elim (fun x1 =>
  HM.pure (false, ())) HM.pure)

theorem ref05_in_den (p0 : Int) (p1 : Slc) : denFn Tryz.prog [] 18 [0, 1, 4, 5, 9, 17] [0, 1, 5, 9, 17] Tryz.f223.results.toList [.one .bool] (bodyOf Tryz.f223) [Kind.val (.one (.int .i64)) p0, Kind.val (.one .slc) p1] = ref05_in p0 p1 := by kernel_rfl
theorem ref05_in_calls (p0 : Int) (p1 : Slc) (h : Heap) (Q : Value → Heap → Prop) (hh : ref05_in p0 p1 h fun x h' => Q (.bool x.1) h') :
    HCalls Tryz.prog 223 #[.int .i64 p0, .slice p1.a p1.len p1.cap] h Q :=
  calls_of_eq Tryz.func223 (by kernel_rfl) Tryz.ntmps223 (by kernel_rfl) CN orders (ref05_in_den p0 p1) hh

/-- aqueduct/prop.Find$1 -/
def prop_Find_f1 (p0 : Int × Int × ByteArray × ByteArray × Unit) (p1 : Addr) : HM (Bool × Unit) :=
  HM.bind (α := Nat) (HM.new (.cells #[.int .i64 p0.1, .int .i64 p0.2.1, .string p0.2.2.1, .string p0.2.2.2.1] 44)) fun x1 =>
  HM.bind (α := Int) (HM.load1 (.int .i64) (Addr.add ⟨x1, 0, none⟩ 0)) fun x2 =>
  HM.bind (α := Int) (HM.load1 (.int .i64) p1) fun x3 =>
  HM.pure (x2 == x3, ())

theorem prop_Find_f1_den (p0 : Int × Int × ByteArray × ByteArray × Unit) (p1 : Addr) : denFn Tryz.prog [] 8 [0, 1, 2, 3] [0, 1, 2] Tryz.f226.results.toList [.one .bool] (bodyOf Tryz.f226) [Kind.val (.agg [.int .i64, .int .i64, .str, .str]) p0, Value.pointer (some p1)] = prop_Find_f1 p0 p1 := by kernel_rfl
theorem prop_Find_f1_calls (p0 : Int × Int × ByteArray × ByteArray × Unit) (p1 : Addr) (h : Heap) (Q : Value → Heap → Prop) (hh : prop_Find_f1 p0 p1 h fun x h' => Q (.bool x.1) h') :
    HCalls Tryz.prog 226 #[.agg #[.int .i64 p0.1, .int .i64 p0.2.1, .string p0.2.2.1, .string p0.2.2.2.1], .pointer (some p1)] h Q :=
  calls_of_eq Tryz.func226 (by kernel_rfl) Tryz.ntmps226 (by kernel_rfl) CN orders (prop_Find_f1_den p0 p1) hh

end Go.Proofs.YtfhalebbcbgbdaaGreatDoor
