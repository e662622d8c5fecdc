/-
  Q2: what the proof BridgePlaysProof reaches of our texts: Sf.
-/
import Derived.Test.YtfhalebbcbgbdaaGreatDoorQ1
import Derived.Test.YtfhalebbcbgbdaaGreatDoorProg
import Derived.KernelRfl
namespace Go.Proofs.YtfhalebbcbgbdaaGreatDoor
open Go.H Go.Proofs
set_option linter.unusedVariables false
set_option linter.unusedSimpArgs false
set_option maxRecDepth 100000
set_option maxHeartbeats 4000000
theorem calls_of_eq {P : Program} {C : List Nat} {n : Nat} {live lc : List Nat} {f : FuncId} {fn : Func} {ks : List Kind} {args : List Value} {h : Heap} {Q : Value → Heap → Prop} {m : HM (KTup ks)} (hf : P.funcs[f]? = some fn) (hb : fn.body.isSome = true) (hn : fn.ntmps = n) (hlen : Nat.ble args.length n = true)
    (hC : ∀ f, f ∈ C → CallOK P f) (hm : P.follows .mixedOrders = true) (he : denFn P C n live lc fn.results.toList ks (bodyOf fn) args = m) (hd : m h fun x h' => Q (packed ks x) h') : HCalls P f args.toArray h Q :=
  calls_of_den hf hb hn hlen hC hm (he ▸ hd)
theorem orders : Tryz.prog.follows .mixedOrders = true := by kernel_rfl
theorem CN {P : Program} : ∀ f, f ∈ ([] : List Nat) → CallOK P f := fun f hf => by cases hf
theorem CC {P : Program} {a : Nat} {l : List Nat} (h : CallOK P a) (hl : ∀ f, f ∈ l → CallOK P f) : ∀ f, f ∈ a :: l → CallOK P f := fun f hf => by
  rcases List.mem_cons.1 hf with rfl | hf
  · exact h
  · exact hl f hf
def law23_BridgePlays (p0 : Slc) (p1 : Slc) (p2 : Int × Int × Int × Int × Unit) : HM (Bool × Unit) :=
  HM.bind (α := Nat) (HM.new (.cells #[.int .i64 p2.1, .int .i64 p2.2.1, .int .i64 p2.2.2.1, .int .i64 p2.2.2.2.1] 64)) fun x1 =>
  HM.bind (α := Slc × Slc × Unit) (HM.callN Tryz.prog [.one .slc, .one .slc] 11 #[.slice p0.a p0.len p0.cap]) fun x2 =>
  HM.bind (α := Option Addr × Int × Unit) (HM.callN Tryz.prog [.one .ptr, .one (.int .u8)] 12 #[.slice x2.1.a x2.1.len x2.1.cap]) fun x3 =>
  HM.bind (α := Option Addr × Int × Unit) (HM.callN Tryz.prog [.one .ptr, .one (.int .i64)] 13 #[.slice x2.2.1.a x2.2.1.len x2.2.1.cap]) fun x4 =>
  HM.bind (α := Bool × Unit) (HM.bind (α := Bool) (HM.call1 Tryz.prog (.one .bool) 10 #[]) fun x5 =>
  HM.ite (!x5) (
  HM.pure (true, ())) (
  HM.ite (!((IntKind.wrap .i64 x3.2.1) == x4.2.1)) (
  HM.pure (true, ())) (
  HM.pure (!((Option.isNone x3.1) == (Option.isNone x4.1)), ())))) fun x6 =>
  HM.ite x6.1 (
  HM.pure (false, ())) (
  HM.ite (!(x4.2.1 == 0)) (
  HM.pure (true, ())) (
  HM.bind (α := Int × Int × Int × Int × Unit) (HM.loadN [.int .i64, .int .i64, .int .i64, .int .i64] ⟨x1, 0, none⟩) fun x7 =>
  HM.bind (α := (Int × Int × Int × Int × Unit) × (Int × Int × Int × Int × Unit) × Unit) (HM.callN Tryz.prog [.agg [.int .i64, .int .i64, .int .i64, .int .i64], .agg [.int .i64, .int .i64, .int .i64, .int .i64]] 14 #[.agg #[.int .i64 x7.1, .int .i64 x7.2.1, .int .i64 x7.2.2.1, .int .i64 x7.2.2.2.1]]) fun x8 =>
  HM.bind (α := Nat) (HM.new (.cells #[.int .i64 0, .int .i64 0, .int .i64 0, .int .i64 0] 49)) fun x9 =>
  HM.bind (α := Nat) (HM.new (.cells #[.int .i64 0, .int .i64 0, .int .i64 0, .int .i64 0] 55)) fun x10 =>
  HM.bind (α := Unit) (HM.storeN ⟨x9, 0, none⟩ [.int .i64 x8.1.1, .int .i64 x8.1.2.1, .int .i64 x8.1.2.2.1, .int .i64 x8.1.2.2.2.1]) fun _ =>
  HM.bind (α := Unit) (HM.storeN ⟨x10, 0, none⟩ [.int .i64 x8.2.1.1, .int .i64 x8.2.1.2.1, .int .i64 x8.2.1.2.2.1, .int .i64 x8.2.1.2.2.2.1]) fun _ =>
  HM.bind (α := Slc) (HM.slice p1 none (some (if 60 < (((p1.len : Nat) : Int) : Int) then 60 else ((p1.len : Nat) : Int))) none 8) fun x11 =>
  HM.bind (α := (Int × Unit) ⊕ (Bool × Unit)) (HM.loop (σ := Int × Unit) (τ := (Int × Unit) ⊕ (Bool × Unit)) (fun x13 =>
  HM.ite (decide (x13.1 < (((x11.len : Nat) : Int) : Int))) (
  HM.bind (α := Addr) (HM.idx x11.a x11.len x13.1 8) fun x14 =>
  HM.bind (α := Int × ByteArray × ByteArray × Int × Bool × ByteArray × Int × Int × Unit) (HM.loadN [.int .i64, .str, .str, .int .i64, .bool, .str, .int .i64, .int .u8] x14) fun x15 =>
  HM.bind (α := Nat) (HM.new (.cells #[.int .i64 0, .string (ByteArray.mk #[]), .string (ByteArray.mk #[]), .int .i64 0, .bool false, .string (ByteArray.mk #[]), .int .i64 0, .int .u8 0] 78)) fun x16 =>
  HM.bind (α := Unit) (HM.storeN ⟨x16, 0, none⟩ [.int .i64 x15.1, .string x15.2.1, .string x15.2.2.1, .int .i64 x15.2.2.2.1, .bool x15.2.2.2.2.1, .string x15.2.2.2.2.2.1, .int .i64 x15.2.2.2.2.2.2.1, .int .u8 x15.2.2.2.2.2.2.2.1]) fun _ =>
  HM.bind (α := ByteArray × ByteArray × Int × Bool × ByteArray × Unit) (HM.loadN [.str, .str, .int .i64, .bool, .str] (Addr.add ⟨x16, 0, none⟩ 1)) fun x17 =>
  HM.bind (α := ByteArray × ByteArray × Int × Bool × ByteArray × Unit) (HM.loadN [.str, .str, .int .i64, .bool, .str] (Addr.add ⟨x16, 0, none⟩ 1)) fun x18 =>
  HM.both (
  HM.bind (α := Nat) (HM.new (.cells #[.string (ByteArray.mk #[]), .string (ByteArray.mk #[]), .int .i64 0, .bool false, .string (ByteArray.mk #[])] 50)) fun x19 =>
  HM.bind (α := ByteArray × ByteArray × Int × Bool × ByteArray × Unit) (HM.loadN [.str, .str, .int .i64, .bool, .str] (Addr.add ⟨x16, 0, none⟩ 1)) fun x20 =>
  HM.req ((.agg #[.string x20.1, .string x20.2.1, .int .i64 x20.2.2.1, .bool x20.2.2.2.1, .string x20.2.2.2.2.1] : Value) = .agg #[.string x18.1, .string x18.2.1, .int .i64 x18.2.2.1, .bool x18.2.2.2.1, .string x18.2.2.2.2.1]) <|
  HM.bind (α := ByteArray × ByteArray × Int × Bool × ByteArray × Unit) (HM.loadN [.str, .str, .int .i64, .bool, .str] (Addr.add ⟨x16, 0, none⟩ 1)) fun x21 =>
  HM.req ((.agg #[.string x21.1, .string x21.2.1, .int .i64 x21.2.2.1, .bool x21.2.2.2.1, .string x21.2.2.2.2.1] : Value) = .agg #[.string x17.1, .string x17.2.1, .int .i64 x17.2.2.1, .bool x17.2.2.2.1, .string x17.2.2.2.2.1]) <|
  HM.bind (α := Nat) (HM.new (.cells #[.string (ByteArray.mk #[]), .string (ByteArray.mk #[]), .int .i64 0, .bool false, .string (ByteArray.mk #[])] 56)) fun x22 =>
  HM.bind (α := ByteArray × ByteArray × Int × Bool × ByteArray × Unit) (HM.loadN [.str, .str, .int .i64, .bool, .str] (Addr.add ⟨x16, 0, none⟩ 1)) fun x23 =>
  HM.req ((.agg #[.string x23.1, .string x23.2.1, .int .i64 x23.2.2.1, .bool x23.2.2.2.1, .string x23.2.2.2.2.1] : Value) = .agg #[.string x18.1, .string x18.2.1, .int .i64 x18.2.2.1, .bool x18.2.2.2.1, .string x18.2.2.2.2.1]) <|
  HM.bind (α := ByteArray × ByteArray × Int × Bool × ByteArray × Unit) (HM.loadN [.str, .str, .int .i64, .bool, .str] (Addr.add ⟨x16, 0, none⟩ 1)) fun x24 =>
  HM.req ((.agg #[.string x24.1, .string x24.2.1, .int .i64 x24.2.2.1, .bool x24.2.2.2.1, .string x24.2.2.2.2.1] : Value) = .agg #[.string x17.1, .string x17.2.1, .int .i64 x17.2.2.1, .bool x17.2.2.2.1, .string x17.2.2.2.2.1]) <|
  HM.bind (α := Unit) (HM.storeN ⟨x19, 0, none⟩ [.string x17.1, .string x17.2.1, .int .i64 x17.2.2.1, .bool x17.2.2.2.1, .string x17.2.2.2.2.1]) fun _ =>
  HM.bind (α := ByteArray × ByteArray × Int × Bool × ByteArray × Unit) (HM.loadN [.str, .str, .int .i64, .bool, .str] (Addr.add ⟨x16, 0, none⟩ 1)) fun x25 =>
  HM.req ((.agg #[.string x25.1, .string x25.2.1, .int .i64 x25.2.2.1, .bool x25.2.2.2.1, .string x25.2.2.2.2.1] : Value) = .agg #[.string x18.1, .string x18.2.1, .int .i64 x18.2.2.1, .bool x18.2.2.2.1, .string x18.2.2.2.2.1]) <|
  HM.bind (α := Unit) (HM.storeN ⟨x22, 0, none⟩ [.string x18.1, .string x18.2.1, .int .i64 x18.2.2.1, .bool x18.2.2.2.1, .string x18.2.2.2.2.1]) fun _ =>
  HM.bind (α := Int × Int × Int × Int × Unit) (HM.loadN [.int .i64, .int .i64, .int .i64, .int .i64] ⟨x9, 0, none⟩) fun x26 =>
  HM.bind (α := ByteArray × ByteArray × Int × Bool × ByteArray × Unit) (HM.loadN [.str, .str, .int .i64, .bool, .str] ⟨x19, 0, none⟩) fun x27 =>
  HM.bind (α := Int × Int × Int × Int × Unit) (HM.loadN [.int .i64, .int .i64, .int .i64, .int .i64] ⟨x10, 0, none⟩) fun x28 =>
  HM.bind (α := ByteArray × ByteArray × Int × Bool × ByteArray × Unit) (HM.loadN [.str, .str, .int .i64, .bool, .str] ⟨x22, 0, none⟩) fun x29 =>
  HM.bind (α := Slc) (HM.call1 Tryz.prog (.one .slc) 16 #[.pointer x3.1, .agg #[.int .i64 x26.1, .int .i64 x26.2.1, .int .i64 x26.2.2.1, .int .i64 x26.2.2.2.1], .agg #[.string x27.1, .string x27.2.1, .int .i64 x27.2.2.1, .bool x27.2.2.2.1, .string x27.2.2.2.2.1]]) fun x30 =>
  HM.bind (α := ByteArray × ByteArray × Int × Bool × ByteArray × Unit) (HM.loadN [.str, .str, .int .i64, .bool, .str] ⟨x22, 0, none⟩) fun x31 =>
  HM.req ((.agg #[.string x31.1, .string x31.2.1, .int .i64 x31.2.2.1, .bool x31.2.2.2.1, .string x31.2.2.2.2.1] : Value) = .agg #[.string x29.1, .string x29.2.1, .int .i64 x29.2.2.1, .bool x29.2.2.2.1, .string x29.2.2.2.2.1]) <|
  HM.bind (α := Int × Int × Int × Int × Unit) (HM.loadN [.int .i64, .int .i64, .int .i64, .int .i64] ⟨x10, 0, none⟩) fun x32 =>
  HM.req ((.agg #[.int .i64 x32.1, .int .i64 x32.2.1, .int .i64 x32.2.2.1, .int .i64 x32.2.2.2.1] : Value) = .agg #[.int .i64 x28.1, .int .i64 x28.2.1, .int .i64 x28.2.2.1, .int .i64 x28.2.2.2.1]) <|
  HM.bind (α := Slc) (HM.call1 Tryz.prog (.one .slc) 17 #[.pointer x4.1, .agg #[.int .i64 x28.1, .int .i64 x28.2.1, .int .i64 x28.2.2.1, .int .i64 x28.2.2.2.1], .agg #[.string x29.1, .string x29.2.1, .int .i64 x29.2.2.1, .bool x29.2.2.2.1, .string x29.2.2.2.2.1]]) fun x33 =>
  HM.bind (α := Bool) (HM.call1 Tryz.prog (.one .bool) 15 #[.slice x30.a x30.len x30.cap, .slice x33.a x33.len x33.cap]) fun x34 =>
  HM.ite (!x34) (
  HM.pure (.inr (.inr (false, ())))) (
  HM.bind (α := Int) (HM.load1 (.int .i64) (Addr.add ⟨x16, 0, none⟩ 0)) fun x35 =>
  HM.req (5 ≠ (0 : Int)) <|
  HM.bind (α := Bool × Unit) (HM.ite ((Int.tmod x35 5) == 1) (
  HM.pure ((Int.tmod x35 5) == 1, ())) (
  HM.pure ((Int.tmod x35 5) == (-1), ()))) fun x36 =>
  HM.bind (α := Slc × Int × Slc × Int × Unit) (HM.ite x36.1 (
  HM.bind (α := Int) (HM.load1 (.int .i64) (Addr.add ⟨x16, 0, none⟩ 6)) fun x38 =>
  HM.bind (α := Int) (HM.load1 (.int .u8) (Addr.add ⟨x16, 0, none⟩ 7)) fun x39 =>
  HM.bind (α := Slc × Int × Unit) (HM.callN Tryz.prog [.one .slc, .one (.int .u8)] 18 #[.pointer x3.1, .agg #[.int .i64 4, .bool false, .bool false, .int .i64 0, .int .i64 x38, .string (ByteArray.mk #[]), .string (ByteArray.mk #[]), .int .u8 x39, .slice none 0 0, .slice none 0 0, .string (ByteArray.mk #[]), .bool false, .int .i64 0, .bool false, .string (ByteArray.mk #[]), .string (ByteArray.mk #[]), .int .i64 0, .bool false, .slice none 0 0, .bool false, .bool false, .string (ByteArray.mk #[]), .string (ByteArray.mk #[]), .bool false, .slice none 0 0, .slice none 0 0]]) fun x40 =>
  HM.bind (α := Addr) (HM.nonnil x4.1) fun x41 =>
  HM.bind (α := Option Addr) (HM.load1 .ptr (Addr.add x41 1)) fun x42 =>
  HM.bind (α := Int) (HM.load1 (.int .i64) (Addr.add ⟨x16, 0, none⟩ 6)) fun x43 =>
  HM.bind (α := Int) (HM.load1 (.int .u8) (Addr.add ⟨x16, 0, none⟩ 7)) fun x44 =>
  HM.bind (α := Slc × Int × Unit) (HM.callN Tryz.prog [.one .slc, .one (.int .i64)] 19 #[.pointer x42, .agg #[.int .i64 4, .bool false, .bool false, .int .i64 0, .int .i64 x43, .string (ByteArray.mk #[]), .string (ByteArray.mk #[]), .int .i64 (IntKind.wrap .i64 x44), .slice none 0 0, .slice none 0 0, .string (ByteArray.mk #[]), .bool false, .int .i64 0, .bool false, .string (ByteArray.mk #[]), .string (ByteArray.mk #[]), .int .i64 0, .bool false, .slice none 0 0, .bool false, .bool false, .string (ByteArray.mk #[]), .string (ByteArray.mk #[]), .bool false, .slice none 0 0, .slice none 0 0]]) fun x45 =>
  HM.pure (x40.1, x40.2.1, x45.1, x45.2.1, ())) (
  HM.bind (α := Bool × Unit) (HM.ite ((Int.tmod x35 5) == 2) (
  HM.pure ((Int.tmod x35 5) == 2, ())) (
  HM.pure ((Int.tmod x35 5) == (-2), ()))) fun x46 =>
  HM.bind (α := Slc × Int × Slc × Int × Unit) (HM.ite x46.1 (
  HM.bind (α := Slc) (HM.call1 Tryz.prog (.one .slc) 20 #[.pointer x3.1]) fun x48 =>
  HM.bind (α := Addr) (HM.nonnil x4.1) fun x49 =>
  HM.bind (α := Option Addr) (HM.load1 .ptr (Addr.add x49 1)) fun x50 =>
  HM.bind (α := Slc) (HM.call1 Tryz.prog (.one .slc) 21 #[.pointer x50, .int .i64 64]) fun x51 =>
  HM.pure (x48, 0, x51, 0, ())) (
  HM.bind (α := Bool × Unit) (HM.ite ((Int.tmod x35 5) == 3) (
  HM.pure ((Int.tmod x35 5) == 3, ())) (
  HM.pure ((Int.tmod x35 5) == (-3), ()))) fun x52 =>
  HM.bind (α := Slc × Int × Slc × Int × Unit) (HM.ite x52.1 (
  HM.bind (α := Unit) (HM.callN Tryz.prog [] 22 #[.pointer x3.1]) fun x54 =>
  HM.bind (α := Addr) (HM.nonnil x4.1) fun x55 =>
  HM.bind (α := Option Addr) (HM.load1 .ptr (Addr.add x55 1)) fun x56 =>
  HM.bind (α := Addr) (HM.nonnil x56) fun x57 =>
  HM.bind (α := Unit) (HM.store1 (Addr.add x57 2) (.bool false)) fun _ =>
  HM.pure (⟨none, 0, 0⟩, 0, ⟨none, 0, 0⟩, 0, ())) (
  HM.bind (α := ByteArray × ByteArray × Int × Bool × ByteArray × Unit) (HM.loadN [.str, .str, .int .i64, .bool, .str] ⟨x19, 0, none⟩) fun x58 =>
  HM.bind (α := Slc × Int × Unit) (HM.callN Tryz.prog [.one .slc, .one (.int .u8)] 23 #[.pointer x3.1, .agg #[.string x58.1, .string x58.2.1, .int .i64 x58.2.2.1, .bool x58.2.2.2.1, .string x58.2.2.2.2.1]]) fun x59 =>
  HM.bind (α := ByteArray × ByteArray × Int × Bool × ByteArray × Unit) (HM.loadN [.str, .str, .int .i64, .bool, .str] ⟨x22, 0, none⟩) fun x60 =>
  HM.bind (α := Slc × Int × Unit) (HM.callN Tryz.prog [.one .slc, .one (.int .i64)] 24 #[.pointer x4.1, .agg #[.string x60.1, .string x60.2.1, .int .i64 x60.2.2.1, .bool x60.2.2.2.1, .string x60.2.2.2.2.1]]) fun x61 =>
  HM.pure (x59.1, x59.2.1, x61.1, x61.2.1, ()))) fun x53 =>
  HM.pure (x53.1, x53.2.1, x53.2.2.1, x53.2.2.2.1, ()))) fun x47 =>
  HM.pure (x47.1, x47.2.1, x47.2.2.1, x47.2.2.2.1, ()))) fun x37 =>
  HM.bind (α := Bool × Unit) (HM.ite (!((IntKind.wrap .i64 x37.2.1) == x37.2.2.2.1)) (
  HM.pure (true, ())) (
  HM.bind (α := Bool) (HM.call1 Tryz.prog (.one .bool) 25 #[.slice x37.1.a x37.1.len x37.1.cap, .slice x37.2.2.1.a x37.2.2.1.len x37.2.2.1.cap]) fun x62 =>
  HM.ite (!x62) (
  HM.pure (true, ())) (
  HM.bind (α := Slc) (HM.call1 Tryz.prog (.one .slc) 26 #[.pointer x3.1]) fun x63 =>
  HM.bind (α := Slc) (HM.call1 Tryz.prog (.one .slc) 27 #[.pointer x4.1]) fun x64 =>
  HM.bind (α := Bool) (HM.call1 Tryz.prog (.one .bool) 15 #[.slice x63.a x63.len x63.cap, .slice x64.a x64.len x64.cap]) fun x65 =>
  HM.pure (!x65, ())))) fun x66 =>
  HM.ite x66.1 (
  HM.pure (.inr (.inr (false, ())))) (
  HM.pure (.inl (IntKind.wrap .i64 (x13.1 + 1), ()))))) (
  HM.bind (α := Nat) (HM.new (.cells #[.string (ByteArray.mk #[]), .string (ByteArray.mk #[]), .int .i64 0, .bool false, .string (ByteArray.mk #[])] 56)) fun x67 =>
  HM.bind (α := ByteArray × ByteArray × Int × Bool × ByteArray × Unit) (HM.loadN [.str, .str, .int .i64, .bool, .str] (Addr.add ⟨x16, 0, none⟩ 1)) fun x68 =>
  HM.req ((.agg #[.string x68.1, .string x68.2.1, .int .i64 x68.2.2.1, .bool x68.2.2.2.1, .string x68.2.2.2.2.1] : Value) = .agg #[.string x18.1, .string x18.2.1, .int .i64 x18.2.2.1, .bool x18.2.2.2.1, .string x18.2.2.2.2.1]) <|
  HM.bind (α := ByteArray × ByteArray × Int × Bool × ByteArray × Unit) (HM.loadN [.str, .str, .int .i64, .bool, .str] (Addr.add ⟨x16, 0, none⟩ 1)) fun x69 =>
  HM.req ((.agg #[.string x69.1, .string x69.2.1, .int .i64 x69.2.2.1, .bool x69.2.2.2.1, .string x69.2.2.2.2.1] : Value) = .agg #[.string x17.1, .string x17.2.1, .int .i64 x17.2.2.1, .bool x17.2.2.2.1, .string x17.2.2.2.2.1]) <|
  HM.bind (α := Nat) (HM.new (.cells #[.string (ByteArray.mk #[]), .string (ByteArray.mk #[]), .int .i64 0, .bool false, .string (ByteArray.mk #[])] 50)) fun x70 =>
  HM.bind (α := ByteArray × ByteArray × Int × Bool × ByteArray × Unit) (HM.loadN [.str, .str, .int .i64, .bool, .str] (Addr.add ⟨x16, 0, none⟩ 1)) fun x71 =>
  HM.req ((.agg #[.string x71.1, .string x71.2.1, .int .i64 x71.2.2.1, .bool x71.2.2.2.1, .string x71.2.2.2.2.1] : Value) = .agg #[.string x18.1, .string x18.2.1, .int .i64 x18.2.2.1, .bool x18.2.2.2.1, .string x18.2.2.2.2.1]) <|
  HM.bind (α := ByteArray × ByteArray × Int × Bool × ByteArray × Unit) (HM.loadN [.str, .str, .int .i64, .bool, .str] (Addr.add ⟨x16, 0, none⟩ 1)) fun x72 =>
  HM.req ((.agg #[.string x72.1, .string x72.2.1, .int .i64 x72.2.2.1, .bool x72.2.2.2.1, .string x72.2.2.2.2.1] : Value) = .agg #[.string x17.1, .string x17.2.1, .int .i64 x17.2.2.1, .bool x17.2.2.2.1, .string x17.2.2.2.2.1]) <|
  HM.bind (α := Unit) (HM.storeN ⟨x70, 0, none⟩ [.string x17.1, .string x17.2.1, .int .i64 x17.2.2.1, .bool x17.2.2.2.1, .string x17.2.2.2.2.1]) fun _ =>
  HM.bind (α := ByteArray × ByteArray × Int × Bool × ByteArray × Unit) (HM.loadN [.str, .str, .int .i64, .bool, .str] (Addr.add ⟨x16, 0, none⟩ 1)) fun x73 =>
  HM.req ((.agg #[.string x73.1, .string x73.2.1, .int .i64 x73.2.2.1, .bool x73.2.2.2.1, .string x73.2.2.2.2.1] : Value) = .agg #[.string x18.1, .string x18.2.1, .int .i64 x18.2.2.1, .bool x18.2.2.2.1, .string x18.2.2.2.2.1]) <|
  HM.bind (α := Unit) (HM.storeN ⟨x67, 0, none⟩ [.string x18.1, .string x18.2.1, .int .i64 x18.2.2.1, .bool x18.2.2.2.1, .string x18.2.2.2.2.1]) fun _ =>
  HM.bind (α := Int × Int × Int × Int × Unit) (HM.loadN [.int .i64, .int .i64, .int .i64, .int .i64] ⟨x9, 0, none⟩) fun x74 =>
  HM.bind (α := ByteArray × ByteArray × Int × Bool × ByteArray × Unit) (HM.loadN [.str, .str, .int .i64, .bool, .str] ⟨x70, 0, none⟩) fun x75 =>
  HM.bind (α := Int × Int × Int × Int × Unit) (HM.loadN [.int .i64, .int .i64, .int .i64, .int .i64] ⟨x10, 0, none⟩) fun x76 =>
  HM.bind (α := ByteArray × ByteArray × Int × Bool × ByteArray × Unit) (HM.loadN [.str, .str, .int .i64, .bool, .str] ⟨x67, 0, none⟩) fun x77 =>
  HM.bind (α := Slc) (HM.call1 Tryz.prog (.one .slc) 16 #[.pointer x3.1, .agg #[.int .i64 x74.1, .int .i64 x74.2.1, .int .i64 x74.2.2.1, .int .i64 x74.2.2.2.1], .agg #[.string x75.1, .string x75.2.1, .int .i64 x75.2.2.1, .bool x75.2.2.2.1, .string x75.2.2.2.2.1]]) fun x78 =>
  HM.bind (α := ByteArray × ByteArray × Int × Bool × ByteArray × Unit) (HM.loadN [.str, .str, .int .i64, .bool, .str] ⟨x67, 0, none⟩) fun x79 =>
  HM.req ((.agg #[.string x79.1, .string x79.2.1, .int .i64 x79.2.2.1, .bool x79.2.2.2.1, .string x79.2.2.2.2.1] : Value) = .agg #[.string x77.1, .string x77.2.1, .int .i64 x77.2.2.1, .bool x77.2.2.2.1, .string x77.2.2.2.2.1]) <|
  HM.bind (α := Int × Int × Int × Int × Unit) (HM.loadN [.int .i64, .int .i64, .int .i64, .int .i64] ⟨x10, 0, none⟩) fun x80 =>
  HM.req ((.agg #[.int .i64 x80.1, .int .i64 x80.2.1, .int .i64 x80.2.2.1, .int .i64 x80.2.2.2.1] : Value) = .agg #[.int .i64 x76.1, .int .i64 x76.2.1, .int .i64 x76.2.2.1, .int .i64 x76.2.2.2.1]) <|
  HM.bind (α := Slc) (HM.call1 Tryz.prog (.one .slc) 17 #[.pointer x4.1, .agg #[.int .i64 x76.1, .int .i64 x76.2.1, .int .i64 x76.2.2.1, .int .i64 x76.2.2.2.1], .agg #[.string x77.1, .string x77.2.1, .int .i64 x77.2.2.1, .bool x77.2.2.2.1, .string x77.2.2.2.2.1]]) fun x81 =>
  HM.bind (α := Bool) (HM.call1 Tryz.prog (.one .bool) 15 #[.slice x78.a x78.len x78.cap, .slice x81.a x81.len x81.cap]) fun x82 =>
  HM.ite (!x82) (
  HM.pure (.inr (.inr (false, ())))) (
  HM.bind (α := Int) (HM.load1 (.int .i64) (Addr.add ⟨x16, 0, none⟩ 0)) fun x83 =>
  HM.req (5 ≠ (0 : Int)) <|
  HM.bind (α := Bool × Unit) (HM.ite ((Int.tmod x83 5) == 1) (
  HM.pure ((Int.tmod x83 5) == 1, ())) (
  HM.pure ((Int.tmod x83 5) == (-1), ()))) fun x84 =>
  HM.bind (α := Slc × Int × Slc × Int × Unit) (HM.ite x84.1 (
  HM.bind (α := Int) (HM.load1 (.int .i64) (Addr.add ⟨x16, 0, none⟩ 6)) fun x86 =>
  HM.bind (α := Int) (HM.load1 (.int .u8) (Addr.add ⟨x16, 0, none⟩ 7)) fun x87 =>
  HM.bind (α := Slc × Int × Unit) (HM.callN Tryz.prog [.one .slc, .one (.int .u8)] 18 #[.pointer x3.1, .agg #[.int .i64 4, .bool false, .bool false, .int .i64 0, .int .i64 x86, .string (ByteArray.mk #[]), .string (ByteArray.mk #[]), .int .u8 x87, .slice none 0 0, .slice none 0 0, .string (ByteArray.mk #[]), .bool false, .int .i64 0, .bool false, .string (ByteArray.mk #[]), .string (ByteArray.mk #[]), .int .i64 0, .bool false, .slice none 0 0, .bool false, .bool false, .string (ByteArray.mk #[]), .string (ByteArray.mk #[]), .bool false, .slice none 0 0, .slice none 0 0]]) fun x88 =>
  HM.bind (α := Addr) (HM.nonnil x4.1) fun x89 =>
  HM.bind (α := Option Addr) (HM.load1 .ptr (Addr.add x89 1)) fun x90 =>
  HM.bind (α := Int) (HM.load1 (.int .i64) (Addr.add ⟨x16, 0, none⟩ 6)) fun x91 =>
  HM.bind (α := Int) (HM.load1 (.int .u8) (Addr.add ⟨x16, 0, none⟩ 7)) fun x92 =>
  HM.bind (α := Slc × Int × Unit) (HM.callN Tryz.prog [.one .slc, .one (.int .i64)] 19 #[.pointer x90, .agg #[.int .i64 4, .bool false, .bool false, .int .i64 0, .int .i64 x91, .string (ByteArray.mk #[]), .string (ByteArray.mk #[]), .int .i64 (IntKind.wrap .i64 x92), .slice none 0 0, .slice none 0 0, .string (ByteArray.mk #[]), .bool false, .int .i64 0, .bool false, .string (ByteArray.mk #[]), .string (ByteArray.mk #[]), .int .i64 0, .bool false, .slice none 0 0, .bool false, .bool false, .string (ByteArray.mk #[]), .string (ByteArray.mk #[]), .bool false, .slice none 0 0, .slice none 0 0]]) fun x93 =>
  HM.pure (x88.1, x88.2.1, x93.1, x93.2.1, ())) (
  HM.bind (α := Bool × Unit) (HM.ite ((Int.tmod x83 5) == 2) (
  HM.pure ((Int.tmod x83 5) == 2, ())) (
  HM.pure ((Int.tmod x83 5) == (-2), ()))) fun x94 =>
  HM.bind (α := Slc × Int × Slc × Int × Unit) (HM.ite x94.1 (
  HM.bind (α := Slc) (HM.call1 Tryz.prog (.one .slc) 20 #[.pointer x3.1]) fun x96 =>
  HM.bind (α := Addr) (HM.nonnil x4.1) fun x97 =>
  HM.bind (α := Option Addr) (HM.load1 .ptr (Addr.add x97 1)) fun x98 =>
  HM.bind (α := Slc) (HM.call1 Tryz.prog (.one .slc) 21 #[.pointer x98, .int .i64 64]) fun x99 =>
  HM.pure (x96, 0, x99, 0, ())) (
  HM.bind (α := Bool × Unit) (HM.ite ((Int.tmod x83 5) == 3) (
  HM.pure ((Int.tmod x83 5) == 3, ())) (
  HM.pure ((Int.tmod x83 5) == (-3), ()))) fun x100 =>
  HM.bind (α := Slc × Int × Slc × Int × Unit) (HM.ite x100.1 (
  HM.bind (α := Unit) (HM.callN Tryz.prog [] 22 #[.pointer x3.1]) fun x102 =>
  HM.bind (α := Addr) (HM.nonnil x4.1) fun x103 =>
  HM.bind (α := Option Addr) (HM.load1 .ptr (Addr.add x103 1)) fun x104 =>
  HM.bind (α := Addr) (HM.nonnil x104) fun x105 =>
  HM.bind (α := Unit) (HM.store1 (Addr.add x105 2) (.bool false)) fun _ =>
  HM.pure (⟨none, 0, 0⟩, 0, ⟨none, 0, 0⟩, 0, ())) (
  HM.bind (α := ByteArray × ByteArray × Int × Bool × ByteArray × Unit) (HM.loadN [.str, .str, .int .i64, .bool, .str] ⟨x70, 0, none⟩) fun x106 =>
  HM.bind (α := Slc × Int × Unit) (HM.callN Tryz.prog [.one .slc, .one (.int .u8)] 23 #[.pointer x3.1, .agg #[.string x106.1, .string x106.2.1, .int .i64 x106.2.2.1, .bool x106.2.2.2.1, .string x106.2.2.2.2.1]]) fun x107 =>
  HM.bind (α := ByteArray × ByteArray × Int × Bool × ByteArray × Unit) (HM.loadN [.str, .str, .int .i64, .bool, .str] ⟨x67, 0, none⟩) fun x108 =>
  HM.bind (α := Slc × Int × Unit) (HM.callN Tryz.prog [.one .slc, .one (.int .i64)] 24 #[.pointer x4.1, .agg #[.string x108.1, .string x108.2.1, .int .i64 x108.2.2.1, .bool x108.2.2.2.1, .string x108.2.2.2.2.1]]) fun x109 =>
  HM.pure (x107.1, x107.2.1, x109.1, x109.2.1, ()))) fun x101 =>
  HM.pure (x101.1, x101.2.1, x101.2.2.1, x101.2.2.2.1, ()))) fun x95 =>
  HM.pure (x95.1, x95.2.1, x95.2.2.1, x95.2.2.2.1, ()))) fun x85 =>
  HM.bind (α := Bool × Unit) (HM.ite (!((IntKind.wrap .i64 x85.2.1) == x85.2.2.2.1)) (
  HM.pure (true, ())) (
  HM.bind (α := Bool) (HM.call1 Tryz.prog (.one .bool) 25 #[.slice x85.1.a x85.1.len x85.1.cap, .slice x85.2.2.1.a x85.2.2.1.len x85.2.2.1.cap]) fun x110 =>
  HM.ite (!x110) (
  HM.pure (true, ())) (
  HM.bind (α := Slc) (HM.call1 Tryz.prog (.one .slc) 26 #[.pointer x3.1]) fun x111 =>
  HM.bind (α := Slc) (HM.call1 Tryz.prog (.one .slc) 27 #[.pointer x4.1]) fun x112 =>
  HM.bind (α := Bool) (HM.call1 Tryz.prog (.one .bool) 15 #[.slice x111.a x111.len x111.cap, .slice x112.a x112.len x112.cap]) fun x113 =>
  HM.pure (!x113, ())))) fun x114 =>
  HM.ite x114.1 (
  HM.pure (.inr (.inr (false, ())))) (
  HM.pure (.inl (IntKind.wrap .i64 (x13.1 + 1), ())))))) (
  HM.pure (.inr (.inl (x13.1, ()))))) (0, ())) (Sum.elim (fun x12 =>
  HM.pure (true, ())) HM.pure)))
theorem law23_BridgePlays_den (p0 : Slc) (p1 : Slc) (p2 : Int × Int × Int × Int × Unit) : denFn Tryz.prog [11, 12, 13, 10, 14, 16, 17, 15, 18, 19, 20, 21, 22, 23, 24, 25, 26, 27] 166 [0, 1, 2, 5, 6, 7, 8, 9, 10, 11, 12, 13, 14, 16, 17, 18, 19, 20, 21, 22, 52, 54, 64, 65, 66, 67, 83, 86, 99, 126, 136, 164] [0, 1, 2, 5, 7, 8, 9, 10, 11, 12, 13, 14, 16, 17, 18, 19, 20, 21, 22, 52, 54, 64, 65, 66, 67, 83, 86, 99, 126, 136, 164] Tryz.f4.results.toList [.one .bool] (bodyOf Tryz.f4) [Kind.val (.one .slc) p0, Kind.val (.one .slc) p1, Kind.val (.agg [.int .i64, .int .i64, .int .i64, .int .i64]) p2] = law23_BridgePlays p0 p1 p2 := by kernel_rfl
theorem law23_BridgePlays_calls (p0 : Slc) (p1 : Slc) (p2 : Int × Int × Int × Int × Unit) (h : Heap) (Q : Value → Heap → Prop) (hh : law23_BridgePlays p0 p1 p2 h fun x h' => Q (.bool x.1) h') :
    HCalls Tryz.prog 4 #[.slice p0.a p0.len p0.cap, .slice p1.a p1.len p1.cap, .agg #[.int .i64 p2.1, .int .i64 p2.2.1, .int .i64 p2.2.2.1, .int .i64 p2.2.2.2.1]] h Q :=
  calls_of_eq Tryz.func4 (by kernel_rfl) Tryz.ntmps4 (by kernel_rfl) (CC Tryz.call11 (CC Tryz.call12 (CC Tryz.call13 (CC Tryz.call10 (CC Tryz.call14 (CC Tryz.call16 (CC Tryz.call17 (CC Tryz.call15 (CC Tryz.call18 (CC Tryz.call19 (CC Tryz.call20 (CC Tryz.call21 (CC Tryz.call22 (CC Tryz.call23 (CC Tryz.call24 (CC Tryz.call25 (CC Tryz.call26 (CC Tryz.call27 CN)))))))))))))))))) orders (law23_BridgePlays_den p0 p1 p2) hh
def law23_wakes : HM (Bool × Unit) :=
  HM.bind (α := Nat) (HM.new (.cells #[.string (ByteArray.mk #[35]), .int .i64 0, .int .i64 1, .string (ByteArray.mk #[]), .string (ByteArray.mk #[120, 47])] 123)) fun x1 =>
  HM.bind (α := Option Addr × Int × Unit) (HM.callN Tryz.prog [.one .ptr, .one (.int .u8)] 12 #[.slice (some ⟨x1, 0, none⟩) 1 1]) fun x2 =>
  HM.bind (α := Slc) (HM.call1 Tryz.prog (.one .slc) 16 #[.pointer x2.1, .agg #[.int .i64 0, .int .i64 5, .int .i64 0, .int .i64 2], .agg #[.string (ByteArray.mk #[97]), .string (ByteArray.mk #[112]), .int .i64 0, .bool false, .string (ByteArray.mk #[])]]) fun x3 =>
  HM.bind (α := Bool × Unit) (HM.ite (x2.2.1 == 0) (
  HM.ite (((x3.len : Nat) : Int) == 1) (
  HM.bind (α := Addr) (HM.idx x3.a x3.len 0 5) fun x4 =>
  HM.bind (α := ByteArray × ByteArray × Int × Bool × ByteArray × Unit) (HM.loadN [.str, .str, .int .i64, .bool, .str] x4) fun x5 =>
  HM.ite ((decide (x5.1 = (ByteArray.mk #[120, 47, 97]))) && ((decide (x5.2.1 = (ByteArray.mk #[112]))) && ((x5.2.2.1 == 1) && ((x5.2.2.2.1 == false) && ((decide (x5.2.2.2.2.1 = (ByteArray.mk #[48, 46, 53, 46, 49, 46, 49]))) && true))))) (
  HM.bind (α := Int) (HM.call1 Tryz.prog (.one (.int .i64)) 34 #[.int .i64 2, .int .i64 10, .int .i64 100, .int .u64 7]) fun x6 =>
  HM.pure (x6 == 47, ())) (
  HM.pure (false, ()))) (
  HM.pure (false, ()))) (
  HM.pure (false, ()))) fun x7 =>
  HM.pure (x7.1, ())
theorem law23_wakes_den : denFn Tryz.prog [12, 16, 34] 33 [0, 1, 2, 3] [1, 2, 3] Tryz.f10.results.toList [.one .bool] (bodyOf Tryz.f10) [] = law23_wakes := by kernel_rfl
theorem law23_wakes_calls (h : Heap) (Q : Value → Heap → Prop) (hh : law23_wakes h fun x h' => Q (.bool x.1) h') :
    HCalls Tryz.prog 10 #[] h Q :=
  calls_of_eq Tryz.func10 (by kernel_rfl) Tryz.ntmps10 (by kernel_rfl) (CC Tryz.call12 (CC Tryz.call16 (CC Tryz.call34 CN))) orders (law23_wakes_den) hh
def law23_rules (p0 : Slc) : HM (Slc × Slc × Unit) :=
  HM.bind (α := Slc) (HM.slice p0 none (some (if 20 < (((p0.len : Nat) : Int) : Int) then 20 else ((p0.len : Nat) : Int))) none 5) fun x1 =>
  HM.bind (α := Slc × Slc × Int × Unit) (HM.loop (σ := Slc × Slc × Int × Unit) (τ := Slc × Slc × Int × Unit) (fun x3 =>
  HM.ite (decide (x3.2.2.1 < (((x1.len : Nat) : Int) : Int))) (
  HM.bind (α := Addr) (HM.idx x1.a x1.len x3.2.2.1 5) fun x4 =>
  HM.bind (α := ByteArray × Int × Int × ByteArray × ByteArray × Unit) (HM.loadN [.str, .int .i64, .int .i64, .str, .str] x4) fun x5 =>
  HM.bind (α := Nat) (HM.new (.cells #[.string (ByteArray.mk #[]), .int .i64 0, .int .i64 0, .string (ByteArray.mk #[]), .string (ByteArray.mk #[])] 127)) fun x6 =>
  HM.bind (α := Unit) (HM.storeN ⟨x6, 0, none⟩ [.string x5.1, .int .i64 x5.2.1, .int .i64 x5.2.2.1, .string x5.2.2.2.1, .string x5.2.2.2.2.1]) fun _ =>
  HM.bind (α := ByteArray × Int × Int × ByteArray × ByteArray × Unit) (HM.loadN [.str, .int .i64, .int .i64, .str, .str] ⟨x6, 0, none⟩) fun x7 =>
  HM.bind (α := (ByteArray × Int × Int × ByteArray × ByteArray × Unit) × (ByteArray × Int × Int × ByteArray × ByteArray × Unit) × Unit) (HM.callN Tryz.prog [.agg [.str, .int .i64, .int .i64, .str, .str], .agg [.str, .int .i64, .int .i64, .str, .str]] 35 #[.agg #[.string x7.1, .int .i64 x7.2.1, .int .i64 x7.2.2.1, .string x7.2.2.2.1, .string x7.2.2.2.2.1]]) fun x8 =>
  HM.bind (α := Nat) (HM.new (.cells #[.string (ByteArray.mk #[]), .int .i64 0, .int .i64 0, .string (ByteArray.mk #[]), .string (ByteArray.mk #[])] 123)) fun x9 =>
  HM.bind (α := Nat) (HM.new (.cells #[.string (ByteArray.mk #[]), .int .i64 0, .int .i64 0, .string (ByteArray.mk #[]), .string (ByteArray.mk #[])] 128)) fun x10 =>
  HM.bind (α := Unit) (HM.storeN ⟨x9, 0, none⟩ [.string x8.1.1, .int .i64 x8.1.2.1, .int .i64 x8.1.2.2.1, .string x8.1.2.2.2.1, .string x8.1.2.2.2.2.1]) fun _ =>
  HM.bind (α := Unit) (HM.storeN ⟨x10, 0, none⟩ [.string x8.2.1.1, .int .i64 x8.2.1.2.1, .int .i64 x8.2.1.2.2.1, .string x8.2.1.2.2.2.1, .string x8.2.1.2.2.2.2.1]) fun _ =>
  HM.bind (α := ByteArray × Int × Int × ByteArray × ByteArray × Unit) (HM.loadN [.str, .int .i64, .int .i64, .str, .str] ⟨x9, 0, none⟩) fun x11 =>
  HM.bind (α := ByteArray × Int × Int × ByteArray × ByteArray × Unit) (HM.loadN [.str, .int .i64, .int .i64, .str, .str] ⟨x10, 0, none⟩) fun x12 =>
  HM.both (
  HM.bind (α := Nat) (HM.new (.cells #[.string x11.1, .int .i64 x11.2.1, .int .i64 x11.2.2.1, .string x11.2.2.2.1, .string x11.2.2.2.2.1] 123)) fun x13 =>
  HM.bind (α := ByteArray × Int × Int × ByteArray × ByteArray × Unit) (HM.loadN [.str, .int .i64, .int .i64, .str, .str] ⟨x10, 0, none⟩) fun x14 =>
  HM.req ((.agg #[.string x14.1, .int .i64 x14.2.1, .int .i64 x14.2.2.1, .string x14.2.2.2.1, .string x14.2.2.2.2.1] : Value) = .agg #[.string x12.1, .int .i64 x12.2.1, .int .i64 x12.2.2.1, .string x12.2.2.2.1, .string x12.2.2.2.2.1]) <|
  HM.both (
  HM.bind (α := Slc) (HM.append 123 5 64 #[.string (ByteArray.mk #[]), .int .i64 0, .int .i64 0, .string (ByteArray.mk #[]), .string (ByteArray.mk #[])] x3.1 1 (srcSlc 5 (⟨some ⟨x13, 0, none⟩, 1, 1⟩))) fun x15 =>
  HM.bind (α := ByteArray × Int × Int × ByteArray × ByteArray × Unit) (HM.loadN [.str, .int .i64, .int .i64, .str, .str] ⟨x10, 0, none⟩) fun x16 =>
  HM.req ((.agg #[.string x16.1, .int .i64 x16.2.1, .int .i64 x16.2.2.1, .string x16.2.2.2.1, .string x16.2.2.2.2.1] : Value) = .agg #[.string x12.1, .int .i64 x12.2.1, .int .i64 x12.2.2.1, .string x12.2.2.2.1, .string x12.2.2.2.2.1]) <|
  HM.bind (α := Nat) (HM.new (.cells #[.string x12.1, .int .i64 x12.2.1, .int .i64 x12.2.2.1, .string x12.2.2.2.1, .string x12.2.2.2.2.1] 128)) fun x17 =>
  HM.bind (α := ByteArray × Int × Int × ByteArray × ByteArray × Unit) (HM.loadN [.str, .int .i64, .int .i64, .str, .str] ⟨x9, 0, none⟩) fun x18 =>
  HM.req ((.agg #[.string x18.1, .int .i64 x18.2.1, .int .i64 x18.2.2.1, .string x18.2.2.2.1, .string x18.2.2.2.2.1] : Value) = .agg #[.string x11.1, .int .i64 x11.2.1, .int .i64 x11.2.2.1, .string x11.2.2.2.1, .string x11.2.2.2.2.1]) <|
  HM.bind (α := Slc) (HM.append 128 5 64 #[.string (ByteArray.mk #[]), .int .i64 0, .int .i64 0, .string (ByteArray.mk #[]), .string (ByteArray.mk #[])] x3.2.1 1 (srcSlc 5 (⟨some ⟨x17, 0, none⟩, 1, 1⟩))) fun x19 =>
  HM.pure (.inl (x15, x19, IntKind.wrap .i64 (x3.2.2.1 + 1), ()))) (
  HM.bind (α := Nat) (HM.new (.cells #[.string x12.1, .int .i64 x12.2.1, .int .i64 x12.2.2.1, .string x12.2.2.2.1, .string x12.2.2.2.2.1] 128)) fun x20 =>
  HM.bind (α := ByteArray × Int × Int × ByteArray × ByteArray × Unit) (HM.loadN [.str, .int .i64, .int .i64, .str, .str] ⟨x9, 0, none⟩) fun x21 =>
  HM.req ((.agg #[.string x21.1, .int .i64 x21.2.1, .int .i64 x21.2.2.1, .string x21.2.2.2.1, .string x21.2.2.2.2.1] : Value) = .agg #[.string x11.1, .int .i64 x11.2.1, .int .i64 x11.2.2.1, .string x11.2.2.2.1, .string x11.2.2.2.2.1]) <|
  HM.bind (α := Slc) (HM.append 123 5 64 #[.string (ByteArray.mk #[]), .int .i64 0, .int .i64 0, .string (ByteArray.mk #[]), .string (ByteArray.mk #[])] x3.1 1 (srcSlc 5 (⟨some ⟨x13, 0, none⟩, 1, 1⟩))) fun x22 =>
  HM.bind (α := ByteArray × Int × Int × ByteArray × ByteArray × Unit) (HM.loadN [.str, .int .i64, .int .i64, .str, .str] ⟨x10, 0, none⟩) fun x23 =>
  HM.req ((.agg #[.string x23.1, .int .i64 x23.2.1, .int .i64 x23.2.2.1, .string x23.2.2.2.1, .string x23.2.2.2.2.1] : Value) = .agg #[.string x12.1, .int .i64 x12.2.1, .int .i64 x12.2.2.1, .string x12.2.2.2.1, .string x12.2.2.2.2.1]) <|
  HM.bind (α := Slc) (HM.append 128 5 64 #[.string (ByteArray.mk #[]), .int .i64 0, .int .i64 0, .string (ByteArray.mk #[]), .string (ByteArray.mk #[])] x3.2.1 1 (srcSlc 5 (⟨some ⟨x20, 0, none⟩, 1, 1⟩))) fun x24 =>
  HM.pure (.inl (x22, x24, IntKind.wrap .i64 (x3.2.2.1 + 1), ())))) (
  HM.bind (α := Nat) (HM.new (.cells #[.string x12.1, .int .i64 x12.2.1, .int .i64 x12.2.2.1, .string x12.2.2.2.1, .string x12.2.2.2.2.1] 128)) fun x25 =>
  HM.bind (α := ByteArray × Int × Int × ByteArray × ByteArray × Unit) (HM.loadN [.str, .int .i64, .int .i64, .str, .str] ⟨x9, 0, none⟩) fun x26 =>
  HM.req ((.agg #[.string x26.1, .int .i64 x26.2.1, .int .i64 x26.2.2.1, .string x26.2.2.2.1, .string x26.2.2.2.2.1] : Value) = .agg #[.string x11.1, .int .i64 x11.2.1, .int .i64 x11.2.2.1, .string x11.2.2.2.1, .string x11.2.2.2.2.1]) <|
  HM.bind (α := Nat) (HM.new (.cells #[.string x11.1, .int .i64 x11.2.1, .int .i64 x11.2.2.1, .string x11.2.2.2.1, .string x11.2.2.2.2.1] 123)) fun x27 =>
  HM.bind (α := ByteArray × Int × Int × ByteArray × ByteArray × Unit) (HM.loadN [.str, .int .i64, .int .i64, .str, .str] ⟨x10, 0, none⟩) fun x28 =>
  HM.req ((.agg #[.string x28.1, .int .i64 x28.2.1, .int .i64 x28.2.2.1, .string x28.2.2.2.1, .string x28.2.2.2.2.1] : Value) = .agg #[.string x12.1, .int .i64 x12.2.1, .int .i64 x12.2.2.1, .string x12.2.2.2.1, .string x12.2.2.2.2.1]) <|
  HM.bind (α := Slc) (HM.append 123 5 64 #[.string (ByteArray.mk #[]), .int .i64 0, .int .i64 0, .string (ByteArray.mk #[]), .string (ByteArray.mk #[])] x3.1 1 (srcSlc 5 (⟨some ⟨x27, 0, none⟩, 1, 1⟩))) fun x29 =>
  HM.bind (α := ByteArray × Int × Int × ByteArray × ByteArray × Unit) (HM.loadN [.str, .int .i64, .int .i64, .str, .str] ⟨x10, 0, none⟩) fun x30 =>
  HM.req ((.agg #[.string x30.1, .int .i64 x30.2.1, .int .i64 x30.2.2.1, .string x30.2.2.2.1, .string x30.2.2.2.2.1] : Value) = .agg #[.string x12.1, .int .i64 x12.2.1, .int .i64 x12.2.2.1, .string x12.2.2.2.1, .string x12.2.2.2.2.1]) <|
  HM.bind (α := Slc) (HM.append 128 5 64 #[.string (ByteArray.mk #[]), .int .i64 0, .int .i64 0, .string (ByteArray.mk #[]), .string (ByteArray.mk #[])] x3.2.1 1 (srcSlc 5 (⟨some ⟨x25, 0, none⟩, 1, 1⟩))) fun x31 =>
  HM.pure (.inl (x29, x31, IntKind.wrap .i64 (x3.2.2.1 + 1), ())))) (
  HM.pure (.inr (x3.1, x3.2.1, x3.2.2.1, ())))) (⟨none, 0, 0⟩, ⟨none, 0, 0⟩, 0, ())) fun x2 =>
  HM.pure (x2.1, x2.2.1, ())
theorem law23_rules_den (p0 : Slc) : denFn Tryz.prog [35] 36 [0, 2, 3, 4, 5, 7, 8, 9, 14, 15, 16, 17] [0, 4, 5, 7, 8, 9, 14, 15, 16, 17] Tryz.f11.results.toList [.one .slc, .one .slc] (bodyOf Tryz.f11) [Kind.val (.one .slc) p0] = law23_rules p0 := by kernel_rfl
theorem law23_rules_calls (p0 : Slc) (h : Heap) (Q : Value → Heap → Prop) (hh : law23_rules p0 h fun x h' => Q (.tuple #[.slice x.1.a x.1.len x.1.cap, .slice x.2.1.a x.2.1.len x.2.1.cap]) h') :
    HCalls Tryz.prog 11 #[.slice p0.a p0.len p0.cap] h Q :=
  calls_of_eq Tryz.func11 (by kernel_rfl) Tryz.ntmps11 (by kernel_rfl) (CC Tryz.call35 CN) orders (law23_rules_den p0) hh
def bridge_New (p0 : Slc) : HM (Option Addr × Int × Unit) :=
  HM.ite (decide (16 < (((p0.len : Nat) : Int) : Int))) (
  HM.pure (none, 149, ())) (
  HM.bind (α := (Int × Unit) ⊕ (Option Addr × Int × Unit)) (HM.loop (σ := Int × Unit) (τ := (Int × Unit) ⊕ (Option Addr × Int × Unit)) (fun x2 =>
  HM.ite (decide (x2.1 < (((p0.len : Nat) : Int) : Int))) (
  HM.bind (α := Addr) (HM.idx p0.a p0.len x2.1 5) fun x3 =>
  HM.bind (α := ByteArray × Int × Int × ByteArray × ByteArray × Unit) (HM.loadN [.str, .int .i64, .int .i64, .str, .str] x3) fun x4 =>
  HM.bind (α := Nat) (HM.new (.cells #[.string (ByteArray.mk #[]), .int .i64 0, .int .i64 0, .string (ByteArray.mk #[]), .string (ByteArray.mk #[])] 123)) fun x5 =>
  HM.bind (α := Unit) (HM.storeN ⟨x5, 0, none⟩ [.string x4.1, .int .i64 x4.2.1, .int .i64 x4.2.2.1, .string x4.2.2.2.1, .string x4.2.2.2.2.1]) fun _ =>
  HM.bind (α := ByteArray × Int × Int × ByteArray × ByteArray × Unit) (HM.loadN [.str, .int .i64, .int .i64, .str, .str] ⟨x5, 0, none⟩) fun x6 =>
  HM.bind (α := Int) (HM.call1 Tryz.prog (.one (.int .u8)) 36 #[.agg #[.string x6.1, .int .i64 x6.2.1, .int .i64 x6.2.2.1, .string x6.2.2.2.1, .string x6.2.2.2.2.1]]) fun x7 =>
  HM.ite (!(x7 == 0)) (
  HM.pure (.inr (.inr (none, x7, ())))) (
  HM.pure (.inl (IntKind.wrap .i64 (x2.1 + 1), ())))) (
  HM.pure (.inr (.inl (x2.1, ()))))) (0, ())) (Sum.elim (fun x1 =>
  HM.bind (α := Slc) (HM.call1 Tryz.prog (.one .slc) 37 #[.slice p0.a p0.len p0.cap]) fun x8 =>
  HM.bind (α := Option Addr) (HM.call1 Tryz.prog (.one .ptr) 38 #[.int .i64 64]) fun x9 =>
  HM.bind (α := Nat) (HM.new (.cells #[.slice x8.a x8.len x8.cap, .pointer x9] 136)) fun x10 =>
  HM.pure (some ⟨x10, 0, none⟩, 0, ())) HM.pure))
theorem bridge_New_den (p0 : Slc) : denFn Tryz.prog [36, 37, 38] 27 [0, 2, 3, 5, 6, 9, 10, 11, 12, 13, 19] [0, 5, 6, 9, 10, 11, 12, 13, 19] Tryz.f12.results.toList [.one .ptr, .one (.int .u8)] (bodyOf Tryz.f12) [Kind.val (.one .slc) p0] = bridge_New p0 := by kernel_rfl
theorem bridge_New_calls (p0 : Slc) (h : Heap) (Q : Value → Heap → Prop) (hh : bridge_New p0 h fun x h' => Q (.tuple #[.pointer x.1, .int .u8 x.2.1]) h') :
    HCalls Tryz.prog 12 #[.slice p0.a p0.len p0.cap] h Q :=
  calls_of_eq Tryz.func12 (by kernel_rfl) Tryz.ntmps12 (by kernel_rfl) (CC Tryz.call36 (CC Tryz.call37 (CC Tryz.call38 CN))) orders (bridge_New_den p0) hh
def ref23_New (p0 : Slc) : HM (Option Addr × Int × Unit) :=
  HM.ite (decide (16 < (((p0.len : Nat) : Int) : Int))) (
  HM.pure (none, 149, ())) (
  HM.bind (α := (Int × Unit) ⊕ (Option Addr × Int × Unit)) (HM.loop (σ := Int × Unit) (τ := (Int × Unit) ⊕ (Option Addr × Int × Unit)) (fun x2 =>
  HM.ite (decide (x2.1 < (((p0.len : Nat) : Int) : Int))) (
  HM.bind (α := Addr) (HM.idx p0.a p0.len x2.1 5) fun x3 =>
  HM.bind (α := ByteArray × Int × Int × ByteArray × ByteArray × Unit) (HM.loadN [.str, .int .i64, .int .i64, .str, .str] x3) fun x4 =>
  HM.bind (α := Int) (HM.call1 Tryz.prog (.one (.int .i64)) 39 #[.agg #[.string x4.1, .int .i64 x4.2.1, .int .i64 x4.2.2.1, .string x4.2.2.2.1, .string x4.2.2.2.2.1]]) fun x5 =>
  HM.ite (!(x5 == 0)) (
  HM.pure (.inr (.inr (none, x5, ())))) (
  HM.pure (.inl (IntKind.wrap .i64 (x2.1 + 1), ())))) (
  HM.pure (.inr (.inl (x2.1, ()))))) (0, ())) (Sum.elim (fun x1 =>
  HM.bind (α := Option Addr) (HM.call1 Tryz.prog (.one .ptr) 40 #[.int .i64 64]) fun x6 =>
  HM.bind (α := Nat) (HM.new (.cells #[.slice p0.a p0.len p0.cap, .pointer x6] 92)) fun x7 =>
  HM.pure (some ⟨x7, 0, none⟩, 0, ())) HM.pure))
theorem ref23_New_den (p0 : Slc) : denFn Tryz.prog [39, 40] 29 [0, 2, 3, 4, 5, 6, 9, 13, 22] [0, 4, 5, 6, 9, 13, 22] Tryz.f13.results.toList [.one .ptr, .one (.int .i64)] (bodyOf Tryz.f13) [Kind.val (.one .slc) p0] = ref23_New p0 := by kernel_rfl
theorem ref23_New_calls (p0 : Slc) (h : Heap) (Q : Value → Heap → Prop) (hh : ref23_New p0 h fun x h' => Q (.tuple #[.pointer x.1, .int .i64 x.2.1]) h') :
    HCalls Tryz.prog 13 #[.slice p0.a p0.len p0.cap] h Q :=
  calls_of_eq Tryz.func13 (by kernel_rfl) Tryz.ntmps13 (by kernel_rfl) (CC Tryz.call39 (CC Tryz.call40 CN)) orders (ref23_New_den p0) hh
def law23_labels (p0 : Int × Int × Int × Int × Unit) : HM ((Int × Int × Int × Int × Unit) × (Int × Int × Int × Int × Unit) × Unit) :=
  HM.bind (α := Nat) (HM.new (.cells #[.int .i64 p0.1, .int .i64 p0.2.1, .int .i64 p0.2.2.1, .int .i64 p0.2.2.2.1] 64)) fun x1 =>
  HM.bind (α := Nat) (HM.new (.cells #[.int .i64 0, .int .i64 0, .int .i64 0, .int .i64 0] 49)) fun x2 =>
  HM.bind (α := Nat) (HM.new (.cells #[.int .i64 0, .int .i64 0, .int .i64 0, .int .i64 0] 55)) fun x3 =>
  HM.bind (α := Int) (HM.load1 (.int .i64) (Addr.add ⟨x1, 0, none⟩ 0)) fun x4 =>
  HM.bind (α := Int) (HM.load1 (.int .i64) (Addr.add ⟨x1, 0, none⟩ 1)) fun x5 =>
  HM.bind (α := Int) (HM.load1 (.int .i64) (Addr.add ⟨x1, 0, none⟩ 2)) fun x6 =>
  HM.bind (α := Int) (HM.load1 (.int .i64) (Addr.add ⟨x1, 0, none⟩ 3)) fun x7 =>
  HM.bind (α := Int) (HM.load1 (.int .i64) (Addr.add ⟨x1, 0, none⟩ 0)) fun x8 =>
  HM.bind (α := Int) (HM.load1 (.int .i64) (Addr.add ⟨x1, 0, none⟩ 1)) fun x9 =>
  HM.bind (α := Int) (HM.load1 (.int .i64) (Addr.add ⟨x1, 0, none⟩ 2)) fun x10 =>
  HM.bind (α := Int) (HM.load1 (.int .i64) (Addr.add ⟨x1, 0, none⟩ 3)) fun x11 =>
  HM.bind (α := Unit) (HM.storeN ⟨x2, 0, none⟩ [.int .i64 x4, .int .i64 x5, .int .i64 x6, .int .i64 x7]) fun _ =>
  HM.bind (α := Int) (HM.load1 (.int .i64) (Addr.add ⟨x1, 0, none⟩ 3)) fun x12 =>
  HM.req ((.int .i64 x12 : Value) = .int .i64 x11) <|
  HM.bind (α := Int) (HM.load1 (.int .i64) (Addr.add ⟨x1, 0, none⟩ 2)) fun x13 =>
  HM.req ((.int .i64 x13 : Value) = .int .i64 x10) <|
  HM.bind (α := Int) (HM.load1 (.int .i64) (Addr.add ⟨x1, 0, none⟩ 1)) fun x14 =>
  HM.req ((.int .i64 x14 : Value) = .int .i64 x9) <|
  HM.bind (α := Int) (HM.load1 (.int .i64) (Addr.add ⟨x1, 0, none⟩ 0)) fun x15 =>
  HM.req ((.int .i64 x15 : Value) = .int .i64 x8) <|
  HM.bind (α := Unit) (HM.storeN ⟨x3, 0, none⟩ [.int .i64 x8, .int .i64 x9, .int .i64 x10, .int .i64 x11]) fun _ =>
  HM.bind (α := Int × Int × Int × Int × Unit) (HM.loadN [.int .i64, .int .i64, .int .i64, .int .i64] ⟨x2, 0, none⟩) fun x16 =>
  HM.bind (α := Int × Int × Int × Int × Unit) (HM.loadN [.int .i64, .int .i64, .int .i64, .int .i64] ⟨x3, 0, none⟩) fun x17 =>
  HM.pure ((x16.1, x16.2.1, x16.2.2.1, x16.2.2.2.1, ()), (x17.1, x17.2.1, x17.2.2.1, x17.2.2.2.1, ()), ())
theorem law23_labels_den (p0 : Int × Int × Int × Int × Unit) : denFn Tryz.prog [] 24 [0, 1, 2, 3] [0, 1, 2, 3] Tryz.f14.results.toList [.agg [.int .i64, .int .i64, .int .i64, .int .i64], .agg [.int .i64, .int .i64, .int .i64, .int .i64]] (bodyOf Tryz.f14) [Kind.val (.agg [.int .i64, .int .i64, .int .i64, .int .i64]) p0] = law23_labels p0 := by kernel_rfl
theorem law23_labels_calls (p0 : Int × Int × Int × Int × Unit) (h : Heap) (Q : Value → Heap → Prop) (hh : law23_labels p0 h fun x h' => Q (.tuple #[.agg #[.int .i64 x.1.1, .int .i64 x.1.2.1, .int .i64 x.1.2.2.1, .int .i64 x.1.2.2.2.1], .agg #[.int .i64 x.2.1.1, .int .i64 x.2.1.2.1, .int .i64 x.2.1.2.2.1, .int .i64 x.2.1.2.2.2.1]]) h') :
    HCalls Tryz.prog 14 #[.agg #[.int .i64 p0.1, .int .i64 p0.2.1, .int .i64 p0.2.2.1, .int .i64 p0.2.2.2.1]] h Q :=
  calls_of_eq Tryz.func14 (by kernel_rfl) Tryz.ntmps14 (by kernel_rfl) CN orders (law23_labels_den p0) hh
def law23_sameMessages (p0 : Slc) (p1 : Slc) : HM (Bool × Unit) :=
  HM.ite (!(((p0.len : Nat) : Int) == ((p1.len : Nat) : Int))) (
  HM.pure (false, ())) (
  HM.bind (α := (Int × Unit) ⊕ (Bool × Unit)) (HM.loop (σ := Int × Unit) (τ := (Int × Unit) ⊕ (Bool × Unit)) (fun x2 =>
  HM.ite (decide (x2.1 < (((p0.len : Nat) : Int) : Int))) (
  HM.bind (α := Addr) (HM.idx p0.a p0.len x2.1 5) fun x3 =>
  HM.bind (α := ByteArray × ByteArray × Int × Bool × ByteArray × Unit) (HM.loadN [.str, .str, .int .i64, .bool, .str] x3) fun x4 =>
  HM.bind (α := Addr) (HM.idx p1.a p1.len x2.1 5) fun x5 =>
  HM.bind (α := ByteArray × ByteArray × Int × Bool × ByteArray × Unit) (HM.loadN [.str, .str, .int .i64, .bool, .str] x5) fun x6 =>
  HM.ite (!((decide (x4.1 = x6.1)) && ((decide (x4.2.1 = x6.2.1)) && ((x4.2.2.1 == x6.2.2.1) && ((x4.2.2.2.1 == x6.2.2.2.1) && ((decide (x4.2.2.2.2.1 = x6.2.2.2.2.1)) && true)))))) (
  HM.pure (.inr (.inr (false, ())))) (
  HM.pure (.inl (IntKind.wrap .i64 (x2.1 + 1), ())))) (
  HM.pure (.inr (.inl (x2.1, ()))))) (0, ())) (Sum.elim (fun x1 =>
  HM.pure (true, ())) HM.pure))
theorem law23_sameMessages_den (p0 : Slc) (p1 : Slc) : denFn Tryz.prog [] 26 [0, 1, 4, 5, 10, 12, 13, 14, 24] [0, 1, 5, 10, 12, 13, 14, 24] Tryz.f15.results.toList [.one .bool] (bodyOf Tryz.f15) [Kind.val (.one .slc) p0, Kind.val (.one .slc) p1] = law23_sameMessages p0 p1 := by kernel_rfl
theorem law23_sameMessages_calls (p0 : Slc) (p1 : Slc) (h : Heap) (Q : Value → Heap → Prop) (hh : law23_sameMessages p0 p1 h fun x h' => Q (.bool x.1) h') :
    HCalls Tryz.prog 15 #[.slice p0.a p0.len p0.cap, .slice p1.a p1.len p1.cap] h Q :=
  calls_of_eq Tryz.func15 (by kernel_rfl) Tryz.ntmps15 (by kernel_rfl) CN orders (law23_sameMessages_den p0 p1) hh
def bridge_Bridge_Route (p0 : Option Addr) (p1 : Int × Int × Int × Int × Unit) (p2 : ByteArray × ByteArray × Int × Bool × ByteArray × Unit) : HM (Slc × Unit) :=
  HM.bind (α := Nat) (HM.new (.cells #[.int .i64 p1.1, .int .i64 p1.2.1, .int .i64 p1.2.2.1, .int .i64 p1.2.2.2.1] 49)) fun x1 =>
  HM.bind (α := Nat) (HM.new (.cells #[.string p2.1, .string p2.2.1, .int .i64 p2.2.2.1, .bool p2.2.2.2.1, .string p2.2.2.2.2.1] 50)) fun x2 =>
  HM.bind (α := Bool × Unit) (HM.ite (Option.isNone p0) (
  HM.pure (true, ())) (
  HM.bind (α := Int × Int × Int × Int × Unit) (HM.loadN [.int .i64, .int .i64, .int .i64, .int .i64] ⟨x1, 0, none⟩) fun x3 =>
  HM.bind (α := ByteArray) (HM.call1 Tryz.prog (.one .str) 29 #[.agg #[.int .i64 x3.1, .int .i64 x3.2.1, .int .i64 x3.2.2.1, .int .i64 x3.2.2.2.1]]) fun x4 =>
  HM.ite (decide (x4 = (ByteArray.mk #[]))) (
  HM.pure (true, ())) (
  HM.bind (α := Int) (HM.load1 (.int .i64) (Addr.add ⟨x1, 0, none⟩ 2)) fun x5 =>
  HM.pure (decide (32 ≤ (x5 : Int)), ())))) fun x6 =>
  HM.ite x6.1 (
  HM.pure (⟨none, 0, 0⟩, ())) (
  HM.bind (α := Addr) (HM.nonnil p0) fun x7 =>
  HM.bind (α := Slc) (HM.load1 .slc (Addr.add x7 0)) fun x8 =>
  HM.bind (α := ByteArray) (HM.load1 .str (Addr.add ⟨x2, 0, none⟩ 0)) fun x9 =>
  HM.bind (α := Int) (HM.load1 (.int .i64) (Addr.add ⟨x1, 0, none⟩ 3)) fun x10 =>
  HM.bind (α := Slc) (HM.call1 Tryz.prog (.one .slc) 28 #[.slice x8.a x8.len x8.cap, .string x9, .int .i64 x10]) fun x11 =>
  HM.bind (α := Slc × Int × Unit) (HM.loop (σ := Slc × Int × Unit) (τ := Slc × Int × Unit) (fun x13 =>
  HM.ite (decide (x13.2.1 < (((x11.len : Nat) : Int) : Int))) (
  HM.bind (α := Addr) (HM.idx x11.a x11.len x13.2.1 3) fun x14 =>
  HM.bind (α := Int × ByteArray × Int × Unit) (HM.loadN [.int .i64, .str, .int .i64] x14) fun x15 =>
  HM.bind (α := Nat) (HM.new (.cells #[.int .i64 0, .string (ByteArray.mk #[]), .int .i64 0] 112)) fun x16 =>
  HM.bind (α := Unit) (HM.storeN ⟨x16, 0, none⟩ [.int .i64 x15.1, .string x15.2.1, .int .i64 x15.2.2.1]) fun _ =>
  HM.bind (α := Int × Int × Unit) (HM.loadN [.int .i64, .int .i64] (Addr.add ⟨x1, 0, none⟩ 0)) fun x17 =>
  HM.bind (α := Int) (HM.load1 (.int .i64) (Addr.add ⟨x1, 0, none⟩ 2)) fun x18 =>
  HM.bind (α := Int) (HM.load1 (.int .i64) (Addr.add ⟨x16, 0, none⟩ 2)) fun x19 =>
  HM.bind (α := Nat) (HM.new (.cells #[.int .i64 0, .int .i64 0, .int .i64 0, .int .i64 0] 49)) fun x20 =>
  HM.bind (α := Unit) (HM.storeN ⟨x20, 0, none⟩ [.int .i64 x17.1, .int .i64 x17.2.1, .int .i64 (IntKind.wrap .i64 (x18 + 1)), .int .i64 x19]) fun _ =>
  HM.bind (α := ByteArray) (HM.load1 .str (Addr.add ⟨x16, 0, none⟩ 1)) fun x21 =>
  HM.bind (α := ByteArray) (HM.load1 .str (Addr.add ⟨x2, 0, none⟩ 1)) fun x22 =>
  HM.bind (α := Bool) (HM.load1 .bool (Addr.add ⟨x2, 0, none⟩ 3)) fun x23 =>
  HM.bind (α := Int × Int × Int × Int × Unit) (HM.loadN [.int .i64, .int .i64, .int .i64, .int .i64] ⟨x20, 0, none⟩) fun x24 =>
  HM.bind (α := ByteArray) (HM.call1 Tryz.prog (.one .str) 29 #[.agg #[.int .i64 x24.1, .int .i64 x24.2.1, .int .i64 x24.2.2.1, .int .i64 x24.2.2.2.1]]) fun x25 =>
  HM.bind (α := Bool) (HM.load1 .bool (Addr.add ⟨x2, 0, none⟩ 3)) fun x26 =>
  HM.req ((.bool x26 : Value) = .bool x23) <|
  HM.bind (α := ByteArray) (HM.load1 .str (Addr.add ⟨x2, 0, none⟩ 1)) fun x27 =>
  HM.req ((.string x27 : Value) = .string x22) <|
  HM.bind (α := ByteArray) (HM.load1 .str (Addr.add ⟨x16, 0, none⟩ 1)) fun x28 =>
  HM.req ((.string x28 : Value) = .string x21) <|
  HM.bind (α := Nat) (HM.new (.cells #[.string x21, .string x22, .int .i64 1, .bool x23, .string x25] 50)) fun x29 =>
  HM.bind (α := Slc) (HM.append 50 5 64 #[.string (ByteArray.mk #[]), .string (ByteArray.mk #[]), .int .i64 0, .bool false, .string (ByteArray.mk #[])] x13.1 1 (srcSlc 5 (⟨some ⟨x29, 0, none⟩, 1, 1⟩))) fun x30 =>
  HM.pure (.inl (x30, IntKind.wrap .i64 (x13.2.1 + 1), ()))) (
  HM.pure (.inr (x13.1, x13.2.1, ())))) (⟨none, 0, 0⟩, 0, ())) fun x12 =>
  HM.pure (x12.1, ()))
theorem bridge_Bridge_Route_den (p0 : Option Addr) (p1 : Int × Int × Int × Int × Unit) (p2 : ByteArray × ByteArray × Int × Bool × ByteArray × Unit) : denFn Tryz.prog [29, 28] 59 [0, 1, 2, 4, 5, 6, 7, 9, 10, 22, 31, 32, 33, 34] [0, 1, 2, 4, 5, 7, 9, 10, 22, 31, 32, 33, 34] Tryz.f16.results.toList [.one .slc] (bodyOf Tryz.f16) [Kind.val (.one .ptr) p0, Kind.val (.agg [.int .i64, .int .i64, .int .i64, .int .i64]) p1, Kind.val (.agg [.str, .str, .int .i64, .bool, .str]) p2] = bridge_Bridge_Route p0 p1 p2 := by kernel_rfl
theorem bridge_Bridge_Route_calls (p0 : Option Addr) (p1 : Int × Int × Int × Int × Unit) (p2 : ByteArray × ByteArray × Int × Bool × ByteArray × Unit) (h : Heap) (Q : Value → Heap → Prop) (hh : bridge_Bridge_Route p0 p1 p2 h fun x h' => Q (.slice x.1.a x.1.len x.1.cap) h') :
    HCalls Tryz.prog 16 #[.pointer p0, .agg #[.int .i64 p1.1, .int .i64 p1.2.1, .int .i64 p1.2.2.1, .int .i64 p1.2.2.2.1], .agg #[.string p2.1, .string p2.2.1, .int .i64 p2.2.2.1, .bool p2.2.2.2.1, .string p2.2.2.2.2.1]] h Q :=
  calls_of_eq Tryz.func16 (by kernel_rfl) Tryz.ntmps16 (by kernel_rfl) (CC Tryz.call29 (CC Tryz.call28 CN)) orders (bridge_Bridge_Route_den p0 p1 p2) hh
def ref23_Route (p0 : Option Addr) (p1 : Int × Int × Int × Int × Unit) (p2 : ByteArray × ByteArray × Int × Bool × ByteArray × Unit) : HM (Slc × Unit) :=
  HM.bind (α := Nat) (HM.new (.cells #[.int .i64 p1.1, .int .i64 p1.2.1, .int .i64 p1.2.2.1, .int .i64 p1.2.2.2.1] 55)) fun x1 =>
  HM.bind (α := Nat) (HM.new (.cells #[.string p2.1, .string p2.2.1, .int .i64 p2.2.2.1, .bool p2.2.2.2.1, .string p2.2.2.2.2.1] 56)) fun x2 =>
  HM.bind (α := Int × Int × Int × Int × Unit) (HM.loadN [.int .i64, .int .i64, .int .i64, .int .i64] ⟨x1, 0, none⟩) fun x3 =>
  HM.bind (α := ByteArray) (HM.call1 Tryz.prog (.one .str) 41 #[.agg #[.int .i64 x3.1, .int .i64 x3.2.1, .int .i64 x3.2.2.1, .int .i64 x3.2.2.2.1]]) fun x4 =>
  HM.bind (α := Bool × Unit) (HM.ite (decide (x4 = (ByteArray.mk #[]))) (
  HM.pure (true, ())) (
  HM.bind (α := Int) (HM.load1 (.int .i64) (Addr.add ⟨x1, 0, none⟩ 2)) fun x5 =>
  HM.pure (x5 == 32, ()))) fun x6 =>
  HM.ite x6.1 (
  HM.pure (⟨none, 0, 0⟩, ())) (
  HM.bind (α := Addr) (HM.nonnil p0) fun x7 =>
  HM.bind (α := Slc) (HM.load1 .slc (Addr.add x7 0)) fun x8 =>
  HM.bind (α := ByteArray) (HM.load1 .str (Addr.add ⟨x2, 0, none⟩ 0)) fun x9 =>
  HM.bind (α := Int) (HM.load1 (.int .i64) (Addr.add ⟨x1, 0, none⟩ 3)) fun x10 =>
  HM.bind (α := Slc) (HM.call1 Tryz.prog (.one .slc) 42 #[.slice x8.a x8.len x8.cap, .string x9, .int .i64 x10]) fun x11 =>
  HM.bind (α := Slc × Int × Unit) (HM.loop (σ := Slc × Int × Unit) (τ := Slc × Int × Unit) (fun x13 =>
  HM.ite (decide (x13.2.1 < (((x11.len : Nat) : Int) : Int))) (
  HM.bind (α := Int × Int × Unit) (HM.loadN [.int .i64, .int .i64] (Addr.add ⟨x1, 0, none⟩ 0)) fun x14 =>
  HM.bind (α := Int) (HM.load1 (.int .i64) (Addr.add ⟨x1, 0, none⟩ 2)) fun x15 =>
  HM.bind (α := Addr) (HM.idx x11.a x11.len x13.2.1 3) fun x16 =>
  HM.bind (α := Int) (HM.load1 (.int .i64) (Addr.add x16 2)) fun x17 =>
  HM.bind (α := ByteArray) (HM.call1 Tryz.prog (.one .str) 41 #[.agg #[.int .i64 x14.1, .int .i64 x14.2.1, .int .i64 (IntKind.wrap .i64 (x15 + 1)), .int .i64 x17]]) fun x18 =>
  HM.bind (α := Addr) (HM.idx x11.a x11.len x13.2.1 3) fun x19 =>
  HM.bind (α := ByteArray) (HM.load1 .str (Addr.add x19 1)) fun x20 =>
  HM.bind (α := ByteArray) (HM.load1 .str (Addr.add ⟨x2, 0, none⟩ 1)) fun x21 =>
  HM.bind (α := Bool) (HM.load1 .bool (Addr.add ⟨x2, 0, none⟩ 3)) fun x22 =>
  HM.bind (α := Nat) (HM.new (.cells #[.string x20, .string x21, .int .i64 1, .bool x22, .string x18] 56)) fun x23 =>
  HM.bind (α := Slc) (HM.append 56 5 64 #[.string (ByteArray.mk #[]), .string (ByteArray.mk #[]), .int .i64 0, .bool false, .string (ByteArray.mk #[])] x13.1 1 (srcSlc 5 (⟨some ⟨x23, 0, none⟩, 1, 1⟩))) fun x24 =>
  HM.pure (.inl (x24, IntKind.wrap .i64 (x13.2.1 + 1), ()))) (
  HM.pure (.inr (x13.1, x13.2.1, ())))) (⟨none, 0, 0⟩, 0, ())) fun x12 =>
  HM.pure (x12.1, ()))
theorem ref23_Route_den (p0 : Option Addr) (p1 : Int × Int × Int × Int × Unit) (p2 : ByteArray × ByteArray × Int × Bool × ByteArray × Unit) : denFn Tryz.prog [41, 42] 63 [0, 1, 2, 4, 5, 6, 7, 8, 9, 10, 11, 20, 33] [0, 1, 2, 4, 5, 7, 8, 9, 10, 11, 20, 33] Tryz.f17.results.toList [.one .slc] (bodyOf Tryz.f17) [Kind.val (.one .ptr) p0, Kind.val (.agg [.int .i64, .int .i64, .int .i64, .int .i64]) p1, Kind.val (.agg [.str, .str, .int .i64, .bool, .str]) p2] = ref23_Route p0 p1 p2 := by kernel_rfl
theorem ref23_Route_calls (p0 : Option Addr) (p1 : Int × Int × Int × Int × Unit) (p2 : ByteArray × ByteArray × Int × Bool × ByteArray × Unit) (h : Heap) (Q : Value → Heap → Prop) (hh : ref23_Route p0 p1 p2 h fun x h' => Q (.slice x.1.a x.1.len x.1.cap) h') :
    HCalls Tryz.prog 17 #[.pointer p0, .agg #[.int .i64 p1.1, .int .i64 p1.2.1, .int .i64 p1.2.2.1, .int .i64 p1.2.2.2.1], .agg #[.string p2.1, .string p2.2.1, .int .i64 p2.2.2.1, .bool p2.2.2.2.1, .string p2.2.2.2.2.1]] h Q :=
  calls_of_eq Tryz.func17 (by kernel_rfl) Tryz.ntmps17 (by kernel_rfl) (CC Tryz.call41 (CC Tryz.call42 CN)) orders (ref23_Route_den p0 p1 p2) hh
def bridge_Bridge_Answer (p0 : Option Addr) (p1 : Int × Bool × Bool × Int × Int × ByteArray × ByteArray × Int × Slc × Slc × ByteArray × Bool × Int × Bool × ByteArray × ByteArray × Int × Bool × Slc × Bool × Bool × ByteArray × ByteArray × Bool × Slc × Slc × Unit) : HM (Slc × Int × Unit) :=
  HM.bind (α := Nat) (HM.new (.cells #[.int .i64 p1.1, .bool p1.2.1, .bool p1.2.2.1, .int .i64 p1.2.2.2.1, .int .i64 p1.2.2.2.2.1, .string p1.2.2.2.2.2.1, .string p1.2.2.2.2.2.2.1, .int .u8 p1.2.2.2.2.2.2.2.1, .slice p1.2.2.2.2.2.2.2.2.1.a p1.2.2.2.2.2.2.2.2.1.len p1.2.2.2.2.2.2.2.2.1.cap, .slice p1.2.2.2.2.2.2.2.2.2.1.a p1.2.2.2.2.2.2.2.2.2.1.len p1.2.2.2.2.2.2.2.2.2.1.cap, .string p1.2.2.2.2.2.2.2.2.2.2.1, .bool p1.2.2.2.2.2.2.2.2.2.2.2.1, .int .i64 p1.2.2.2.2.2.2.2.2.2.2.2.2.1, .bool p1.2.2.2.2.2.2.2.2.2.2.2.2.2.1, .string p1.2.2.2.2.2.2.2.2.2.2.2.2.2.2.1, .string p1.2.2.2.2.2.2.2.2.2.2.2.2.2.2.2.1, .int .i64 p1.2.2.2.2.2.2.2.2.2.2.2.2.2.2.2.2.1, .bool p1.2.2.2.2.2.2.2.2.2.2.2.2.2.2.2.2.2.1, .slice p1.2.2.2.2.2.2.2.2.2.2.2.2.2.2.2.2.2.2.1.a p1.2.2.2.2.2.2.2.2.2.2.2.2.2.2.2.2.2.2.1.len p1.2.2.2.2.2.2.2.2.2.2.2.2.2.2.2.2.2.2.1.cap, .bool p1.2.2.2.2.2.2.2.2.2.2.2.2.2.2.2.2.2.2.2.1, .bool p1.2.2.2.2.2.2.2.2.2.2.2.2.2.2.2.2.2.2.2.2.1, .string p1.2.2.2.2.2.2.2.2.2.2.2.2.2.2.2.2.2.2.2.2.2.1, .string p1.2.2.2.2.2.2.2.2.2.2.2.2.2.2.2.2.2.2.2.2.2.2.1, .bool p1.2.2.2.2.2.2.2.2.2.2.2.2.2.2.2.2.2.2.2.2.2.2.2.1, .slice p1.2.2.2.2.2.2.2.2.2.2.2.2.2.2.2.2.2.2.2.2.2.2.2.2.1.a p1.2.2.2.2.2.2.2.2.2.2.2.2.2.2.2.2.2.2.2.2.2.2.2.2.1.len p1.2.2.2.2.2.2.2.2.2.2.2.2.2.2.2.2.2.2.2.2.2.2.2.2.1.cap, .slice p1.2.2.2.2.2.2.2.2.2.2.2.2.2.2.2.2.2.2.2.2.2.2.2.2.2.1.a p1.2.2.2.2.2.2.2.2.2.2.2.2.2.2.2.2.2.2.2.2.2.2.2.2.2.1.len p1.2.2.2.2.2.2.2.2.2.2.2.2.2.2.2.2.2.2.2.2.2.2.2.2.2.1.cap] 34)) fun x1 =>
  HM.ite (Option.isNone p0) (
  HM.pure (⟨none, 0, 0⟩, 128, ())) (
  HM.bind (α := Addr) (HM.nonnil p0) fun x2 =>
  HM.bind (α := Option Addr) (HM.load1 .ptr (Addr.add x2 1)) fun x3 =>
  HM.bind (α := Int × Bool × Bool × Int × Int × ByteArray × ByteArray × Int × Slc × Slc × ByteArray × Bool × Int × Bool × ByteArray × ByteArray × Int × Bool × Slc × Bool × Bool × ByteArray × ByteArray × Bool × Slc × Slc × Unit) (HM.loadN [.int .i64, .bool, .bool, .int .i64, .int .i64, .str, .str, .int .u8, .slc, .slc, .str, .bool, .int .i64, .bool, .str, .str, .int .i64, .bool, .slc, .bool, .bool, .str, .str, .bool, .slc, .slc] ⟨x1, 0, none⟩) fun x4 =>
  HM.bind (α := Slc × Int × Unit) (HM.callN Tryz.prog [.one .slc, .one (.int .u8)] 43 #[.pointer x3, .agg #[.int .i64 x4.1, .bool x4.2.1, .bool x4.2.2.1, .int .i64 x4.2.2.2.1, .int .i64 x4.2.2.2.2.1, .string x4.2.2.2.2.2.1, .string x4.2.2.2.2.2.2.1, .int .u8 x4.2.2.2.2.2.2.2.1, .slice x4.2.2.2.2.2.2.2.2.1.a x4.2.2.2.2.2.2.2.2.1.len x4.2.2.2.2.2.2.2.2.1.cap, .slice x4.2.2.2.2.2.2.2.2.2.1.a x4.2.2.2.2.2.2.2.2.2.1.len x4.2.2.2.2.2.2.2.2.2.1.cap, .string x4.2.2.2.2.2.2.2.2.2.2.1, .bool x4.2.2.2.2.2.2.2.2.2.2.2.1, .int .i64 x4.2.2.2.2.2.2.2.2.2.2.2.2.1, .bool x4.2.2.2.2.2.2.2.2.2.2.2.2.2.1, .string x4.2.2.2.2.2.2.2.2.2.2.2.2.2.2.1, .string x4.2.2.2.2.2.2.2.2.2.2.2.2.2.2.2.1, .int .i64 x4.2.2.2.2.2.2.2.2.2.2.2.2.2.2.2.2.1, .bool x4.2.2.2.2.2.2.2.2.2.2.2.2.2.2.2.2.2.1, .slice x4.2.2.2.2.2.2.2.2.2.2.2.2.2.2.2.2.2.2.1.a x4.2.2.2.2.2.2.2.2.2.2.2.2.2.2.2.2.2.2.1.len x4.2.2.2.2.2.2.2.2.2.2.2.2.2.2.2.2.2.2.1.cap, .bool x4.2.2.2.2.2.2.2.2.2.2.2.2.2.2.2.2.2.2.2.1, .bool x4.2.2.2.2.2.2.2.2.2.2.2.2.2.2.2.2.2.2.2.2.1, .string x4.2.2.2.2.2.2.2.2.2.2.2.2.2.2.2.2.2.2.2.2.2.1, .string x4.2.2.2.2.2.2.2.2.2.2.2.2.2.2.2.2.2.2.2.2.2.2.1, .bool x4.2.2.2.2.2.2.2.2.2.2.2.2.2.2.2.2.2.2.2.2.2.2.2.1, .slice x4.2.2.2.2.2.2.2.2.2.2.2.2.2.2.2.2.2.2.2.2.2.2.2.2.1.a x4.2.2.2.2.2.2.2.2.2.2.2.2.2.2.2.2.2.2.2.2.2.2.2.2.1.len x4.2.2.2.2.2.2.2.2.2.2.2.2.2.2.2.2.2.2.2.2.2.2.2.2.1.cap, .slice x4.2.2.2.2.2.2.2.2.2.2.2.2.2.2.2.2.2.2.2.2.2.2.2.2.2.1.a x4.2.2.2.2.2.2.2.2.2.2.2.2.2.2.2.2.2.2.2.2.2.2.2.2.2.1.len x4.2.2.2.2.2.2.2.2.2.2.2.2.2.2.2.2.2.2.2.2.2.2.2.2.2.1.cap]]) fun x5 =>
  HM.pure (x5.1, x5.2.1, ()))
theorem bridge_Bridge_Answer_den (p0 : Option Addr) (p1 : Int × Bool × Bool × Int × Int × ByteArray × ByteArray × Int × Slc × Slc × ByteArray × Bool × Int × Bool × ByteArray × ByteArray × Int × Bool × Slc × Bool × Bool × ByteArray × ByteArray × Bool × Slc × Slc × Unit) : denFn Tryz.prog [43] 16 [0, 1, 3, 4, 5, 7] [0, 1, 3, 7] Tryz.f18.results.toList [.one .slc, .one (.int .u8)] (bodyOf Tryz.f18) [Kind.val (.one .ptr) p0, Kind.val (.agg [.int .i64, .bool, .bool, .int .i64, .int .i64, .str, .str, .int .u8, .slc, .slc, .str, .bool, .int .i64, .bool, .str, .str, .int .i64, .bool, .slc, .bool, .bool, .str, .str, .bool, .slc, .slc]) p1] = bridge_Bridge_Answer p0 p1 := by kernel_rfl
theorem bridge_Bridge_Answer_calls (p0 : Option Addr) (p1 : Int × Bool × Bool × Int × Int × ByteArray × ByteArray × Int × Slc × Slc × ByteArray × Bool × Int × Bool × ByteArray × ByteArray × Int × Bool × Slc × Bool × Bool × ByteArray × ByteArray × Bool × Slc × Slc × Unit) (h : Heap) (Q : Value → Heap → Prop) (hh : bridge_Bridge_Answer p0 p1 h fun x h' => Q (.tuple #[.slice x.1.a x.1.len x.1.cap, .int .u8 x.2.1]) h') :
    HCalls Tryz.prog 18 #[.pointer p0, .agg #[.int .i64 p1.1, .bool p1.2.1, .bool p1.2.2.1, .int .i64 p1.2.2.2.1, .int .i64 p1.2.2.2.2.1, .string p1.2.2.2.2.2.1, .string p1.2.2.2.2.2.2.1, .int .u8 p1.2.2.2.2.2.2.2.1, .slice p1.2.2.2.2.2.2.2.2.1.a p1.2.2.2.2.2.2.2.2.1.len p1.2.2.2.2.2.2.2.2.1.cap, .slice p1.2.2.2.2.2.2.2.2.2.1.a p1.2.2.2.2.2.2.2.2.2.1.len p1.2.2.2.2.2.2.2.2.2.1.cap, .string p1.2.2.2.2.2.2.2.2.2.2.1, .bool p1.2.2.2.2.2.2.2.2.2.2.2.1, .int .i64 p1.2.2.2.2.2.2.2.2.2.2.2.2.1, .bool p1.2.2.2.2.2.2.2.2.2.2.2.2.2.1, .string p1.2.2.2.2.2.2.2.2.2.2.2.2.2.2.1, .string p1.2.2.2.2.2.2.2.2.2.2.2.2.2.2.2.1, .int .i64 p1.2.2.2.2.2.2.2.2.2.2.2.2.2.2.2.2.1, .bool p1.2.2.2.2.2.2.2.2.2.2.2.2.2.2.2.2.2.1, .slice p1.2.2.2.2.2.2.2.2.2.2.2.2.2.2.2.2.2.2.1.a p1.2.2.2.2.2.2.2.2.2.2.2.2.2.2.2.2.2.2.1.len p1.2.2.2.2.2.2.2.2.2.2.2.2.2.2.2.2.2.2.1.cap, .bool p1.2.2.2.2.2.2.2.2.2.2.2.2.2.2.2.2.2.2.2.1, .bool p1.2.2.2.2.2.2.2.2.2.2.2.2.2.2.2.2.2.2.2.2.1, .string p1.2.2.2.2.2.2.2.2.2.2.2.2.2.2.2.2.2.2.2.2.2.1, .string p1.2.2.2.2.2.2.2.2.2.2.2.2.2.2.2.2.2.2.2.2.2.2.1, .bool p1.2.2.2.2.2.2.2.2.2.2.2.2.2.2.2.2.2.2.2.2.2.2.2.1, .slice p1.2.2.2.2.2.2.2.2.2.2.2.2.2.2.2.2.2.2.2.2.2.2.2.2.1.a p1.2.2.2.2.2.2.2.2.2.2.2.2.2.2.2.2.2.2.2.2.2.2.2.2.1.len p1.2.2.2.2.2.2.2.2.2.2.2.2.2.2.2.2.2.2.2.2.2.2.2.2.1.cap, .slice p1.2.2.2.2.2.2.2.2.2.2.2.2.2.2.2.2.2.2.2.2.2.2.2.2.2.1.a p1.2.2.2.2.2.2.2.2.2.2.2.2.2.2.2.2.2.2.2.2.2.2.2.2.2.1.len p1.2.2.2.2.2.2.2.2.2.2.2.2.2.2.2.2.2.2.2.2.2.2.2.2.2.1.cap]] h Q :=
  calls_of_eq Tryz.func18 (by kernel_rfl) Tryz.ntmps18 (by kernel_rfl) (CC Tryz.call43 CN) orders (bridge_Bridge_Answer_den p0 p1) hh
def ref14_Answer (p0 : Option Addr) (p1 : Int × Bool × Bool × Int × Int × ByteArray × ByteArray × Int × Slc × Slc × ByteArray × Bool × Int × Bool × ByteArray × ByteArray × Int × Bool × Slc × Bool × Bool × ByteArray × ByteArray × Bool × Slc × Slc × Unit) : HM (Slc × Int × Unit) :=
  HM.bind (α := Nat) (HM.new (.cells #[.int .i64 p1.1, .bool p1.2.1, .bool p1.2.2.1, .int .i64 p1.2.2.2.1, .int .i64 p1.2.2.2.2.1, .string p1.2.2.2.2.2.1, .string p1.2.2.2.2.2.2.1, .int .i64 p1.2.2.2.2.2.2.2.1, .slice p1.2.2.2.2.2.2.2.2.1.a p1.2.2.2.2.2.2.2.2.1.len p1.2.2.2.2.2.2.2.2.1.cap, .slice p1.2.2.2.2.2.2.2.2.2.1.a p1.2.2.2.2.2.2.2.2.2.1.len p1.2.2.2.2.2.2.2.2.2.1.cap, .string p1.2.2.2.2.2.2.2.2.2.2.1, .bool p1.2.2.2.2.2.2.2.2.2.2.2.1, .int .i64 p1.2.2.2.2.2.2.2.2.2.2.2.2.1, .bool p1.2.2.2.2.2.2.2.2.2.2.2.2.2.1, .string p1.2.2.2.2.2.2.2.2.2.2.2.2.2.2.1, .string p1.2.2.2.2.2.2.2.2.2.2.2.2.2.2.2.1, .int .i64 p1.2.2.2.2.2.2.2.2.2.2.2.2.2.2.2.2.1, .bool p1.2.2.2.2.2.2.2.2.2.2.2.2.2.2.2.2.2.1, .slice p1.2.2.2.2.2.2.2.2.2.2.2.2.2.2.2.2.2.2.1.a p1.2.2.2.2.2.2.2.2.2.2.2.2.2.2.2.2.2.2.1.len p1.2.2.2.2.2.2.2.2.2.2.2.2.2.2.2.2.2.2.1.cap, .bool p1.2.2.2.2.2.2.2.2.2.2.2.2.2.2.2.2.2.2.2.1, .bool p1.2.2.2.2.2.2.2.2.2.2.2.2.2.2.2.2.2.2.2.2.1, .string p1.2.2.2.2.2.2.2.2.2.2.2.2.2.2.2.2.2.2.2.2.2.1, .string p1.2.2.2.2.2.2.2.2.2.2.2.2.2.2.2.2.2.2.2.2.2.2.1, .bool p1.2.2.2.2.2.2.2.2.2.2.2.2.2.2.2.2.2.2.2.2.2.2.2.1, .slice p1.2.2.2.2.2.2.2.2.2.2.2.2.2.2.2.2.2.2.2.2.2.2.2.2.1.a p1.2.2.2.2.2.2.2.2.2.2.2.2.2.2.2.2.2.2.2.2.2.2.2.2.1.len p1.2.2.2.2.2.2.2.2.2.2.2.2.2.2.2.2.2.2.2.2.2.2.2.2.1.cap, .slice p1.2.2.2.2.2.2.2.2.2.2.2.2.2.2.2.2.2.2.2.2.2.2.2.2.2.1.a p1.2.2.2.2.2.2.2.2.2.2.2.2.2.2.2.2.2.2.2.2.2.2.2.2.2.1.len p1.2.2.2.2.2.2.2.2.2.2.2.2.2.2.2.2.2.2.2.2.2.2.2.2.2.1.cap] 41)) fun x1 =>
  HM.bind (α := Int) (HM.load1 (.int .i64) (Addr.add ⟨x1, 0, none⟩ 0)) fun x2 =>
  HM.bind (α := Int) (HM.load1 (.int .i64) (Addr.add ⟨x1, 0, none⟩ 0)) fun x3 =>
  HM.bind (α := Int) (HM.load1 (.int .i64) (Addr.add ⟨x1, 0, none⟩ 0)) fun x4 =>
  HM.bind (α := Bool × Unit) (HM.bind (α := Addr) (HM.nonnil p0) fun x5 =>
  HM.bind (α := Bool) (HM.load1 .bool (Addr.add x5 2)) fun x6 =>
  HM.ite (!x6) (
  HM.pure (true, ())) (
  HM.ite (!(x2 == 4)) (
  HM.ite (!(x3 == 5)) (
  HM.pure (!(x4 == 7), ())) (
  HM.pure (false, ()))) (
  HM.pure (false, ())))) fun x7 =>
  HM.ite x7.1 (
  HM.pure (⟨none, 0, 0⟩, 130, ())) (
  HM.bind (α := Int × Int × Unit) (HM.loop (σ := Int × Int × Unit) (τ := Int × Int × Unit) (fun x9 =>
  HM.bind (α := Addr) (HM.nonnil p0) fun x10 =>
  HM.bind (α := Slc) (HM.load1 .slc (Addr.add x10 3)) fun x11 =>
  HM.ite (decide (x9.2.1 < (((x11.len : Nat) : Int) : Int))) (
  HM.bind (α := Addr) (HM.nonnil p0) fun x12 =>
  HM.bind (α := Slc) (HM.load1 .slc (Addr.add x12 3)) fun x13 =>
  HM.bind (α := Addr) (HM.idx x13.a x13.len x9.2.1 7) fun x14 =>
  HM.bind (α := Int) (HM.load1 (.int .i64) (Addr.add x14 0)) fun x15 =>
  HM.bind (α := Int) (HM.load1 (.int .i64) (Addr.add ⟨x1, 0, none⟩ 4)) fun x16 =>
  HM.bind (α := Int × Unit) (HM.ite (x15 == x16) (
  HM.pure (x9.2.1, ())) (
  HM.pure (x9.1, ()))) fun x17 =>
  HM.pure (.inl (x17.1, IntKind.wrap .i64 (x9.2.1 + 1), ()))) (
  HM.pure (.inr (x9.1, x9.2.1, ())))) ((-1), 0, ())) fun x8 =>
  HM.ite (decide (x8.1 < (0 : Int))) (
  HM.pure (⟨none, 0, 0⟩, 146, ())) (
  HM.bind (α := Addr) (HM.nonnil p0) fun x18 =>
  HM.bind (α := Slc) (HM.load1 .slc (Addr.add x18 3)) fun x19 =>
  HM.bind (α := Addr) (HM.idx x19.a x19.len x8.1 7) fun x20 =>
  HM.bind (α := Int × ByteArray × ByteArray × Int × Bool × ByteArray × Bool × Unit) (HM.loadN [.int .i64, .str, .str, .int .i64, .bool, .str, .bool] x20) fun x21 =>
  HM.bind (α := Nat) (HM.new (.cells #[.int .i64 0, .string (ByteArray.mk #[]), .string (ByteArray.mk #[]), .int .i64 0, .bool false, .string (ByteArray.mk #[]), .bool false] 144)) fun x22 =>
  HM.bind (α := Unit) (HM.storeN ⟨x22, 0, none⟩ [.int .i64 x21.1, .string x21.2.1, .string x21.2.2.1, .int .i64 x21.2.2.2.1, .bool x21.2.2.2.2.1, .string x21.2.2.2.2.2.1, .bool x21.2.2.2.2.2.2.1]) fun _ =>
  HM.bind (α := Bool × Unit) (HM.ite (x2 == 4) (
  HM.bind (α := Int) (HM.load1 (.int .i64) (Addr.add (Addr.add ⟨x22, 0, none⟩ 1) 2)) fun x23 =>
  HM.pure (!(x23 == 1), ())) (
  HM.pure (false, ()))) fun x24 =>
  HM.ite x24.1 (
  HM.pure (⟨none, 0, 0⟩, 130, ())) (
  HM.bind (α := Bool × Unit) (HM.ite (x3 == 5) (
  HM.bind (α := Int) (HM.load1 (.int .i64) (Addr.add (Addr.add ⟨x22, 0, none⟩ 1) 2)) fun x25 =>
  HM.pure (!(x25 == 2), ())) (
  HM.ite (x4 == 7) (
  HM.bind (α := Int) (HM.load1 (.int .i64) (Addr.add (Addr.add ⟨x22, 0, none⟩ 1) 2)) fun x26 =>
  HM.pure (!(x26 == 2), ())) (
  HM.pure (false, ())))) fun x27 =>
  HM.ite x27.1 (
  HM.pure (⟨none, 0, 0⟩, 130, ())) (
  HM.bind (α := Bool × Unit) (HM.ite (x3 == 5) (
  HM.bind (α := Int) (HM.load1 (.int .i64) (Addr.add ⟨x1, 0, none⟩ 7)) fun x28 =>
  HM.ite (decide (128 ≤ (x28 : Int))) (
  HM.bind (α := Bool) (HM.load1 .bool (Addr.add ⟨x22, 0, none⟩ 6)) fun x29 =>
  HM.pure (x29, ())) (
  HM.pure (false, ()))) (
  HM.pure (false, ()))) fun x30 =>
  HM.ite x30.1 (
  HM.pure (⟨none, 0, 0⟩, 130, ())) (
  HM.bind (α := Bool × Unit) (HM.ite (x4 == 7) (
  HM.bind (α := Bool) (HM.load1 .bool (Addr.add ⟨x22, 0, none⟩ 6)) fun x31 =>
  HM.pure (!x31, ())) (
  HM.pure (false, ()))) fun x32 =>
  HM.ite x32.1 (
  HM.pure (⟨none, 0, 0⟩, 130, ())) (
  HM.bind (α := Bool × Unit) (HM.ite (x3 == 5) (
  HM.bind (α := Int) (HM.load1 (.int .i64) (Addr.add ⟨x1, 0, none⟩ 7)) fun x33 =>
  HM.pure (decide (x33 < (128 : Int)), ())) (
  HM.pure (false, ()))) fun x34 =>
  HM.bind (α := Slc × Unit) (HM.ite x34.1 (
  HM.bind (α := Addr) (HM.nonnil p0) fun x36 =>
  HM.bind (α := Slc) (HM.load1 .slc (Addr.add x36 3)) fun x37 =>
  HM.bind (α := Addr) (HM.idx x37.a x37.len x8.1 7) fun x38 =>
  HM.bind (α := Unit) (HM.store1 (Addr.add x38 6) (.bool true)) fun _ =>
  HM.bind (α := Int) (HM.load1 (.int .i64) (Addr.add ⟨x1, 0, none⟩ 4)) fun x39 =>
  HM.bind (α := Nat) (HM.new (.cells #[.int .i64 6, .bool false, .bool false, .int .i64 0, .int .i64 x39, .string (ByteArray.mk #[]), .string (ByteArray.mk #[]), .int .i64 0, .slice none 0 0, .slice none 0 0, .string (ByteArray.mk #[]), .bool false, .int .i64 0, .bool false, .string (ByteArray.mk #[]), .string (ByteArray.mk #[]), .int .i64 0, .bool false, .slice none 0 0, .bool false, .bool false, .string (ByteArray.mk #[]), .string (ByteArray.mk #[]), .bool false, .slice none 0 0, .slice none 0 0] 41)) fun x40 =>
  HM.bind (α := Slc) (HM.append 41 26 328 #[.int .i64 0, .bool false, .bool false, .int .i64 0, .int .i64 0, .string (ByteArray.mk #[]), .string (ByteArray.mk #[]), .int .i64 0, .slice none 0 0, .slice none 0 0, .string (ByteArray.mk #[]), .bool false, .int .i64 0, .bool false, .string (ByteArray.mk #[]), .string (ByteArray.mk #[]), .int .i64 0, .bool false, .slice none 0 0, .bool false, .bool false, .string (ByteArray.mk #[]), .string (ByteArray.mk #[]), .bool false, .slice none 0 0, .slice none 0 0] ⟨none, 0, 0⟩ 1 (srcSlc 26 (⟨some ⟨x40, 0, none⟩, 1, 1⟩))) fun x41 =>
  HM.pure (x41, ())) (
  HM.bind (α := Unit) (HM.callN Tryz.prog [] 44 #[.pointer p0, .int .i64 x8.1]) fun x42 =>
  HM.pure (⟨none, 0, 0⟩, ()))) fun x35 =>
  HM.bind (α := Slc) (HM.call1 Tryz.prog (.one .slc) 45 #[.pointer p0, .slice x35.1.a x35.1.len x35.1.cap]) fun x43 =>
  HM.pure (x43, 0, ())))))))
theorem ref14_Answer_den (p0 : Option Addr) (p1 : Int × Bool × Bool × Int × Int × ByteArray × ByteArray × Int × Slc × Slc × ByteArray × Bool × Int × Bool × ByteArray × ByteArray × Int × Bool × Slc × Bool × Bool × ByteArray × ByteArray × Bool × Slc × Slc × Unit) : denFn Tryz.prog [44, 45] 128 [0, 1, 3, 4, 5, 6, 7, 8, 9, 10, 11, 12, 38, 45, 58, 61, 75, 85, 95, 101, 107] [0, 1, 3, 6, 7, 8, 9, 10, 11, 12, 38, 45, 58, 61, 75, 85, 95, 101, 107] Tryz.f19.results.toList [.one .slc, .one (.int .i64)] (bodyOf Tryz.f19) [Kind.val (.one .ptr) p0, Kind.val (.agg [.int .i64, .bool, .bool, .int .i64, .int .i64, .str, .str, .int .i64, .slc, .slc, .str, .bool, .int .i64, .bool, .str, .str, .int .i64, .bool, .slc, .bool, .bool, .str, .str, .bool, .slc, .slc]) p1] = ref14_Answer p0 p1 := by kernel_rfl
theorem ref14_Answer_calls (p0 : Option Addr) (p1 : Int × Bool × Bool × Int × Int × ByteArray × ByteArray × Int × Slc × Slc × ByteArray × Bool × Int × Bool × ByteArray × ByteArray × Int × Bool × Slc × Bool × Bool × ByteArray × ByteArray × Bool × Slc × Slc × Unit) (h : Heap) (Q : Value → Heap → Prop) (hh : ref14_Answer p0 p1 h fun x h' => Q (.tuple #[.slice x.1.a x.1.len x.1.cap, .int .i64 x.2.1]) h') :
    HCalls Tryz.prog 19 #[.pointer p0, .agg #[.int .i64 p1.1, .bool p1.2.1, .bool p1.2.2.1, .int .i64 p1.2.2.2.1, .int .i64 p1.2.2.2.2.1, .string p1.2.2.2.2.2.1, .string p1.2.2.2.2.2.2.1, .int .i64 p1.2.2.2.2.2.2.2.1, .slice p1.2.2.2.2.2.2.2.2.1.a p1.2.2.2.2.2.2.2.2.1.len p1.2.2.2.2.2.2.2.2.1.cap, .slice p1.2.2.2.2.2.2.2.2.2.1.a p1.2.2.2.2.2.2.2.2.2.1.len p1.2.2.2.2.2.2.2.2.2.1.cap, .string p1.2.2.2.2.2.2.2.2.2.2.1, .bool p1.2.2.2.2.2.2.2.2.2.2.2.1, .int .i64 p1.2.2.2.2.2.2.2.2.2.2.2.2.1, .bool p1.2.2.2.2.2.2.2.2.2.2.2.2.2.1, .string p1.2.2.2.2.2.2.2.2.2.2.2.2.2.2.1, .string p1.2.2.2.2.2.2.2.2.2.2.2.2.2.2.2.1, .int .i64 p1.2.2.2.2.2.2.2.2.2.2.2.2.2.2.2.2.1, .bool p1.2.2.2.2.2.2.2.2.2.2.2.2.2.2.2.2.2.1, .slice p1.2.2.2.2.2.2.2.2.2.2.2.2.2.2.2.2.2.2.1.a p1.2.2.2.2.2.2.2.2.2.2.2.2.2.2.2.2.2.2.1.len p1.2.2.2.2.2.2.2.2.2.2.2.2.2.2.2.2.2.2.1.cap, .bool p1.2.2.2.2.2.2.2.2.2.2.2.2.2.2.2.2.2.2.2.1, .bool p1.2.2.2.2.2.2.2.2.2.2.2.2.2.2.2.2.2.2.2.2.1, .string p1.2.2.2.2.2.2.2.2.2.2.2.2.2.2.2.2.2.2.2.2.2.1, .string p1.2.2.2.2.2.2.2.2.2.2.2.2.2.2.2.2.2.2.2.2.2.2.1, .bool p1.2.2.2.2.2.2.2.2.2.2.2.2.2.2.2.2.2.2.2.2.2.2.2.1, .slice p1.2.2.2.2.2.2.2.2.2.2.2.2.2.2.2.2.2.2.2.2.2.2.2.2.1.a p1.2.2.2.2.2.2.2.2.2.2.2.2.2.2.2.2.2.2.2.2.2.2.2.2.1.len p1.2.2.2.2.2.2.2.2.2.2.2.2.2.2.2.2.2.2.2.2.2.2.2.2.1.cap, .slice p1.2.2.2.2.2.2.2.2.2.2.2.2.2.2.2.2.2.2.2.2.2.2.2.2.2.1.a p1.2.2.2.2.2.2.2.2.2.2.2.2.2.2.2.2.2.2.2.2.2.2.2.2.2.1.len p1.2.2.2.2.2.2.2.2.2.2.2.2.2.2.2.2.2.2.2.2.2.2.2.2.2.1.cap]] h Q :=
  calls_of_eq Tryz.func19 (by kernel_rfl) Tryz.ntmps19 (by kernel_rfl) (CC Tryz.call44 (CC Tryz.call45 CN)) orders (ref14_Answer_den p0 p1) hh
def bridge_Bridge_Begin (p0 : Option Addr) : HM (Slc × Unit) :=
  HM.ite (Option.isNone p0) (
  HM.pure (⟨none, 0, 0⟩, ())) (
  HM.bind (α := Addr) (HM.nonnil p0) fun x1 =>
  HM.bind (α := Option Addr) (HM.load1 .ptr (Addr.add x1 1)) fun x2 =>
  HM.bind (α := Slc) (HM.call1 Tryz.prog (.one .slc) 46 #[.pointer x2, .int .i64 64]) fun x3 =>
  HM.pure (x3, ()))
theorem bridge_Bridge_Begin_den (p0 : Option Addr) : denFn Tryz.prog [46] 10 [0, 2, 4] [0, 4] Tryz.f20.results.toList [.one .slc] (bodyOf Tryz.f20) [Kind.val (.one .ptr) p0] = bridge_Bridge_Begin p0 := by kernel_rfl
theorem bridge_Bridge_Begin_calls (p0 : Option Addr) (h : Heap) (Q : Value → Heap → Prop) (hh : bridge_Bridge_Begin p0 h fun x h' => Q (.slice x.1.a x.1.len x.1.cap) h') :
    HCalls Tryz.prog 20 #[.pointer p0] h Q :=
  calls_of_eq Tryz.func20 (by kernel_rfl) Tryz.ntmps20 (by kernel_rfl) (CC Tryz.call46 CN) orders (bridge_Bridge_Begin_den p0) hh
def ref14_Begin (p0 : Option Addr) (p1 : Int) : HM (Slc × Unit) :=
  HM.bind (α := Addr) (HM.nonnil p0) fun x1 =>
  HM.bind (α := Unit) (HM.store1 (Addr.add x1 2) (.bool true)) fun _ =>
  HM.bind (α := Int) (HM.call1 Tryz.prog (.one (.int .i64)) 47 #[.int .i64 p1]) fun x2 =>
  HM.bind (α := Addr) (HM.nonnil p0) fun x3 =>
  HM.bind (α := Unit) (HM.store1 (Addr.add x3 1) (.int .i64 x2)) fun _ =>
  HM.bind (α := Slc × Int × Unit) (HM.loop (σ := Slc × Int × Unit) (τ := Slc × Int × Unit) (fun x5 =>
  HM.bind (α := Addr) (HM.nonnil p0) fun x6 =>
  HM.bind (α := Slc) (HM.load1 .slc (Addr.add x6 3)) fun x7 =>
  HM.ite (decide (x5.2.1 < (((x7.len : Nat) : Int) : Int))) (
  HM.bind (α := Slc × Unit) (HM.bind (α := Addr) (HM.nonnil p0) fun x9 =>
  HM.bind (α := Slc) (HM.load1 .slc (Addr.add x9 3)) fun x10 =>
  HM.bind (α := Addr) (HM.idx x10.a x10.len x5.2.1 7) fun x11 =>
  HM.bind (α := Int × ByteArray × ByteArray × Int × Bool × ByteArray × Bool × Unit) (HM.loadN [.int .i64, .str, .str, .int .i64, .bool, .str, .bool] x11) fun x12 =>
  HM.bind (α := Nat) (HM.new (.cells #[.int .i64 0, .string (ByteArray.mk #[]), .string (ByteArray.mk #[]), .int .i64 0, .bool false, .string (ByteArray.mk #[]), .bool false] 144)) fun x13 =>
  HM.bind (α := Unit) (HM.storeN ⟨x13, 0, none⟩ [.int .i64 x12.1, .string x12.2.1, .string x12.2.2.1, .int .i64 x12.2.2.2.1, .bool x12.2.2.2.2.1, .string x12.2.2.2.2.2.1, .bool x12.2.2.2.2.2.2.1]) fun _ =>
  HM.bind (α := Bool) (HM.load1 .bool (Addr.add ⟨x13, 0, none⟩ 6)) fun x14 =>
  HM.ite x14 (
  HM.bind (α := Int) (HM.load1 (.int .i64) (Addr.add ⟨x13, 0, none⟩ 0)) fun x15 =>
  HM.bind (α := Nat) (HM.new (.cells #[.int .i64 6, .bool false, .bool false, .int .i64 0, .int .i64 x15, .string (ByteArray.mk #[]), .string (ByteArray.mk #[]), .int .i64 0, .slice none 0 0, .slice none 0 0, .string (ByteArray.mk #[]), .bool false, .int .i64 0, .bool false, .string (ByteArray.mk #[]), .string (ByteArray.mk #[]), .int .i64 0, .bool false, .slice none 0 0, .bool false, .bool false, .string (ByteArray.mk #[]), .string (ByteArray.mk #[]), .bool false, .slice none 0 0, .slice none 0 0] 41)) fun x16 =>
  HM.bind (α := Slc) (HM.append 41 26 328 #[.int .i64 0, .bool false, .bool false, .int .i64 0, .int .i64 0, .string (ByteArray.mk #[]), .string (ByteArray.mk #[]), .int .i64 0, .slice none 0 0, .slice none 0 0, .string (ByteArray.mk #[]), .bool false, .int .i64 0, .bool false, .string (ByteArray.mk #[]), .string (ByteArray.mk #[]), .int .i64 0, .bool false, .slice none 0 0, .bool false, .bool false, .string (ByteArray.mk #[]), .string (ByteArray.mk #[]), .bool false, .slice none 0 0, .slice none 0 0] x5.1 1 (srcSlc 26 (⟨some ⟨x16, 0, none⟩, 1, 1⟩))) fun x17 =>
  HM.pure (x17, ())) (
  HM.bind (α := ByteArray × ByteArray × Int × Bool × ByteArray × Unit) (HM.loadN [.str, .str, .int .i64, .bool, .str] (Addr.add ⟨x13, 0, none⟩ 1)) fun x18 =>
  HM.bind (α := Int) (HM.load1 (.int .i64) (Addr.add ⟨x13, 0, none⟩ 0)) fun x19 =>
  HM.bind (α := Int × Bool × Bool × Int × Int × ByteArray × ByteArray × Int × Slc × Slc × ByteArray × Bool × Int × Bool × ByteArray × ByteArray × Int × Bool × Slc × Bool × Bool × ByteArray × ByteArray × Bool × Slc × Slc × Unit) (HM.call1 Tryz.prog (.agg [.int .i64, .bool, .bool, .int .i64, .int .i64, .str, .str, .int .i64, .slc, .slc, .str, .bool, .int .i64, .bool, .str, .str, .int .i64, .bool, .slc, .bool, .bool, .str, .str, .bool, .slc, .slc]) 48 #[.agg #[.string x18.1, .string x18.2.1, .int .i64 x18.2.2.1, .bool x18.2.2.2.1, .string x18.2.2.2.2.1], .int .i64 x19, .bool true]) fun x20 =>
  HM.bind (α := Nat) (HM.new (.cells #[.int .i64 0, .bool false, .bool false, .int .i64 0, .int .i64 0, .string (ByteArray.mk #[]), .string (ByteArray.mk #[]), .int .i64 0, .slice none 0 0, .slice none 0 0, .string (ByteArray.mk #[]), .bool false, .int .i64 0, .bool false, .string (ByteArray.mk #[]), .string (ByteArray.mk #[]), .int .i64 0, .bool false, .slice none 0 0, .bool false, .bool false, .string (ByteArray.mk #[]), .string (ByteArray.mk #[]), .bool false, .slice none 0 0, .slice none 0 0] 41)) fun x21 =>
  HM.bind (α := Unit) (HM.storeN ⟨x21, 0, none⟩ [.int .i64 x20.1, .bool x20.2.1, .bool x20.2.2.1, .int .i64 x20.2.2.2.1, .int .i64 x20.2.2.2.2.1, .string x20.2.2.2.2.2.1, .string x20.2.2.2.2.2.2.1, .int .i64 x20.2.2.2.2.2.2.2.1, .slice x20.2.2.2.2.2.2.2.2.1.a x20.2.2.2.2.2.2.2.2.1.len x20.2.2.2.2.2.2.2.2.1.cap, .slice x20.2.2.2.2.2.2.2.2.2.1.a x20.2.2.2.2.2.2.2.2.2.1.len x20.2.2.2.2.2.2.2.2.2.1.cap, .string x20.2.2.2.2.2.2.2.2.2.2.1, .bool x20.2.2.2.2.2.2.2.2.2.2.2.1, .int .i64 x20.2.2.2.2.2.2.2.2.2.2.2.2.1, .bool x20.2.2.2.2.2.2.2.2.2.2.2.2.2.1, .string x20.2.2.2.2.2.2.2.2.2.2.2.2.2.2.1, .string x20.2.2.2.2.2.2.2.2.2.2.2.2.2.2.2.1, .int .i64 x20.2.2.2.2.2.2.2.2.2.2.2.2.2.2.2.2.1, .bool x20.2.2.2.2.2.2.2.2.2.2.2.2.2.2.2.2.2.1, .slice x20.2.2.2.2.2.2.2.2.2.2.2.2.2.2.2.2.2.2.1.a x20.2.2.2.2.2.2.2.2.2.2.2.2.2.2.2.2.2.2.1.len x20.2.2.2.2.2.2.2.2.2.2.2.2.2.2.2.2.2.2.1.cap, .bool x20.2.2.2.2.2.2.2.2.2.2.2.2.2.2.2.2.2.2.2.1, .bool x20.2.2.2.2.2.2.2.2.2.2.2.2.2.2.2.2.2.2.2.2.1, .string x20.2.2.2.2.2.2.2.2.2.2.2.2.2.2.2.2.2.2.2.2.2.1, .string x20.2.2.2.2.2.2.2.2.2.2.2.2.2.2.2.2.2.2.2.2.2.2.1, .bool x20.2.2.2.2.2.2.2.2.2.2.2.2.2.2.2.2.2.2.2.2.2.2.2.1, .slice x20.2.2.2.2.2.2.2.2.2.2.2.2.2.2.2.2.2.2.2.2.2.2.2.2.1.a x20.2.2.2.2.2.2.2.2.2.2.2.2.2.2.2.2.2.2.2.2.2.2.2.2.1.len x20.2.2.2.2.2.2.2.2.2.2.2.2.2.2.2.2.2.2.2.2.2.2.2.2.1.cap, .slice x20.2.2.2.2.2.2.2.2.2.2.2.2.2.2.2.2.2.2.2.2.2.2.2.2.2.1.a x20.2.2.2.2.2.2.2.2.2.2.2.2.2.2.2.2.2.2.2.2.2.2.2.2.2.1.len x20.2.2.2.2.2.2.2.2.2.2.2.2.2.2.2.2.2.2.2.2.2.2.2.2.2.1.cap]) fun _ =>
  HM.bind (α := Int × Bool × Bool × Int × Int × ByteArray × ByteArray × Int × Slc × Slc × ByteArray × Bool × Int × Bool × ByteArray × ByteArray × Int × Bool × Slc × Bool × Bool × ByteArray × ByteArray × Bool × Slc × Slc × Unit) (HM.loadN [.int .i64, .bool, .bool, .int .i64, .int .i64, .str, .str, .int .i64, .slc, .slc, .str, .bool, .int .i64, .bool, .str, .str, .int .i64, .bool, .slc, .bool, .bool, .str, .str, .bool, .slc, .slc] ⟨x21, 0, none⟩) fun x22 =>
  HM.bind (α := Nat) (HM.new (.cells #[.int .i64 x22.1, .bool x22.2.1, .bool x22.2.2.1, .int .i64 x22.2.2.2.1, .int .i64 x22.2.2.2.2.1, .string x22.2.2.2.2.2.1, .string x22.2.2.2.2.2.2.1, .int .i64 x22.2.2.2.2.2.2.2.1, .slice x22.2.2.2.2.2.2.2.2.1.a x22.2.2.2.2.2.2.2.2.1.len x22.2.2.2.2.2.2.2.2.1.cap, .slice x22.2.2.2.2.2.2.2.2.2.1.a x22.2.2.2.2.2.2.2.2.2.1.len x22.2.2.2.2.2.2.2.2.2.1.cap, .string x22.2.2.2.2.2.2.2.2.2.2.1, .bool x22.2.2.2.2.2.2.2.2.2.2.2.1, .int .i64 x22.2.2.2.2.2.2.2.2.2.2.2.2.1, .bool x22.2.2.2.2.2.2.2.2.2.2.2.2.2.1, .string x22.2.2.2.2.2.2.2.2.2.2.2.2.2.2.1, .string x22.2.2.2.2.2.2.2.2.2.2.2.2.2.2.2.1, .int .i64 x22.2.2.2.2.2.2.2.2.2.2.2.2.2.2.2.2.1, .bool x22.2.2.2.2.2.2.2.2.2.2.2.2.2.2.2.2.2.1, .slice x22.2.2.2.2.2.2.2.2.2.2.2.2.2.2.2.2.2.2.1.a x22.2.2.2.2.2.2.2.2.2.2.2.2.2.2.2.2.2.2.1.len x22.2.2.2.2.2.2.2.2.2.2.2.2.2.2.2.2.2.2.1.cap, .bool x22.2.2.2.2.2.2.2.2.2.2.2.2.2.2.2.2.2.2.2.1, .bool x22.2.2.2.2.2.2.2.2.2.2.2.2.2.2.2.2.2.2.2.2.1, .string x22.2.2.2.2.2.2.2.2.2.2.2.2.2.2.2.2.2.2.2.2.2.1, .string x22.2.2.2.2.2.2.2.2.2.2.2.2.2.2.2.2.2.2.2.2.2.2.1, .bool x22.2.2.2.2.2.2.2.2.2.2.2.2.2.2.2.2.2.2.2.2.2.2.2.1, .slice x22.2.2.2.2.2.2.2.2.2.2.2.2.2.2.2.2.2.2.2.2.2.2.2.2.1.a x22.2.2.2.2.2.2.2.2.2.2.2.2.2.2.2.2.2.2.2.2.2.2.2.2.1.len x22.2.2.2.2.2.2.2.2.2.2.2.2.2.2.2.2.2.2.2.2.2.2.2.2.1.cap, .slice x22.2.2.2.2.2.2.2.2.2.2.2.2.2.2.2.2.2.2.2.2.2.2.2.2.2.1.a x22.2.2.2.2.2.2.2.2.2.2.2.2.2.2.2.2.2.2.2.2.2.2.2.2.2.1.len x22.2.2.2.2.2.2.2.2.2.2.2.2.2.2.2.2.2.2.2.2.2.2.2.2.2.1.cap] 41)) fun x23 =>
  HM.bind (α := Slc) (HM.append 41 26 328 #[.int .i64 0, .bool false, .bool false, .int .i64 0, .int .i64 0, .string (ByteArray.mk #[]), .string (ByteArray.mk #[]), .int .i64 0, .slice none 0 0, .slice none 0 0, .string (ByteArray.mk #[]), .bool false, .int .i64 0, .bool false, .string (ByteArray.mk #[]), .string (ByteArray.mk #[]), .int .i64 0, .bool false, .slice none 0 0, .bool false, .bool false, .string (ByteArray.mk #[]), .string (ByteArray.mk #[]), .bool false, .slice none 0 0, .slice none 0 0] x5.1 1 (srcSlc 26 (⟨some ⟨x23, 0, none⟩, 1, 1⟩))) fun x24 =>
  HM.pure (x24, ()))) fun x8 =>
  HM.pure (.inl (x8.1, IntKind.wrap .i64 (x5.2.1 + 1), ()))) (
  HM.pure (.inr (x5.1, x5.2.1, ())))) (⟨none, 0, 0⟩, 0, ())) fun x4 =>
  HM.bind (α := Slc) (HM.call1 Tryz.prog (.one .slc) 45 #[.pointer p0, .slice x4.1.a x4.1.len x4.1.cap]) fun x25 =>
  HM.pure (x25, ())
theorem ref14_Begin_den (p0 : Option Addr) (p1 : Int) : denFn Tryz.prog [47, 48, 45] 53 [0, 1, 4, 5, 6, 7, 8, 23, 34] [0, 1, 5, 6, 7, 8, 23, 34] Tryz.f21.results.toList [.one .slc] (bodyOf Tryz.f21) [Kind.val (.one .ptr) p0, Kind.val (.one (.int .i64)) p1] = ref14_Begin p0 p1 := by kernel_rfl
theorem ref14_Begin_calls (p0 : Option Addr) (p1 : Int) (h : Heap) (Q : Value → Heap → Prop) (hh : ref14_Begin p0 p1 h fun x h' => Q (.slice x.1.a x.1.len x.1.cap) h') :
    HCalls Tryz.prog 21 #[.pointer p0, .int .i64 p1] h Q :=
  calls_of_eq Tryz.func21 (by kernel_rfl) Tryz.ntmps21 (by kernel_rfl) (CC Tryz.call47 (CC Tryz.call48 (CC Tryz.call45 CN))) orders (ref14_Begin_den p0 p1) hh
def bridge_Bridge_End (p0 : Option Addr) : HM (Unit) :=
  HM.bind (α := Unit) (HM.ite (!(Option.isNone p0)) (
  HM.bind (α := Addr) (HM.nonnil p0) fun x2 =>
  HM.bind (α := Option Addr) (HM.load1 .ptr (Addr.add x2 1)) fun x3 =>
  HM.bind (α := Unit) (HM.callN Tryz.prog [] 49 #[.pointer x3]) fun x4 =>
  HM.pure ()) (
  HM.pure ())) fun x1 =>
  HM.pure ()
theorem bridge_Bridge_End_den (p0 : Option Addr) : denFn Tryz.prog [49] 9 [0, 3] [0, 3] Tryz.f22.results.toList [] (bodyOf Tryz.f22) [Kind.val (.one .ptr) p0] = bridge_Bridge_End p0 := by kernel_rfl
theorem bridge_Bridge_End_calls (p0 : Option Addr) (h : Heap) (Q : Value → Heap → Prop) (hh : bridge_Bridge_End p0 h fun x h' => Q (.tuple #[]) h') :
    HCalls Tryz.prog 22 #[.pointer p0] h Q :=
  calls_of_eq Tryz.func22 (by kernel_rfl) Tryz.ntmps22 (by kernel_rfl) (CC Tryz.call49 CN) orders (bridge_Bridge_End_den p0) hh
def bridge_Bridge_Send (p0 : Option Addr) (p1 : ByteArray × ByteArray × Int × Bool × ByteArray × Unit) : HM (Slc × Int × Unit) :=
  HM.bind (α := Nat) (HM.new (.cells #[.string p1.1, .string p1.2.1, .int .i64 p1.2.2.1, .bool p1.2.2.2.1, .string p1.2.2.2.2.1] 50)) fun x1 =>
  HM.ite (Option.isNone p0) (
  HM.pure (⟨none, 0, 0⟩, 128, ())) (
  HM.bind (α := Unit) (HM.store1 (Addr.add ⟨x1, 0, none⟩ 2) (.int .i64 1)) fun _ =>
  HM.bind (α := ByteArray) (HM.load1 .str (Addr.add ⟨x1, 0, none⟩ 0)) fun x2 =>
  HM.bind (α := ByteArray) (HM.load1 .str (Addr.add ⟨x1, 0, none⟩ 1)) fun x3 =>
  HM.bind (α := Nat) (HM.new (.cells #[.int .i64 0, .bool false, .bool false, .int .i64 0, .int .i64 0, .string (ByteArray.mk #[]), .string (ByteArray.mk #[]), .int .u8 0, .slice none 0 0, .slice none 0 0, .string (ByteArray.mk #[]), .bool false, .int .i64 0, .bool false, .string (ByteArray.mk #[]), .string (ByteArray.mk #[]), .int .i64 0, .bool false, .slice none 0 0, .bool false, .bool false, .string (ByteArray.mk #[]), .string (ByteArray.mk #[]), .bool false, .slice none 0 0, .slice none 0 0] 34)) fun x4 =>
  HM.bind (α := Unit) (HM.storeN ⟨x4, 0, none⟩ [.int .i64 3, .bool false, .bool false, .int .i64 1, .int .i64 1, .string x2, .string x3, .int .u8 0, .slice none 0 0, .slice none 0 0, .string (ByteArray.mk #[]), .bool false, .int .i64 0, .bool false, .string (ByteArray.mk #[]), .string (ByteArray.mk #[]), .int .i64 0, .bool false, .slice none 0 0, .bool false, .bool false, .string (ByteArray.mk #[]), .string (ByteArray.mk #[]), .bool false, .slice none 0 0, .slice none 0 0]) fun _ =>
  HM.bind (α := ByteArray) (HM.load1 .str (Addr.add ⟨x1, 0, none⟩ 4)) fun x5 =>
  HM.bind (α := Unit) (HM.ite (!(decide (x5 = (ByteArray.mk #[])))) (
  HM.bind (α := ByteArray) (HM.load1 .str (Addr.add ⟨x1, 0, none⟩ 4)) fun x7 =>
  HM.bind (α := Nat) (HM.new (.cells #[.int .i64 38, .int .i64 0, .string (ByteArray.mk #[116, 97, 103]), .string x7] 44)) fun x8 =>
  HM.bind (α := Unit) (HM.store1 (Addr.add ⟨x4, 0, none⟩ 9) (.slice (some ⟨x8, 0, none⟩) 1 1)) fun _ =>
  HM.pure ()) (
  HM.pure ())) fun x6 =>
  HM.bind (α := Int × Bool × Bool × Int × Int × ByteArray × ByteArray × Int × Slc × Slc × ByteArray × Bool × Int × Bool × ByteArray × ByteArray × Int × Bool × Slc × Bool × Bool × ByteArray × ByteArray × Bool × Slc × Slc × Unit) (HM.loadN [.int .i64, .bool, .bool, .int .i64, .int .i64, .str, .str, .int .u8, .slc, .slc, .str, .bool, .int .i64, .bool, .str, .str, .int .i64, .bool, .slc, .bool, .bool, .str, .str, .bool, .slc, .slc] ⟨x4, 0, none⟩) fun x9 =>
  HM.bind (α := ByteArray × Int × Unit) (HM.callN Tryz.prog [.one .str, .one (.int .u8)] 50 #[.agg #[.int .i64 x9.1, .bool x9.2.1, .bool x9.2.2.1, .int .i64 x9.2.2.2.1, .int .i64 x9.2.2.2.2.1, .string x9.2.2.2.2.2.1, .string x9.2.2.2.2.2.2.1, .int .u8 x9.2.2.2.2.2.2.2.1, .slice x9.2.2.2.2.2.2.2.2.1.a x9.2.2.2.2.2.2.2.2.1.len x9.2.2.2.2.2.2.2.2.1.cap, .slice x9.2.2.2.2.2.2.2.2.2.1.a x9.2.2.2.2.2.2.2.2.2.1.len x9.2.2.2.2.2.2.2.2.2.1.cap, .string x9.2.2.2.2.2.2.2.2.2.2.1, .bool x9.2.2.2.2.2.2.2.2.2.2.2.1, .int .i64 x9.2.2.2.2.2.2.2.2.2.2.2.2.1, .bool x9.2.2.2.2.2.2.2.2.2.2.2.2.2.1, .string x9.2.2.2.2.2.2.2.2.2.2.2.2.2.2.1, .string x9.2.2.2.2.2.2.2.2.2.2.2.2.2.2.2.1, .int .i64 x9.2.2.2.2.2.2.2.2.2.2.2.2.2.2.2.2.1, .bool x9.2.2.2.2.2.2.2.2.2.2.2.2.2.2.2.2.2.1, .slice x9.2.2.2.2.2.2.2.2.2.2.2.2.2.2.2.2.2.2.1.a x9.2.2.2.2.2.2.2.2.2.2.2.2.2.2.2.2.2.2.1.len x9.2.2.2.2.2.2.2.2.2.2.2.2.2.2.2.2.2.2.1.cap, .bool x9.2.2.2.2.2.2.2.2.2.2.2.2.2.2.2.2.2.2.2.1, .bool x9.2.2.2.2.2.2.2.2.2.2.2.2.2.2.2.2.2.2.2.2.1, .string x9.2.2.2.2.2.2.2.2.2.2.2.2.2.2.2.2.2.2.2.2.2.1, .string x9.2.2.2.2.2.2.2.2.2.2.2.2.2.2.2.2.2.2.2.2.2.2.1, .bool x9.2.2.2.2.2.2.2.2.2.2.2.2.2.2.2.2.2.2.2.2.2.2.2.1, .slice x9.2.2.2.2.2.2.2.2.2.2.2.2.2.2.2.2.2.2.2.2.2.2.2.2.1.a x9.2.2.2.2.2.2.2.2.2.2.2.2.2.2.2.2.2.2.2.2.2.2.2.2.1.len x9.2.2.2.2.2.2.2.2.2.2.2.2.2.2.2.2.2.2.2.2.2.2.2.2.1.cap, .slice x9.2.2.2.2.2.2.2.2.2.2.2.2.2.2.2.2.2.2.2.2.2.2.2.2.2.1.a x9.2.2.2.2.2.2.2.2.2.2.2.2.2.2.2.2.2.2.2.2.2.2.2.2.2.1.len x9.2.2.2.2.2.2.2.2.2.2.2.2.2.2.2.2.2.2.2.2.2.2.2.2.2.1.cap]]) fun x10 =>
  HM.ite (!(x10.2.1 == 0)) (
  HM.pure (⟨none, 0, 0⟩, x10.2.1, ())) (
  HM.bind (α := Addr) (HM.nonnil p0) fun x11 =>
  HM.bind (α := Option Addr) (HM.load1 .ptr (Addr.add x11 1)) fun x12 =>
  HM.bind (α := ByteArray × ByteArray × Int × Bool × ByteArray × Unit) (HM.loadN [.str, .str, .int .i64, .bool, .str] ⟨x1, 0, none⟩) fun x13 =>
  HM.bind (α := Slc × Int × Unit) (HM.callN Tryz.prog [.one .slc, .one (.int .u8)] 51 #[.pointer x12, .agg #[.string x13.1, .string x13.2.1, .int .i64 x13.2.2.1, .bool x13.2.2.2.1, .string x13.2.2.2.2.1]]) fun x14 =>
  HM.pure (x14.1, x14.2.1, ())))
theorem bridge_Bridge_Send_den (p0 : Option Addr) (p1 : ByteArray × ByteArray × Int × Bool × ByteArray × Unit) : denFn Tryz.prog [50, 51] 41 [0, 1, 3, 4, 5, 6, 8, 10, 19, 31] [0, 1, 3, 6, 8, 10, 19, 31] Tryz.f23.results.toList [.one .slc, .one (.int .u8)] (bodyOf Tryz.f23) [Kind.val (.one .ptr) p0, Kind.val (.agg [.str, .str, .int .i64, .bool, .str]) p1] = bridge_Bridge_Send p0 p1 := by kernel_rfl
theorem bridge_Bridge_Send_calls (p0 : Option Addr) (p1 : ByteArray × ByteArray × Int × Bool × ByteArray × Unit) (h : Heap) (Q : Value → Heap → Prop) (hh : bridge_Bridge_Send p0 p1 h fun x h' => Q (.tuple #[.slice x.1.a x.1.len x.1.cap, .int .u8 x.2.1]) h') :
    HCalls Tryz.prog 23 #[.pointer p0, .agg #[.string p1.1, .string p1.2.1, .int .i64 p1.2.2.1, .bool p1.2.2.2.1, .string p1.2.2.2.2.1]] h Q :=
  calls_of_eq Tryz.func23 (by kernel_rfl) Tryz.ntmps23 (by kernel_rfl) (CC Tryz.call50 (CC Tryz.call51 CN)) orders (bridge_Bridge_Send_den p0 p1) hh
def ref23_Send (p0 : Option Addr) (p1 : ByteArray × ByteArray × Int × Bool × ByteArray × Unit) : HM (Slc × Int × Unit) :=
  HM.bind (α := Nat) (HM.new (.cells #[.string p1.1, .string p1.2.1, .int .i64 p1.2.2.1, .bool p1.2.2.2.1, .string p1.2.2.2.2.1] 56)) fun x1 =>
  HM.bind (α := Unit) (HM.store1 (Addr.add ⟨x1, 0, none⟩ 2) (.int .i64 1)) fun _ =>
  HM.bind (α := ByteArray × ByteArray × Int × Bool × ByteArray × Unit) (HM.loadN [.str, .str, .int .i64, .bool, .str] ⟨x1, 0, none⟩) fun x2 =>
  HM.bind (α := Int × Bool × Bool × Int × Int × ByteArray × ByteArray × Int × Slc × Slc × ByteArray × Bool × Int × Bool × ByteArray × ByteArray × Int × Bool × Slc × Bool × Bool × ByteArray × ByteArray × Bool × Slc × Slc × Unit) (HM.call1 Tryz.prog (.agg [.int .i64, .bool, .bool, .int .i64, .int .i64, .str, .str, .int .i64, .slc, .slc, .str, .bool, .int .i64, .bool, .str, .str, .int .i64, .bool, .slc, .bool, .bool, .str, .str, .bool, .slc, .slc]) 48 #[.agg #[.string x2.1, .string x2.2.1, .int .i64 x2.2.2.1, .bool x2.2.2.2.1, .string x2.2.2.2.2.1], .int .i64 1, .bool false]) fun x3 =>
  HM.bind (α := Nat) (HM.new (.cells #[.int .i64 0, .bool false, .bool false, .int .i64 0, .int .i64 0, .string (ByteArray.mk #[]), .string (ByteArray.mk #[]), .int .i64 0, .slice none 0 0, .slice none 0 0, .string (ByteArray.mk #[]), .bool false, .int .i64 0, .bool false, .string (ByteArray.mk #[]), .string (ByteArray.mk #[]), .int .i64 0, .bool false, .slice none 0 0, .bool false, .bool false, .string (ByteArray.mk #[]), .string (ByteArray.mk #[]), .bool false, .slice none 0 0, .slice none 0 0] 41)) fun x4 =>
  HM.bind (α := Unit) (HM.storeN ⟨x4, 0, none⟩ [.int .i64 x3.1, .bool x3.2.1, .bool x3.2.2.1, .int .i64 x3.2.2.2.1, .int .i64 x3.2.2.2.2.1, .string x3.2.2.2.2.2.1, .string x3.2.2.2.2.2.2.1, .int .i64 x3.2.2.2.2.2.2.2.1, .slice x3.2.2.2.2.2.2.2.2.1.a x3.2.2.2.2.2.2.2.2.1.len x3.2.2.2.2.2.2.2.2.1.cap, .slice x3.2.2.2.2.2.2.2.2.2.1.a x3.2.2.2.2.2.2.2.2.2.1.len x3.2.2.2.2.2.2.2.2.2.1.cap, .string x3.2.2.2.2.2.2.2.2.2.2.1, .bool x3.2.2.2.2.2.2.2.2.2.2.2.1, .int .i64 x3.2.2.2.2.2.2.2.2.2.2.2.2.1, .bool x3.2.2.2.2.2.2.2.2.2.2.2.2.2.1, .string x3.2.2.2.2.2.2.2.2.2.2.2.2.2.2.1, .string x3.2.2.2.2.2.2.2.2.2.2.2.2.2.2.2.1, .int .i64 x3.2.2.2.2.2.2.2.2.2.2.2.2.2.2.2.2.1, .bool x3.2.2.2.2.2.2.2.2.2.2.2.2.2.2.2.2.2.1, .slice x3.2.2.2.2.2.2.2.2.2.2.2.2.2.2.2.2.2.2.1.a x3.2.2.2.2.2.2.2.2.2.2.2.2.2.2.2.2.2.2.1.len x3.2.2.2.2.2.2.2.2.2.2.2.2.2.2.2.2.2.2.1.cap, .bool x3.2.2.2.2.2.2.2.2.2.2.2.2.2.2.2.2.2.2.2.1, .bool x3.2.2.2.2.2.2.2.2.2.2.2.2.2.2.2.2.2.2.2.2.1, .string x3.2.2.2.2.2.2.2.2.2.2.2.2.2.2.2.2.2.2.2.2.2.1, .string x3.2.2.2.2.2.2.2.2.2.2.2.2.2.2.2.2.2.2.2.2.2.2.1, .bool x3.2.2.2.2.2.2.2.2.2.2.2.2.2.2.2.2.2.2.2.2.2.2.2.1, .slice x3.2.2.2.2.2.2.2.2.2.2.2.2.2.2.2.2.2.2.2.2.2.2.2.2.1.a x3.2.2.2.2.2.2.2.2.2.2.2.2.2.2.2.2.2.2.2.2.2.2.2.2.1.len x3.2.2.2.2.2.2.2.2.2.2.2.2.2.2.2.2.2.2.2.2.2.2.2.2.1.cap, .slice x3.2.2.2.2.2.2.2.2.2.2.2.2.2.2.2.2.2.2.2.2.2.2.2.2.2.1.a x3.2.2.2.2.2.2.2.2.2.2.2.2.2.2.2.2.2.2.2.2.2.2.2.2.2.1.len x3.2.2.2.2.2.2.2.2.2.2.2.2.2.2.2.2.2.2.2.2.2.2.2.2.2.1.cap]) fun _ =>
  HM.bind (α := Int × Bool × Bool × Int × Int × ByteArray × ByteArray × Int × Slc × Slc × ByteArray × Bool × Int × Bool × ByteArray × ByteArray × Int × Bool × Slc × Bool × Bool × ByteArray × ByteArray × Bool × Slc × Slc × Unit) (HM.loadN [.int .i64, .bool, .bool, .int .i64, .int .i64, .str, .str, .int .i64, .slc, .slc, .str, .bool, .int .i64, .bool, .str, .str, .int .i64, .bool, .slc, .bool, .bool, .str, .str, .bool, .slc, .slc] ⟨x4, 0, none⟩) fun x5 =>
  HM.bind (α := ByteArray × Int × Unit) (HM.callN Tryz.prog [.one .str, .one (.int .i64)] 52 #[.agg #[.int .i64 x5.1, .bool x5.2.1, .bool x5.2.2.1, .int .i64 x5.2.2.2.1, .int .i64 x5.2.2.2.2.1, .string x5.2.2.2.2.2.1, .string x5.2.2.2.2.2.2.1, .int .i64 x5.2.2.2.2.2.2.2.1, .slice x5.2.2.2.2.2.2.2.2.1.a x5.2.2.2.2.2.2.2.2.1.len x5.2.2.2.2.2.2.2.2.1.cap, .slice x5.2.2.2.2.2.2.2.2.2.1.a x5.2.2.2.2.2.2.2.2.2.1.len x5.2.2.2.2.2.2.2.2.2.1.cap, .string x5.2.2.2.2.2.2.2.2.2.2.1, .bool x5.2.2.2.2.2.2.2.2.2.2.2.1, .int .i64 x5.2.2.2.2.2.2.2.2.2.2.2.2.1, .bool x5.2.2.2.2.2.2.2.2.2.2.2.2.2.1, .string x5.2.2.2.2.2.2.2.2.2.2.2.2.2.2.1, .string x5.2.2.2.2.2.2.2.2.2.2.2.2.2.2.2.1, .int .i64 x5.2.2.2.2.2.2.2.2.2.2.2.2.2.2.2.2.1, .bool x5.2.2.2.2.2.2.2.2.2.2.2.2.2.2.2.2.2.1, .slice x5.2.2.2.2.2.2.2.2.2.2.2.2.2.2.2.2.2.2.1.a x5.2.2.2.2.2.2.2.2.2.2.2.2.2.2.2.2.2.2.1.len x5.2.2.2.2.2.2.2.2.2.2.2.2.2.2.2.2.2.2.1.cap, .bool x5.2.2.2.2.2.2.2.2.2.2.2.2.2.2.2.2.2.2.2.1, .bool x5.2.2.2.2.2.2.2.2.2.2.2.2.2.2.2.2.2.2.2.2.1, .string x5.2.2.2.2.2.2.2.2.2.2.2.2.2.2.2.2.2.2.2.2.2.1, .string x5.2.2.2.2.2.2.2.2.2.2.2.2.2.2.2.2.2.2.2.2.2.2.1, .bool x5.2.2.2.2.2.2.2.2.2.2.2.2.2.2.2.2.2.2.2.2.2.2.2.1, .slice x5.2.2.2.2.2.2.2.2.2.2.2.2.2.2.2.2.2.2.2.2.2.2.2.2.1.a x5.2.2.2.2.2.2.2.2.2.2.2.2.2.2.2.2.2.2.2.2.2.2.2.2.1.len x5.2.2.2.2.2.2.2.2.2.2.2.2.2.2.2.2.2.2.2.2.2.2.2.2.1.cap, .slice x5.2.2.2.2.2.2.2.2.2.2.2.2.2.2.2.2.2.2.2.2.2.2.2.2.2.1.a x5.2.2.2.2.2.2.2.2.2.2.2.2.2.2.2.2.2.2.2.2.2.2.2.2.2.1.len x5.2.2.2.2.2.2.2.2.2.2.2.2.2.2.2.2.2.2.2.2.2.2.2.2.2.1.cap]]) fun x6 =>
  HM.ite (!(x6.2.1 == 0)) (
  HM.pure (⟨none, 0, 0⟩, x6.2.1, ())) (
  HM.bind (α := Addr) (HM.nonnil p0) fun x7 =>
  HM.bind (α := Option Addr) (HM.load1 .ptr (Addr.add x7 1)) fun x8 =>
  HM.bind (α := ByteArray × ByteArray × Int × Bool × ByteArray × Unit) (HM.loadN [.str, .str, .int .i64, .bool, .str] ⟨x1, 0, none⟩) fun x9 =>
  HM.bind (α := Slc × Int × Unit) (HM.callN Tryz.prog [.one .slc, .one (.int .i64)] 53 #[.pointer x8, .agg #[.string x9.1, .string x9.2.1, .int .i64 x9.2.2.1, .bool x9.2.2.2.1, .string x9.2.2.2.2.1]]) fun x10 =>
  HM.pure (x10.1, x10.2.1, ()))
theorem ref23_Send_den (p0 : Option Addr) (p1 : ByteArray × ByteArray × Int × Bool × ByteArray × Unit) : denFn Tryz.prog [48, 52, 53] 28 [0, 1, 3, 4, 5, 6, 8, 18] [0, 1, 3, 6, 8, 18] Tryz.f24.results.toList [.one .slc, .one (.int .i64)] (bodyOf Tryz.f24) [Kind.val (.one .ptr) p0, Kind.val (.agg [.str, .str, .int .i64, .bool, .str]) p1] = ref23_Send p0 p1 := by kernel_rfl
theorem ref23_Send_calls (p0 : Option Addr) (p1 : ByteArray × ByteArray × Int × Bool × ByteArray × Unit) (h : Heap) (Q : Value → Heap → Prop) (hh : ref23_Send p0 p1 h fun x h' => Q (.tuple #[.slice x.1.a x.1.len x.1.cap, .int .i64 x.2.1]) h') :
    HCalls Tryz.prog 24 #[.pointer p0, .agg #[.string p1.1, .string p1.2.1, .int .i64 p1.2.2.1, .bool p1.2.2.2.1, .string p1.2.2.2.2.1]] h Q :=
  calls_of_eq Tryz.func24 (by kernel_rfl) Tryz.ntmps24 (by kernel_rfl) (CC Tryz.call48 (CC Tryz.call52 (CC Tryz.call53 CN))) orders (ref23_Send_den p0 p1) hh
def law23_samePackets (p0 : Slc) (p1 : Slc) : HM (Bool × Unit) :=
  HM.ite (!(((p0.len : Nat) : Int) == ((p1.len : Nat) : Int))) (
  HM.pure (false, ())) (
  HM.bind (α := (Int × Unit) ⊕ (Bool × Unit)) (HM.loop (σ := Int × Unit) (τ := (Int × Unit) ⊕ (Bool × Unit)) (fun x2 =>
  HM.ite (decide (x2.1 < (((p0.len : Nat) : Int) : Int))) (
  HM.bind (α := Addr) (HM.idx p0.a p0.len x2.1 26) fun x3 =>
  HM.bind (α := Int × Bool × Bool × Int × Int × ByteArray × ByteArray × Int × Slc × Slc × ByteArray × Bool × Int × Bool × ByteArray × ByteArray × Int × Bool × Slc × Bool × Bool × ByteArray × ByteArray × Bool × Slc × Slc × Unit) (HM.loadN [.int .i64, .bool, .bool, .int .i64, .int .i64, .str, .str, .int .u8, .slc, .slc, .str, .bool, .int .i64, .bool, .str, .str, .int .i64, .bool, .slc, .bool, .bool, .str, .str, .bool, .slc, .slc] x3) fun x4 =>
  HM.bind (α := Addr) (HM.idx p1.a p1.len x2.1 26) fun x5 =>
  HM.bind (α := Int × Bool × Bool × Int × Int × ByteArray × ByteArray × Int × Slc × Slc × ByteArray × Bool × Int × Bool × ByteArray × ByteArray × Int × Bool × Slc × Bool × Bool × ByteArray × ByteArray × Bool × Slc × Slc × Unit) (HM.loadN [.int .i64, .bool, .bool, .int .i64, .int .i64, .str, .str, .int .i64, .slc, .slc, .str, .bool, .int .i64, .bool, .str, .str, .int .i64, .bool, .slc, .bool, .bool, .str, .str, .bool, .slc, .slc] x5) fun x6 =>
  HM.both (
  HM.bind (α := Nat) (HM.new (.cells #[.int .i64 0, .bool false, .bool false, .int .i64 0, .int .i64 0, .string (ByteArray.mk #[]), .string (ByteArray.mk #[]), .int .u8 0, .slice none 0 0, .slice none 0 0, .string (ByteArray.mk #[]), .bool false, .int .i64 0, .bool false, .string (ByteArray.mk #[]), .string (ByteArray.mk #[]), .int .i64 0, .bool false, .slice none 0 0, .bool false, .bool false, .string (ByteArray.mk #[]), .string (ByteArray.mk #[]), .bool false, .slice none 0 0, .slice none 0 0] 34)) fun x7 =>
  HM.bind (α := Int × Bool × Bool × Int × Int × ByteArray × ByteArray × Int × Slc × Slc × ByteArray × Bool × Int × Bool × ByteArray × ByteArray × Int × Bool × Slc × Bool × Bool × ByteArray × ByteArray × Bool × Slc × Slc × Unit) (HM.loadN [.int .i64, .bool, .bool, .int .i64, .int .i64, .str, .str, .int .i64, .slc, .slc, .str, .bool, .int .i64, .bool, .str, .str, .int .i64, .bool, .slc, .bool, .bool, .str, .str, .bool, .slc, .slc] x5) fun x8 =>
  HM.req ((.agg #[.int .i64 x8.1, .bool x8.2.1, .bool x8.2.2.1, .int .i64 x8.2.2.2.1, .int .i64 x8.2.2.2.2.1, .string x8.2.2.2.2.2.1, .string x8.2.2.2.2.2.2.1, .int .i64 x8.2.2.2.2.2.2.2.1, .slice x8.2.2.2.2.2.2.2.2.1.a x8.2.2.2.2.2.2.2.2.1.len x8.2.2.2.2.2.2.2.2.1.cap, .slice x8.2.2.2.2.2.2.2.2.2.1.a x8.2.2.2.2.2.2.2.2.2.1.len x8.2.2.2.2.2.2.2.2.2.1.cap, .string x8.2.2.2.2.2.2.2.2.2.2.1, .bool x8.2.2.2.2.2.2.2.2.2.2.2.1, .int .i64 x8.2.2.2.2.2.2.2.2.2.2.2.2.1, .bool x8.2.2.2.2.2.2.2.2.2.2.2.2.2.1, .string x8.2.2.2.2.2.2.2.2.2.2.2.2.2.2.1, .string x8.2.2.2.2.2.2.2.2.2.2.2.2.2.2.2.1, .int .i64 x8.2.2.2.2.2.2.2.2.2.2.2.2.2.2.2.2.1, .bool x8.2.2.2.2.2.2.2.2.2.2.2.2.2.2.2.2.2.1, .slice x8.2.2.2.2.2.2.2.2.2.2.2.2.2.2.2.2.2.2.1.a x8.2.2.2.2.2.2.2.2.2.2.2.2.2.2.2.2.2.2.1.len x8.2.2.2.2.2.2.2.2.2.2.2.2.2.2.2.2.2.2.1.cap, .bool x8.2.2.2.2.2.2.2.2.2.2.2.2.2.2.2.2.2.2.2.1, .bool x8.2.2.2.2.2.2.2.2.2.2.2.2.2.2.2.2.2.2.2.2.1, .string x8.2.2.2.2.2.2.2.2.2.2.2.2.2.2.2.2.2.2.2.2.2.1, .string x8.2.2.2.2.2.2.2.2.2.2.2.2.2.2.2.2.2.2.2.2.2.2.1, .bool x8.2.2.2.2.2.2.2.2.2.2.2.2.2.2.2.2.2.2.2.2.2.2.2.1, .slice x8.2.2.2.2.2.2.2.2.2.2.2.2.2.2.2.2.2.2.2.2.2.2.2.2.1.a x8.2.2.2.2.2.2.2.2.2.2.2.2.2.2.2.2.2.2.2.2.2.2.2.2.1.len x8.2.2.2.2.2.2.2.2.2.2.2.2.2.2.2.2.2.2.2.2.2.2.2.2.1.cap, .slice x8.2.2.2.2.2.2.2.2.2.2.2.2.2.2.2.2.2.2.2.2.2.2.2.2.2.1.a x8.2.2.2.2.2.2.2.2.2.2.2.2.2.2.2.2.2.2.2.2.2.2.2.2.2.1.len x8.2.2.2.2.2.2.2.2.2.2.2.2.2.2.2.2.2.2.2.2.2.2.2.2.2.1.cap] : Value) = .agg #[.int .i64 x6.1, .bool x6.2.1, .bool x6.2.2.1, .int .i64 x6.2.2.2.1, .int .i64 x6.2.2.2.2.1, .string x6.2.2.2.2.2.1, .string x6.2.2.2.2.2.2.1, .int .i64 x6.2.2.2.2.2.2.2.1, .slice x6.2.2.2.2.2.2.2.2.1.a x6.2.2.2.2.2.2.2.2.1.len x6.2.2.2.2.2.2.2.2.1.cap, .slice x6.2.2.2.2.2.2.2.2.2.1.a x6.2.2.2.2.2.2.2.2.2.1.len x6.2.2.2.2.2.2.2.2.2.1.cap, .string x6.2.2.2.2.2.2.2.2.2.2.1, .bool x6.2.2.2.2.2.2.2.2.2.2.2.1, .int .i64 x6.2.2.2.2.2.2.2.2.2.2.2.2.1, .bool x6.2.2.2.2.2.2.2.2.2.2.2.2.2.1, .string x6.2.2.2.2.2.2.2.2.2.2.2.2.2.2.1, .string x6.2.2.2.2.2.2.2.2.2.2.2.2.2.2.2.1, .int .i64 x6.2.2.2.2.2.2.2.2.2.2.2.2.2.2.2.2.1, .bool x6.2.2.2.2.2.2.2.2.2.2.2.2.2.2.2.2.2.1, .slice x6.2.2.2.2.2.2.2.2.2.2.2.2.2.2.2.2.2.2.1.a x6.2.2.2.2.2.2.2.2.2.2.2.2.2.2.2.2.2.2.1.len x6.2.2.2.2.2.2.2.2.2.2.2.2.2.2.2.2.2.2.1.cap, .bool x6.2.2.2.2.2.2.2.2.2.2.2.2.2.2.2.2.2.2.2.1, .bool x6.2.2.2.2.2.2.2.2.2.2.2.2.2.2.2.2.2.2.2.2.1, .string x6.2.2.2.2.2.2.2.2.2.2.2.2.2.2.2.2.2.2.2.2.2.1, .string x6.2.2.2.2.2.2.2.2.2.2.2.2.2.2.2.2.2.2.2.2.2.2.1, .bool x6.2.2.2.2.2.2.2.2.2.2.2.2.2.2.2.2.2.2.2.2.2.2.2.1, .slice x6.2.2.2.2.2.2.2.2.2.2.2.2.2.2.2.2.2.2.2.2.2.2.2.2.1.a x6.2.2.2.2.2.2.2.2.2.2.2.2.2.2.2.2.2.2.2.2.2.2.2.2.1.len x6.2.2.2.2.2.2.2.2.2.2.2.2.2.2.2.2.2.2.2.2.2.2.2.2.1.cap, .slice x6.2.2.2.2.2.2.2.2.2.2.2.2.2.2.2.2.2.2.2.2.2.2.2.2.2.1.a x6.2.2.2.2.2.2.2.2.2.2.2.2.2.2.2.2.2.2.2.2.2.2.2.2.2.1.len x6.2.2.2.2.2.2.2.2.2.2.2.2.2.2.2.2.2.2.2.2.2.2.2.2.2.1.cap]) <|
  HM.bind (α := Int × Bool × Bool × Int × Int × ByteArray × ByteArray × Int × Slc × Slc × ByteArray × Bool × Int × Bool × ByteArray × ByteArray × Int × Bool × Slc × Bool × Bool × ByteArray × ByteArray × Bool × Slc × Slc × Unit) (HM.loadN [.int .i64, .bool, .bool, .int .i64, .int .i64, .str, .str, .int .u8, .slc, .slc, .str, .bool, .int .i64, .bool, .str, .str, .int .i64, .bool, .slc, .bool, .bool, .str, .str, .bool, .slc, .slc] x3) fun x9 =>
  HM.req ((.agg #[.int .i64 x9.1, .bool x9.2.1, .bool x9.2.2.1, .int .i64 x9.2.2.2.1, .int .i64 x9.2.2.2.2.1, .string x9.2.2.2.2.2.1, .string x9.2.2.2.2.2.2.1, .int .u8 x9.2.2.2.2.2.2.2.1, .slice x9.2.2.2.2.2.2.2.2.1.a x9.2.2.2.2.2.2.2.2.1.len x9.2.2.2.2.2.2.2.2.1.cap, .slice x9.2.2.2.2.2.2.2.2.2.1.a x9.2.2.2.2.2.2.2.2.2.1.len x9.2.2.2.2.2.2.2.2.2.1.cap, .string x9.2.2.2.2.2.2.2.2.2.2.1, .bool x9.2.2.2.2.2.2.2.2.2.2.2.1, .int .i64 x9.2.2.2.2.2.2.2.2.2.2.2.2.1, .bool x9.2.2.2.2.2.2.2.2.2.2.2.2.2.1, .string x9.2.2.2.2.2.2.2.2.2.2.2.2.2.2.1, .string x9.2.2.2.2.2.2.2.2.2.2.2.2.2.2.2.1, .int .i64 x9.2.2.2.2.2.2.2.2.2.2.2.2.2.2.2.2.1, .bool x9.2.2.2.2.2.2.2.2.2.2.2.2.2.2.2.2.2.1, .slice x9.2.2.2.2.2.2.2.2.2.2.2.2.2.2.2.2.2.2.1.a x9.2.2.2.2.2.2.2.2.2.2.2.2.2.2.2.2.2.2.1.len x9.2.2.2.2.2.2.2.2.2.2.2.2.2.2.2.2.2.2.1.cap, .bool x9.2.2.2.2.2.2.2.2.2.2.2.2.2.2.2.2.2.2.2.1, .bool x9.2.2.2.2.2.2.2.2.2.2.2.2.2.2.2.2.2.2.2.2.1, .string x9.2.2.2.2.2.2.2.2.2.2.2.2.2.2.2.2.2.2.2.2.2.1, .string x9.2.2.2.2.2.2.2.2.2.2.2.2.2.2.2.2.2.2.2.2.2.2.1, .bool x9.2.2.2.2.2.2.2.2.2.2.2.2.2.2.2.2.2.2.2.2.2.2.2.1, .slice x9.2.2.2.2.2.2.2.2.2.2.2.2.2.2.2.2.2.2.2.2.2.2.2.2.1.a x9.2.2.2.2.2.2.2.2.2.2.2.2.2.2.2.2.2.2.2.2.2.2.2.2.1.len x9.2.2.2.2.2.2.2.2.2.2.2.2.2.2.2.2.2.2.2.2.2.2.2.2.1.cap, .slice x9.2.2.2.2.2.2.2.2.2.2.2.2.2.2.2.2.2.2.2.2.2.2.2.2.2.1.a x9.2.2.2.2.2.2.2.2.2.2.2.2.2.2.2.2.2.2.2.2.2.2.2.2.2.1.len x9.2.2.2.2.2.2.2.2.2.2.2.2.2.2.2.2.2.2.2.2.2.2.2.2.2.1.cap] : Value) = .agg #[.int .i64 x4.1, .bool x4.2.1, .bool x4.2.2.1, .int .i64 x4.2.2.2.1, .int .i64 x4.2.2.2.2.1, .string x4.2.2.2.2.2.1, .string x4.2.2.2.2.2.2.1, .int .u8 x4.2.2.2.2.2.2.2.1, .slice x4.2.2.2.2.2.2.2.2.1.a x4.2.2.2.2.2.2.2.2.1.len x4.2.2.2.2.2.2.2.2.1.cap, .slice x4.2.2.2.2.2.2.2.2.2.1.a x4.2.2.2.2.2.2.2.2.2.1.len x4.2.2.2.2.2.2.2.2.2.1.cap, .string x4.2.2.2.2.2.2.2.2.2.2.1, .bool x4.2.2.2.2.2.2.2.2.2.2.2.1, .int .i64 x4.2.2.2.2.2.2.2.2.2.2.2.2.1, .bool x4.2.2.2.2.2.2.2.2.2.2.2.2.2.1, .string x4.2.2.2.2.2.2.2.2.2.2.2.2.2.2.1, .string x4.2.2.2.2.2.2.2.2.2.2.2.2.2.2.2.1, .int .i64 x4.2.2.2.2.2.2.2.2.2.2.2.2.2.2.2.2.1, .bool x4.2.2.2.2.2.2.2.2.2.2.2.2.2.2.2.2.2.1, .slice x4.2.2.2.2.2.2.2.2.2.2.2.2.2.2.2.2.2.2.1.a x4.2.2.2.2.2.2.2.2.2.2.2.2.2.2.2.2.2.2.1.len x4.2.2.2.2.2.2.2.2.2.2.2.2.2.2.2.2.2.2.1.cap, .bool x4.2.2.2.2.2.2.2.2.2.2.2.2.2.2.2.2.2.2.2.1, .bool x4.2.2.2.2.2.2.2.2.2.2.2.2.2.2.2.2.2.2.2.2.1, .string x4.2.2.2.2.2.2.2.2.2.2.2.2.2.2.2.2.2.2.2.2.2.1, .string x4.2.2.2.2.2.2.2.2.2.2.2.2.2.2.2.2.2.2.2.2.2.2.1, .bool x4.2.2.2.2.2.2.2.2.2.2.2.2.2.2.2.2.2.2.2.2.2.2.2.1, .slice x4.2.2.2.2.2.2.2.2.2.2.2.2.2.2.2.2.2.2.2.2.2.2.2.2.1.a x4.2.2.2.2.2.2.2.2.2.2.2.2.2.2.2.2.2.2.2.2.2.2.2.2.1.len x4.2.2.2.2.2.2.2.2.2.2.2.2.2.2.2.2.2.2.2.2.2.2.2.2.1.cap, .slice x4.2.2.2.2.2.2.2.2.2.2.2.2.2.2.2.2.2.2.2.2.2.2.2.2.2.1.a x4.2.2.2.2.2.2.2.2.2.2.2.2.2.2.2.2.2.2.2.2.2.2.2.2.2.1.len x4.2.2.2.2.2.2.2.2.2.2.2.2.2.2.2.2.2.2.2.2.2.2.2.2.2.1.cap]) <|
  HM.bind (α := Nat) (HM.new (.cells #[.int .i64 0, .bool false, .bool false, .int .i64 0, .int .i64 0, .string (ByteArray.mk #[]), .string (ByteArray.mk #[]), .int .i64 0, .slice none 0 0, .slice none 0 0, .string (ByteArray.mk #[]), .bool false, .int .i64 0, .bool false, .string (ByteArray.mk #[]), .string (ByteArray.mk #[]), .int .i64 0, .bool false, .slice none 0 0, .bool false, .bool false, .string (ByteArray.mk #[]), .string (ByteArray.mk #[]), .bool false, .slice none 0 0, .slice none 0 0] 41)) fun x10 =>
  HM.bind (α := Int × Bool × Bool × Int × Int × ByteArray × ByteArray × Int × Slc × Slc × ByteArray × Bool × Int × Bool × ByteArray × ByteArray × Int × Bool × Slc × Bool × Bool × ByteArray × ByteArray × Bool × Slc × Slc × Unit) (HM.loadN [.int .i64, .bool, .bool, .int .i64, .int .i64, .str, .str, .int .i64, .slc, .slc, .str, .bool, .int .i64, .bool, .str, .str, .int .i64, .bool, .slc, .bool, .bool, .str, .str, .bool, .slc, .slc] x5) fun x11 =>
  HM.req ((.agg #[.int .i64 x11.1, .bool x11.2.1, .bool x11.2.2.1, .int .i64 x11.2.2.2.1, .int .i64 x11.2.2.2.2.1, .string x11.2.2.2.2.2.1, .string x11.2.2.2.2.2.2.1, .int .i64 x11.2.2.2.2.2.2.2.1, .slice x11.2.2.2.2.2.2.2.2.1.a x11.2.2.2.2.2.2.2.2.1.len x11.2.2.2.2.2.2.2.2.1.cap, .slice x11.2.2.2.2.2.2.2.2.2.1.a x11.2.2.2.2.2.2.2.2.2.1.len x11.2.2.2.2.2.2.2.2.2.1.cap, .string x11.2.2.2.2.2.2.2.2.2.2.1, .bool x11.2.2.2.2.2.2.2.2.2.2.2.1, .int .i64 x11.2.2.2.2.2.2.2.2.2.2.2.2.1, .bool x11.2.2.2.2.2.2.2.2.2.2.2.2.2.1, .string x11.2.2.2.2.2.2.2.2.2.2.2.2.2.2.1, .string x11.2.2.2.2.2.2.2.2.2.2.2.2.2.2.2.1, .int .i64 x11.2.2.2.2.2.2.2.2.2.2.2.2.2.2.2.2.1, .bool x11.2.2.2.2.2.2.2.2.2.2.2.2.2.2.2.2.2.1, .slice x11.2.2.2.2.2.2.2.2.2.2.2.2.2.2.2.2.2.2.1.a x11.2.2.2.2.2.2.2.2.2.2.2.2.2.2.2.2.2.2.1.len x11.2.2.2.2.2.2.2.2.2.2.2.2.2.2.2.2.2.2.1.cap, .bool x11.2.2.2.2.2.2.2.2.2.2.2.2.2.2.2.2.2.2.2.1, .bool x11.2.2.2.2.2.2.2.2.2.2.2.2.2.2.2.2.2.2.2.2.1, .string x11.2.2.2.2.2.2.2.2.2.2.2.2.2.2.2.2.2.2.2.2.2.1, .string x11.2.2.2.2.2.2.2.2.2.2.2.2.2.2.2.2.2.2.2.2.2.2.1, .bool x11.2.2.2.2.2.2.2.2.2.2.2.2.2.2.2.2.2.2.2.2.2.2.2.1, .slice x11.2.2.2.2.2.2.2.2.2.2.2.2.2.2.2.2.2.2.2.2.2.2.2.2.1.a x11.2.2.2.2.2.2.2.2.2.2.2.2.2.2.2.2.2.2.2.2.2.2.2.2.1.len x11.2.2.2.2.2.2.2.2.2.2.2.2.2.2.2.2.2.2.2.2.2.2.2.2.1.cap, .slice x11.2.2.2.2.2.2.2.2.2.2.2.2.2.2.2.2.2.2.2.2.2.2.2.2.2.1.a x11.2.2.2.2.2.2.2.2.2.2.2.2.2.2.2.2.2.2.2.2.2.2.2.2.2.1.len x11.2.2.2.2.2.2.2.2.2.2.2.2.2.2.2.2.2.2.2.2.2.2.2.2.2.1.cap] : Value) = .agg #[.int .i64 x6.1, .bool x6.2.1, .bool x6.2.2.1, .int .i64 x6.2.2.2.1, .int .i64 x6.2.2.2.2.1, .string x6.2.2.2.2.2.1, .string x6.2.2.2.2.2.2.1, .int .i64 x6.2.2.2.2.2.2.2.1, .slice x6.2.2.2.2.2.2.2.2.1.a x6.2.2.2.2.2.2.2.2.1.len x6.2.2.2.2.2.2.2.2.1.cap, .slice x6.2.2.2.2.2.2.2.2.2.1.a x6.2.2.2.2.2.2.2.2.2.1.len x6.2.2.2.2.2.2.2.2.2.1.cap, .string x6.2.2.2.2.2.2.2.2.2.2.1, .bool x6.2.2.2.2.2.2.2.2.2.2.2.1, .int .i64 x6.2.2.2.2.2.2.2.2.2.2.2.2.1, .bool x6.2.2.2.2.2.2.2.2.2.2.2.2.2.1, .string x6.2.2.2.2.2.2.2.2.2.2.2.2.2.2.1, .string x6.2.2.2.2.2.2.2.2.2.2.2.2.2.2.2.1, .int .i64 x6.2.2.2.2.2.2.2.2.2.2.2.2.2.2.2.2.1, .bool x6.2.2.2.2.2.2.2.2.2.2.2.2.2.2.2.2.2.1, .slice x6.2.2.2.2.2.2.2.2.2.2.2.2.2.2.2.2.2.2.1.a x6.2.2.2.2.2.2.2.2.2.2.2.2.2.2.2.2.2.2.1.len x6.2.2.2.2.2.2.2.2.2.2.2.2.2.2.2.2.2.2.1.cap, .bool x6.2.2.2.2.2.2.2.2.2.2.2.2.2.2.2.2.2.2.2.1, .bool x6.2.2.2.2.2.2.2.2.2.2.2.2.2.2.2.2.2.2.2.2.1, .string x6.2.2.2.2.2.2.2.2.2.2.2.2.2.2.2.2.2.2.2.2.2.1, .string x6.2.2.2.2.2.2.2.2.2.2.2.2.2.2.2.2.2.2.2.2.2.2.1, .bool x6.2.2.2.2.2.2.2.2.2.2.2.2.2.2.2.2.2.2.2.2.2.2.2.1, .slice x6.2.2.2.2.2.2.2.2.2.2.2.2.2.2.2.2.2.2.2.2.2.2.2.2.1.a x6.2.2.2.2.2.2.2.2.2.2.2.2.2.2.2.2.2.2.2.2.2.2.2.2.1.len x6.2.2.2.2.2.2.2.2.2.2.2.2.2.2.2.2.2.2.2.2.2.2.2.2.1.cap, .slice x6.2.2.2.2.2.2.2.2.2.2.2.2.2.2.2.2.2.2.2.2.2.2.2.2.2.1.a x6.2.2.2.2.2.2.2.2.2.2.2.2.2.2.2.2.2.2.2.2.2.2.2.2.2.1.len x6.2.2.2.2.2.2.2.2.2.2.2.2.2.2.2.2.2.2.2.2.2.2.2.2.2.1.cap]) <|
  HM.bind (α := Int × Bool × Bool × Int × Int × ByteArray × ByteArray × Int × Slc × Slc × ByteArray × Bool × Int × Bool × ByteArray × ByteArray × Int × Bool × Slc × Bool × Bool × ByteArray × ByteArray × Bool × Slc × Slc × Unit) (HM.loadN [.int .i64, .bool, .bool, .int .i64, .int .i64, .str, .str, .int .u8, .slc, .slc, .str, .bool, .int .i64, .bool, .str, .str, .int .i64, .bool, .slc, .bool, .bool, .str, .str, .bool, .slc, .slc] x3) fun x12 =>
  HM.req ((.agg #[.int .i64 x12.1, .bool x12.2.1, .bool x12.2.2.1, .int .i64 x12.2.2.2.1, .int .i64 x12.2.2.2.2.1, .string x12.2.2.2.2.2.1, .string x12.2.2.2.2.2.2.1, .int .u8 x12.2.2.2.2.2.2.2.1, .slice x12.2.2.2.2.2.2.2.2.1.a x12.2.2.2.2.2.2.2.2.1.len x12.2.2.2.2.2.2.2.2.1.cap, .slice x12.2.2.2.2.2.2.2.2.2.1.a x12.2.2.2.2.2.2.2.2.2.1.len x12.2.2.2.2.2.2.2.2.2.1.cap, .string x12.2.2.2.2.2.2.2.2.2.2.1, .bool x12.2.2.2.2.2.2.2.2.2.2.2.1, .int .i64 x12.2.2.2.2.2.2.2.2.2.2.2.2.1, .bool x12.2.2.2.2.2.2.2.2.2.2.2.2.2.1, .string x12.2.2.2.2.2.2.2.2.2.2.2.2.2.2.1, .string x12.2.2.2.2.2.2.2.2.2.2.2.2.2.2.2.1, .int .i64 x12.2.2.2.2.2.2.2.2.2.2.2.2.2.2.2.2.1, .bool x12.2.2.2.2.2.2.2.2.2.2.2.2.2.2.2.2.2.1, .slice x12.2.2.2.2.2.2.2.2.2.2.2.2.2.2.2.2.2.2.1.a x12.2.2.2.2.2.2.2.2.2.2.2.2.2.2.2.2.2.2.1.len x12.2.2.2.2.2.2.2.2.2.2.2.2.2.2.2.2.2.2.1.cap, .bool x12.2.2.2.2.2.2.2.2.2.2.2.2.2.2.2.2.2.2.2.1, .bool x12.2.2.2.2.2.2.2.2.2.2.2.2.2.2.2.2.2.2.2.2.1, .string x12.2.2.2.2.2.2.2.2.2.2.2.2.2.2.2.2.2.2.2.2.2.1, .string x12.2.2.2.2.2.2.2.2.2.2.2.2.2.2.2.2.2.2.2.2.2.2.1, .bool x12.2.2.2.2.2.2.2.2.2.2.2.2.2.2.2.2.2.2.2.2.2.2.2.1, .slice x12.2.2.2.2.2.2.2.2.2.2.2.2.2.2.2.2.2.2.2.2.2.2.2.2.1.a x12.2.2.2.2.2.2.2.2.2.2.2.2.2.2.2.2.2.2.2.2.2.2.2.2.1.len x12.2.2.2.2.2.2.2.2.2.2.2.2.2.2.2.2.2.2.2.2.2.2.2.2.1.cap, .slice x12.2.2.2.2.2.2.2.2.2.2.2.2.2.2.2.2.2.2.2.2.2.2.2.2.2.1.a x12.2.2.2.2.2.2.2.2.2.2.2.2.2.2.2.2.2.2.2.2.2.2.2.2.2.1.len x12.2.2.2.2.2.2.2.2.2.2.2.2.2.2.2.2.2.2.2.2.2.2.2.2.2.1.cap] : Value) = .agg #[.int .i64 x4.1, .bool x4.2.1, .bool x4.2.2.1, .int .i64 x4.2.2.2.1, .int .i64 x4.2.2.2.2.1, .string x4.2.2.2.2.2.1, .string x4.2.2.2.2.2.2.1, .int .u8 x4.2.2.2.2.2.2.2.1, .slice x4.2.2.2.2.2.2.2.2.1.a x4.2.2.2.2.2.2.2.2.1.len x4.2.2.2.2.2.2.2.2.1.cap, .slice x4.2.2.2.2.2.2.2.2.2.1.a x4.2.2.2.2.2.2.2.2.2.1.len x4.2.2.2.2.2.2.2.2.2.1.cap, .string x4.2.2.2.2.2.2.2.2.2.2.1, .bool x4.2.2.2.2.2.2.2.2.2.2.2.1, .int .i64 x4.2.2.2.2.2.2.2.2.2.2.2.2.1, .bool x4.2.2.2.2.2.2.2.2.2.2.2.2.2.1, .string x4.2.2.2.2.2.2.2.2.2.2.2.2.2.2.1, .string x4.2.2.2.2.2.2.2.2.2.2.2.2.2.2.2.1, .int .i64 x4.2.2.2.2.2.2.2.2.2.2.2.2.2.2.2.2.1, .bool x4.2.2.2.2.2.2.2.2.2.2.2.2.2.2.2.2.2.1, .slice x4.2.2.2.2.2.2.2.2.2.2.2.2.2.2.2.2.2.2.1.a x4.2.2.2.2.2.2.2.2.2.2.2.2.2.2.2.2.2.2.1.len x4.2.2.2.2.2.2.2.2.2.2.2.2.2.2.2.2.2.2.1.cap, .bool x4.2.2.2.2.2.2.2.2.2.2.2.2.2.2.2.2.2.2.2.1, .bool x4.2.2.2.2.2.2.2.2.2.2.2.2.2.2.2.2.2.2.2.2.1, .string x4.2.2.2.2.2.2.2.2.2.2.2.2.2.2.2.2.2.2.2.2.2.1, .string x4.2.2.2.2.2.2.2.2.2.2.2.2.2.2.2.2.2.2.2.2.2.2.1, .bool x4.2.2.2.2.2.2.2.2.2.2.2.2.2.2.2.2.2.2.2.2.2.2.2.1, .slice x4.2.2.2.2.2.2.2.2.2.2.2.2.2.2.2.2.2.2.2.2.2.2.2.2.1.a x4.2.2.2.2.2.2.2.2.2.2.2.2.2.2.2.2.2.2.2.2.2.2.2.2.1.len x4.2.2.2.2.2.2.2.2.2.2.2.2.2.2.2.2.2.2.2.2.2.2.2.2.1.cap, .slice x4.2.2.2.2.2.2.2.2.2.2.2.2.2.2.2.2.2.2.2.2.2.2.2.2.2.1.a x4.2.2.2.2.2.2.2.2.2.2.2.2.2.2.2.2.2.2.2.2.2.2.2.2.2.1.len x4.2.2.2.2.2.2.2.2.2.2.2.2.2.2.2.2.2.2.2.2.2.2.2.2.2.1.cap]) <|
  HM.bind (α := Unit) (HM.storeN ⟨x7, 0, none⟩ [.int .i64 x4.1, .bool x4.2.1, .bool x4.2.2.1, .int .i64 x4.2.2.2.1, .int .i64 x4.2.2.2.2.1, .string x4.2.2.2.2.2.1, .string x4.2.2.2.2.2.2.1, .int .u8 x4.2.2.2.2.2.2.2.1, .slice x4.2.2.2.2.2.2.2.2.1.a x4.2.2.2.2.2.2.2.2.1.len x4.2.2.2.2.2.2.2.2.1.cap, .slice x4.2.2.2.2.2.2.2.2.2.1.a x4.2.2.2.2.2.2.2.2.2.1.len x4.2.2.2.2.2.2.2.2.2.1.cap, .string x4.2.2.2.2.2.2.2.2.2.2.1, .bool x4.2.2.2.2.2.2.2.2.2.2.2.1, .int .i64 x4.2.2.2.2.2.2.2.2.2.2.2.2.1, .bool x4.2.2.2.2.2.2.2.2.2.2.2.2.2.1, .string x4.2.2.2.2.2.2.2.2.2.2.2.2.2.2.1, .string x4.2.2.2.2.2.2.2.2.2.2.2.2.2.2.2.1, .int .i64 x4.2.2.2.2.2.2.2.2.2.2.2.2.2.2.2.2.1, .bool x4.2.2.2.2.2.2.2.2.2.2.2.2.2.2.2.2.2.1, .slice x4.2.2.2.2.2.2.2.2.2.2.2.2.2.2.2.2.2.2.1.a x4.2.2.2.2.2.2.2.2.2.2.2.2.2.2.2.2.2.2.1.len x4.2.2.2.2.2.2.2.2.2.2.2.2.2.2.2.2.2.2.1.cap, .bool x4.2.2.2.2.2.2.2.2.2.2.2.2.2.2.2.2.2.2.2.1, .bool x4.2.2.2.2.2.2.2.2.2.2.2.2.2.2.2.2.2.2.2.2.1, .string x4.2.2.2.2.2.2.2.2.2.2.2.2.2.2.2.2.2.2.2.2.2.1, .string x4.2.2.2.2.2.2.2.2.2.2.2.2.2.2.2.2.2.2.2.2.2.2.1, .bool x4.2.2.2.2.2.2.2.2.2.2.2.2.2.2.2.2.2.2.2.2.2.2.2.1, .slice x4.2.2.2.2.2.2.2.2.2.2.2.2.2.2.2.2.2.2.2.2.2.2.2.2.1.a x4.2.2.2.2.2.2.2.2.2.2.2.2.2.2.2.2.2.2.2.2.2.2.2.2.1.len x4.2.2.2.2.2.2.2.2.2.2.2.2.2.2.2.2.2.2.2.2.2.2.2.2.1.cap, .slice x4.2.2.2.2.2.2.2.2.2.2.2.2.2.2.2.2.2.2.2.2.2.2.2.2.2.1.a x4.2.2.2.2.2.2.2.2.2.2.2.2.2.2.2.2.2.2.2.2.2.2.2.2.2.1.len x4.2.2.2.2.2.2.2.2.2.2.2.2.2.2.2.2.2.2.2.2.2.2.2.2.2.1.cap]) fun _ =>
  HM.bind (α := Int × Bool × Bool × Int × Int × ByteArray × ByteArray × Int × Slc × Slc × ByteArray × Bool × Int × Bool × ByteArray × ByteArray × Int × Bool × Slc × Bool × Bool × ByteArray × ByteArray × Bool × Slc × Slc × Unit) (HM.loadN [.int .i64, .bool, .bool, .int .i64, .int .i64, .str, .str, .int .i64, .slc, .slc, .str, .bool, .int .i64, .bool, .str, .str, .int .i64, .bool, .slc, .bool, .bool, .str, .str, .bool, .slc, .slc] x5) fun x13 =>
  HM.req ((.agg #[.int .i64 x13.1, .bool x13.2.1, .bool x13.2.2.1, .int .i64 x13.2.2.2.1, .int .i64 x13.2.2.2.2.1, .string x13.2.2.2.2.2.1, .string x13.2.2.2.2.2.2.1, .int .i64 x13.2.2.2.2.2.2.2.1, .slice x13.2.2.2.2.2.2.2.2.1.a x13.2.2.2.2.2.2.2.2.1.len x13.2.2.2.2.2.2.2.2.1.cap, .slice x13.2.2.2.2.2.2.2.2.2.1.a x13.2.2.2.2.2.2.2.2.2.1.len x13.2.2.2.2.2.2.2.2.2.1.cap, .string x13.2.2.2.2.2.2.2.2.2.2.1, .bool x13.2.2.2.2.2.2.2.2.2.2.2.1, .int .i64 x13.2.2.2.2.2.2.2.2.2.2.2.2.1, .bool x13.2.2.2.2.2.2.2.2.2.2.2.2.2.1, .string x13.2.2.2.2.2.2.2.2.2.2.2.2.2.2.1, .string x13.2.2.2.2.2.2.2.2.2.2.2.2.2.2.2.1, .int .i64 x13.2.2.2.2.2.2.2.2.2.2.2.2.2.2.2.2.1, .bool x13.2.2.2.2.2.2.2.2.2.2.2.2.2.2.2.2.2.1, .slice x13.2.2.2.2.2.2.2.2.2.2.2.2.2.2.2.2.2.2.1.a x13.2.2.2.2.2.2.2.2.2.2.2.2.2.2.2.2.2.2.1.len x13.2.2.2.2.2.2.2.2.2.2.2.2.2.2.2.2.2.2.1.cap, .bool x13.2.2.2.2.2.2.2.2.2.2.2.2.2.2.2.2.2.2.2.1, .bool x13.2.2.2.2.2.2.2.2.2.2.2.2.2.2.2.2.2.2.2.2.1, .string x13.2.2.2.2.2.2.2.2.2.2.2.2.2.2.2.2.2.2.2.2.2.1, .string x13.2.2.2.2.2.2.2.2.2.2.2.2.2.2.2.2.2.2.2.2.2.2.1, .bool x13.2.2.2.2.2.2.2.2.2.2.2.2.2.2.2.2.2.2.2.2.2.2.2.1, .slice x13.2.2.2.2.2.2.2.2.2.2.2.2.2.2.2.2.2.2.2.2.2.2.2.2.1.a x13.2.2.2.2.2.2.2.2.2.2.2.2.2.2.2.2.2.2.2.2.2.2.2.2.1.len x13.2.2.2.2.2.2.2.2.2.2.2.2.2.2.2.2.2.2.2.2.2.2.2.2.1.cap, .slice x13.2.2.2.2.2.2.2.2.2.2.2.2.2.2.2.2.2.2.2.2.2.2.2.2.2.1.a x13.2.2.2.2.2.2.2.2.2.2.2.2.2.2.2.2.2.2.2.2.2.2.2.2.2.1.len x13.2.2.2.2.2.2.2.2.2.2.2.2.2.2.2.2.2.2.2.2.2.2.2.2.2.1.cap] : Value) = .agg #[.int .i64 x6.1, .bool x6.2.1, .bool x6.2.2.1, .int .i64 x6.2.2.2.1, .int .i64 x6.2.2.2.2.1, .string x6.2.2.2.2.2.1, .string x6.2.2.2.2.2.2.1, .int .i64 x6.2.2.2.2.2.2.2.1, .slice x6.2.2.2.2.2.2.2.2.1.a x6.2.2.2.2.2.2.2.2.1.len x6.2.2.2.2.2.2.2.2.1.cap, .slice x6.2.2.2.2.2.2.2.2.2.1.a x6.2.2.2.2.2.2.2.2.2.1.len x6.2.2.2.2.2.2.2.2.2.1.cap, .string x6.2.2.2.2.2.2.2.2.2.2.1, .bool x6.2.2.2.2.2.2.2.2.2.2.2.1, .int .i64 x6.2.2.2.2.2.2.2.2.2.2.2.2.1, .bool x6.2.2.2.2.2.2.2.2.2.2.2.2.2.1, .string x6.2.2.2.2.2.2.2.2.2.2.2.2.2.2.1, .string x6.2.2.2.2.2.2.2.2.2.2.2.2.2.2.2.1, .int .i64 x6.2.2.2.2.2.2.2.2.2.2.2.2.2.2.2.2.1, .bool x6.2.2.2.2.2.2.2.2.2.2.2.2.2.2.2.2.2.1, .slice x6.2.2.2.2.2.2.2.2.2.2.2.2.2.2.2.2.2.2.1.a x6.2.2.2.2.2.2.2.2.2.2.2.2.2.2.2.2.2.2.1.len x6.2.2.2.2.2.2.2.2.2.2.2.2.2.2.2.2.2.2.1.cap, .bool x6.2.2.2.2.2.2.2.2.2.2.2.2.2.2.2.2.2.2.2.1, .bool x6.2.2.2.2.2.2.2.2.2.2.2.2.2.2.2.2.2.2.2.2.1, .string x6.2.2.2.2.2.2.2.2.2.2.2.2.2.2.2.2.2.2.2.2.2.1, .string x6.2.2.2.2.2.2.2.2.2.2.2.2.2.2.2.2.2.2.2.2.2.2.1, .bool x6.2.2.2.2.2.2.2.2.2.2.2.2.2.2.2.2.2.2.2.2.2.2.2.1, .slice x6.2.2.2.2.2.2.2.2.2.2.2.2.2.2.2.2.2.2.2.2.2.2.2.2.1.a x6.2.2.2.2.2.2.2.2.2.2.2.2.2.2.2.2.2.2.2.2.2.2.2.2.1.len x6.2.2.2.2.2.2.2.2.2.2.2.2.2.2.2.2.2.2.2.2.2.2.2.2.1.cap, .slice x6.2.2.2.2.2.2.2.2.2.2.2.2.2.2.2.2.2.2.2.2.2.2.2.2.2.1.a x6.2.2.2.2.2.2.2.2.2.2.2.2.2.2.2.2.2.2.2.2.2.2.2.2.2.1.len x6.2.2.2.2.2.2.2.2.2.2.2.2.2.2.2.2.2.2.2.2.2.2.2.2.2.1.cap]) <|
  HM.bind (α := Unit) (HM.storeN ⟨x10, 0, none⟩ [.int .i64 x6.1, .bool x6.2.1, .bool x6.2.2.1, .int .i64 x6.2.2.2.1, .int .i64 x6.2.2.2.2.1, .string x6.2.2.2.2.2.1, .string x6.2.2.2.2.2.2.1, .int .i64 x6.2.2.2.2.2.2.2.1, .slice x6.2.2.2.2.2.2.2.2.1.a x6.2.2.2.2.2.2.2.2.1.len x6.2.2.2.2.2.2.2.2.1.cap, .slice x6.2.2.2.2.2.2.2.2.2.1.a x6.2.2.2.2.2.2.2.2.2.1.len x6.2.2.2.2.2.2.2.2.2.1.cap, .string x6.2.2.2.2.2.2.2.2.2.2.1, .bool x6.2.2.2.2.2.2.2.2.2.2.2.1, .int .i64 x6.2.2.2.2.2.2.2.2.2.2.2.2.1, .bool x6.2.2.2.2.2.2.2.2.2.2.2.2.2.1, .string x6.2.2.2.2.2.2.2.2.2.2.2.2.2.2.1, .string x6.2.2.2.2.2.2.2.2.2.2.2.2.2.2.2.1, .int .i64 x6.2.2.2.2.2.2.2.2.2.2.2.2.2.2.2.2.1, .bool x6.2.2.2.2.2.2.2.2.2.2.2.2.2.2.2.2.2.1, .slice x6.2.2.2.2.2.2.2.2.2.2.2.2.2.2.2.2.2.2.1.a x6.2.2.2.2.2.2.2.2.2.2.2.2.2.2.2.2.2.2.1.len x6.2.2.2.2.2.2.2.2.2.2.2.2.2.2.2.2.2.2.1.cap, .bool x6.2.2.2.2.2.2.2.2.2.2.2.2.2.2.2.2.2.2.2.1, .bool x6.2.2.2.2.2.2.2.2.2.2.2.2.2.2.2.2.2.2.2.2.1, .string x6.2.2.2.2.2.2.2.2.2.2.2.2.2.2.2.2.2.2.2.2.2.1, .string x6.2.2.2.2.2.2.2.2.2.2.2.2.2.2.2.2.2.2.2.2.2.2.1, .bool x6.2.2.2.2.2.2.2.2.2.2.2.2.2.2.2.2.2.2.2.2.2.2.2.1, .slice x6.2.2.2.2.2.2.2.2.2.2.2.2.2.2.2.2.2.2.2.2.2.2.2.2.1.a x6.2.2.2.2.2.2.2.2.2.2.2.2.2.2.2.2.2.2.2.2.2.2.2.2.1.len x6.2.2.2.2.2.2.2.2.2.2.2.2.2.2.2.2.2.2.2.2.2.2.2.2.1.cap, .slice x6.2.2.2.2.2.2.2.2.2.2.2.2.2.2.2.2.2.2.2.2.2.2.2.2.2.1.a x6.2.2.2.2.2.2.2.2.2.2.2.2.2.2.2.2.2.2.2.2.2.2.2.2.2.1.len x6.2.2.2.2.2.2.2.2.2.2.2.2.2.2.2.2.2.2.2.2.2.2.2.2.2.1.cap]) fun _ =>
  HM.bind (α := Bool × Unit) (HM.bind (α := Int) (HM.load1 (.int .i64) (Addr.add ⟨x7, 0, none⟩ 0)) fun x14 =>
  HM.bind (α := Int) (HM.load1 (.int .i64) (Addr.add ⟨x10, 0, none⟩ 0)) fun x15 =>
  HM.ite (!(x14 == x15)) (
  HM.pure (true, ())) (
  HM.bind (α := Bool) (HM.load1 .bool (Addr.add ⟨x7, 0, none⟩ 1)) fun x16 =>
  HM.bind (α := Bool) (HM.load1 .bool (Addr.add ⟨x10, 0, none⟩ 1)) fun x17 =>
  HM.ite (!(x16 == x17)) (
  HM.pure (true, ())) (
  HM.bind (α := Bool) (HM.load1 .bool (Addr.add ⟨x7, 0, none⟩ 2)) fun x18 =>
  HM.bind (α := Bool) (HM.load1 .bool (Addr.add ⟨x10, 0, none⟩ 2)) fun x19 =>
  HM.ite (!(x18 == x19)) (
  HM.pure (true, ())) (
  HM.bind (α := Int) (HM.load1 (.int .i64) (Addr.add ⟨x7, 0, none⟩ 3)) fun x20 =>
  HM.bind (α := Int) (HM.load1 (.int .i64) (Addr.add ⟨x10, 0, none⟩ 3)) fun x21 =>
  HM.ite (!(x20 == x21)) (
  HM.pure (true, ())) (
  HM.bind (α := Int) (HM.load1 (.int .i64) (Addr.add ⟨x7, 0, none⟩ 4)) fun x22 =>
  HM.bind (α := Int) (HM.load1 (.int .i64) (Addr.add ⟨x10, 0, none⟩ 4)) fun x23 =>
  HM.ite (!(x22 == x23)) (
  HM.pure (true, ())) (
  HM.bind (α := ByteArray) (HM.load1 .str (Addr.add ⟨x7, 0, none⟩ 5)) fun x24 =>
  HM.bind (α := ByteArray) (HM.load1 .str (Addr.add ⟨x10, 0, none⟩ 5)) fun x25 =>
  HM.ite (!(decide (x24 = x25))) (
  HM.pure (true, ())) (
  HM.bind (α := ByteArray) (HM.load1 .str (Addr.add ⟨x7, 0, none⟩ 6)) fun x26 =>
  HM.bind (α := ByteArray) (HM.load1 .str (Addr.add ⟨x10, 0, none⟩ 6)) fun x27 =>
  HM.ite (!(decide (x26 = x27))) (
  HM.pure (true, ())) (
  HM.bind (α := Int) (HM.load1 (.int .u8) (Addr.add ⟨x7, 0, none⟩ 7)) fun x28 =>
  HM.bind (α := Int) (HM.load1 (.int .i64) (Addr.add ⟨x10, 0, none⟩ 7)) fun x29 =>
  HM.ite (!((IntKind.wrap .i64 x28) == x29)) (
  HM.pure (true, ())) (
  HM.bind (α := Slc) (HM.load1 .slc (Addr.add ⟨x7, 0, none⟩ 9)) fun x30 =>
  HM.bind (α := Slc) (HM.load1 .slc (Addr.add ⟨x10, 0, none⟩ 9)) fun x31 =>
  HM.ite (!(((x30.len : Nat) : Int) == ((x31.len : Nat) : Int))) (
  HM.pure (true, ())) (
  HM.bind (α := Slc) (HM.load1 .slc (Addr.add ⟨x7, 0, none⟩ 8)) fun x32 =>
  HM.bind (α := Slc) (HM.load1 .slc (Addr.add ⟨x10, 0, none⟩ 8)) fun x33 =>
  HM.ite (!(((x32.len : Nat) : Int) == ((x33.len : Nat) : Int))) (
  HM.pure (true, ())) (
  HM.bind (α := Bool) (HM.load1 .bool (Addr.add ⟨x7, 0, none⟩ 23)) fun x34 =>
  HM.bind (α := Bool) (HM.load1 .bool (Addr.add ⟨x10, 0, none⟩ 23)) fun x35 =>
  HM.pure (!(x34 == x35), ())))))))))))) fun x36 =>
  HM.ite x36.1 (
  HM.pure (.inr (.inr (false, ())))) (
  HM.bind (α := Slc) (HM.load1 .slc (Addr.add ⟨x7, 0, none⟩ 9)) fun x37 =>
  HM.bind (α := (Int × Unit) ⊕ ((Int × Unit) ⊕ ((Int × Unit) ⊕ (Bool × Unit)))) (HM.loop (σ := Int × Unit) (τ := (Int × Unit) ⊕ ((Int × Unit) ⊕ ((Int × Unit) ⊕ (Bool × Unit)))) (fun x39 =>
  HM.ite (decide (x39.1 < (((x37.len : Nat) : Int) : Int))) (
  HM.bind (α := Slc) (HM.load1 .slc (Addr.add ⟨x7, 0, none⟩ 9)) fun x40 =>
  HM.bind (α := Addr) (HM.idx x40.a x40.len x39.1 4) fun x41 =>
  HM.bind (α := Int × Int × ByteArray × ByteArray × Unit) (HM.loadN [.int .i64, .int .i64, .str, .str] x41) fun x42 =>
  HM.bind (α := Slc) (HM.load1 .slc (Addr.add ⟨x10, 0, none⟩ 9)) fun x43 =>
  HM.bind (α := Addr) (HM.idx x43.a x43.len x39.1 4) fun x44 =>
  HM.bind (α := Int × Int × ByteArray × ByteArray × Unit) (HM.loadN [.int .i64, .int .i64, .str, .str] x44) fun x45 =>
  HM.ite (!((x42.1 == x45.1) && ((x42.2.1 == x45.2.1) && ((decide (x42.2.2.1 = x45.2.2.1)) && ((decide (x42.2.2.2.1 = x45.2.2.2.1)) && true))))) (
  HM.pure (.inr (.inr (.inr (.inr (false, ())))))) (
  HM.pure (.inl (IntKind.wrap .i64 (x39.1 + 1), ())))) (
  HM.pure (.inr (.inl (x39.1, ()))))) (0, ())) (Sum.elim (fun x38 =>
  HM.bind (α := Slc) (HM.load1 .slc (Addr.add ⟨x7, 0, none⟩ 8)) fun x46 =>
  HM.bind (α := (Int × Unit) ⊕ ((Int × Unit) ⊕ ((Int × Unit) ⊕ (Bool × Unit)))) (HM.loop (σ := Int × Unit) (τ := (Int × Unit) ⊕ ((Int × Unit) ⊕ ((Int × Unit) ⊕ (Bool × Unit)))) (fun x48 =>
  HM.ite (decide (x48.1 < (((x46.len : Nat) : Int) : Int))) (
  HM.bind (α := Slc) (HM.load1 .slc (Addr.add ⟨x7, 0, none⟩ 8)) fun x49 =>
  HM.bind (α := Addr) (HM.idx x49.a x49.len x48.1 1) fun x50 =>
  HM.bind (α := Int) (HM.load1 (.int .u8) x50) fun x51 =>
  HM.bind (α := Slc) (HM.load1 .slc (Addr.add ⟨x10, 0, none⟩ 8)) fun x52 =>
  HM.bind (α := Addr) (HM.idx x52.a x52.len x48.1 1) fun x53 =>
  HM.bind (α := Int) (HM.load1 (.int .i64) x53) fun x54 =>
  HM.ite (!((IntKind.wrap .i64 x51) == x54)) (
  HM.pure (.inr (.inr (.inr (.inr (false, ())))))) (
  HM.pure (.inl (IntKind.wrap .i64 (x48.1 + 1), ())))) (
  HM.pure (.inr (.inl (x48.1, ()))))) (0, ())) (Sum.elim (fun x47 =>
  HM.pure (.inl (IntKind.wrap .i64 (x2.1 + 1), ()))) HM.pure)) HM.pure))) (
  HM.bind (α := Nat) (HM.new (.cells #[.int .i64 0, .bool false, .bool false, .int .i64 0, .int .i64 0, .string (ByteArray.mk #[]), .string (ByteArray.mk #[]), .int .i64 0, .slice none 0 0, .slice none 0 0, .string (ByteArray.mk #[]), .bool false, .int .i64 0, .bool false, .string (ByteArray.mk #[]), .string (ByteArray.mk #[]), .int .i64 0, .bool false, .slice none 0 0, .bool false, .bool false, .string (ByteArray.mk #[]), .string (ByteArray.mk #[]), .bool false, .slice none 0 0, .slice none 0 0] 41)) fun x55 =>
  HM.bind (α := Int × Bool × Bool × Int × Int × ByteArray × ByteArray × Int × Slc × Slc × ByteArray × Bool × Int × Bool × ByteArray × ByteArray × Int × Bool × Slc × Bool × Bool × ByteArray × ByteArray × Bool × Slc × Slc × Unit) (HM.loadN [.int .i64, .bool, .bool, .int .i64, .int .i64, .str, .str, .int .i64, .slc, .slc, .str, .bool, .int .i64, .bool, .str, .str, .int .i64, .bool, .slc, .bool, .bool, .str, .str, .bool, .slc, .slc] x5) fun x56 =>
  HM.req ((.agg #[.int .i64 x56.1, .bool x56.2.1, .bool x56.2.2.1, .int .i64 x56.2.2.2.1, .int .i64 x56.2.2.2.2.1, .string x56.2.2.2.2.2.1, .string x56.2.2.2.2.2.2.1, .int .i64 x56.2.2.2.2.2.2.2.1, .slice x56.2.2.2.2.2.2.2.2.1.a x56.2.2.2.2.2.2.2.2.1.len x56.2.2.2.2.2.2.2.2.1.cap, .slice x56.2.2.2.2.2.2.2.2.2.1.a x56.2.2.2.2.2.2.2.2.2.1.len x56.2.2.2.2.2.2.2.2.2.1.cap, .string x56.2.2.2.2.2.2.2.2.2.2.1, .bool x56.2.2.2.2.2.2.2.2.2.2.2.1, .int .i64 x56.2.2.2.2.2.2.2.2.2.2.2.2.1, .bool x56.2.2.2.2.2.2.2.2.2.2.2.2.2.1, .string x56.2.2.2.2.2.2.2.2.2.2.2.2.2.2.1, .string x56.2.2.2.2.2.2.2.2.2.2.2.2.2.2.2.1, .int .i64 x56.2.2.2.2.2.2.2.2.2.2.2.2.2.2.2.2.1, .bool x56.2.2.2.2.2.2.2.2.2.2.2.2.2.2.2.2.2.1, .slice x56.2.2.2.2.2.2.2.2.2.2.2.2.2.2.2.2.2.2.1.a x56.2.2.2.2.2.2.2.2.2.2.2.2.2.2.2.2.2.2.1.len x56.2.2.2.2.2.2.2.2.2.2.2.2.2.2.2.2.2.2.1.cap, .bool x56.2.2.2.2.2.2.2.2.2.2.2.2.2.2.2.2.2.2.2.1, .bool x56.2.2.2.2.2.2.2.2.2.2.2.2.2.2.2.2.2.2.2.2.1, .string x56.2.2.2.2.2.2.2.2.2.2.2.2.2.2.2.2.2.2.2.2.2.1, .string x56.2.2.2.2.2.2.2.2.2.2.2.2.2.2.2.2.2.2.2.2.2.2.1, .bool x56.2.2.2.2.2.2.2.2.2.2.2.2.2.2.2.2.2.2.2.2.2.2.2.1, .slice x56.2.2.2.2.2.2.2.2.2.2.2.2.2.2.2.2.2.2.2.2.2.2.2.2.1.a x56.2.2.2.2.2.2.2.2.2.2.2.2.2.2.2.2.2.2.2.2.2.2.2.2.1.len x56.2.2.2.2.2.2.2.2.2.2.2.2.2.2.2.2.2.2.2.2.2.2.2.2.1.cap, .slice x56.2.2.2.2.2.2.2.2.2.2.2.2.2.2.2.2.2.2.2.2.2.2.2.2.2.1.a x56.2.2.2.2.2.2.2.2.2.2.2.2.2.2.2.2.2.2.2.2.2.2.2.2.2.1.len x56.2.2.2.2.2.2.2.2.2.2.2.2.2.2.2.2.2.2.2.2.2.2.2.2.2.1.cap] : Value) = .agg #[.int .i64 x6.1, .bool x6.2.1, .bool x6.2.2.1, .int .i64 x6.2.2.2.1, .int .i64 x6.2.2.2.2.1, .string x6.2.2.2.2.2.1, .string x6.2.2.2.2.2.2.1, .int .i64 x6.2.2.2.2.2.2.2.1, .slice x6.2.2.2.2.2.2.2.2.1.a x6.2.2.2.2.2.2.2.2.1.len x6.2.2.2.2.2.2.2.2.1.cap, .slice x6.2.2.2.2.2.2.2.2.2.1.a x6.2.2.2.2.2.2.2.2.2.1.len x6.2.2.2.2.2.2.2.2.2.1.cap, .string x6.2.2.2.2.2.2.2.2.2.2.1, .bool x6.2.2.2.2.2.2.2.2.2.2.2.1, .int .i64 x6.2.2.2.2.2.2.2.2.2.2.2.2.1, .bool x6.2.2.2.2.2.2.2.2.2.2.2.2.2.1, .string x6.2.2.2.2.2.2.2.2.2.2.2.2.2.2.1, .string x6.2.2.2.2.2.2.2.2.2.2.2.2.2.2.2.1, .int .i64 x6.2.2.2.2.2.2.2.2.2.2.2.2.2.2.2.2.1, .bool x6.2.2.2.2.2.2.2.2.2.2.2.2.2.2.2.2.2.1, .slice x6.2.2.2.2.2.2.2.2.2.2.2.2.2.2.2.2.2.2.1.a x6.2.2.2.2.2.2.2.2.2.2.2.2.2.2.2.2.2.2.1.len x6.2.2.2.2.2.2.2.2.2.2.2.2.2.2.2.2.2.2.1.cap, .bool x6.2.2.2.2.2.2.2.2.2.2.2.2.2.2.2.2.2.2.2.1, .bool x6.2.2.2.2.2.2.2.2.2.2.2.2.2.2.2.2.2.2.2.2.1, .string x6.2.2.2.2.2.2.2.2.2.2.2.2.2.2.2.2.2.2.2.2.2.1, .string x6.2.2.2.2.2.2.2.2.2.2.2.2.2.2.2.2.2.2.2.2.2.2.1, .bool x6.2.2.2.2.2.2.2.2.2.2.2.2.2.2.2.2.2.2.2.2.2.2.2.1, .slice x6.2.2.2.2.2.2.2.2.2.2.2.2.2.2.2.2.2.2.2.2.2.2.2.2.1.a x6.2.2.2.2.2.2.2.2.2.2.2.2.2.2.2.2.2.2.2.2.2.2.2.2.1.len x6.2.2.2.2.2.2.2.2.2.2.2.2.2.2.2.2.2.2.2.2.2.2.2.2.1.cap, .slice x6.2.2.2.2.2.2.2.2.2.2.2.2.2.2.2.2.2.2.2.2.2.2.2.2.2.1.a x6.2.2.2.2.2.2.2.2.2.2.2.2.2.2.2.2.2.2.2.2.2.2.2.2.2.1.len x6.2.2.2.2.2.2.2.2.2.2.2.2.2.2.2.2.2.2.2.2.2.2.2.2.2.1.cap]) <|
  HM.bind (α := Int × Bool × Bool × Int × Int × ByteArray × ByteArray × Int × Slc × Slc × ByteArray × Bool × Int × Bool × ByteArray × ByteArray × Int × Bool × Slc × Bool × Bool × ByteArray × ByteArray × Bool × Slc × Slc × Unit) (HM.loadN [.int .i64, .bool, .bool, .int .i64, .int .i64, .str, .str, .int .u8, .slc, .slc, .str, .bool, .int .i64, .bool, .str, .str, .int .i64, .bool, .slc, .bool, .bool, .str, .str, .bool, .slc, .slc] x3) fun x57 =>
  HM.req ((.agg #[.int .i64 x57.1, .bool x57.2.1, .bool x57.2.2.1, .int .i64 x57.2.2.2.1, .int .i64 x57.2.2.2.2.1, .string x57.2.2.2.2.2.1, .string x57.2.2.2.2.2.2.1, .int .u8 x57.2.2.2.2.2.2.2.1, .slice x57.2.2.2.2.2.2.2.2.1.a x57.2.2.2.2.2.2.2.2.1.len x57.2.2.2.2.2.2.2.2.1.cap, .slice x57.2.2.2.2.2.2.2.2.2.1.a x57.2.2.2.2.2.2.2.2.2.1.len x57.2.2.2.2.2.2.2.2.2.1.cap, .string x57.2.2.2.2.2.2.2.2.2.2.1, .bool x57.2.2.2.2.2.2.2.2.2.2.2.1, .int .i64 x57.2.2.2.2.2.2.2.2.2.2.2.2.1, .bool x57.2.2.2.2.2.2.2.2.2.2.2.2.2.1, .string x57.2.2.2.2.2.2.2.2.2.2.2.2.2.2.1, .string x57.2.2.2.2.2.2.2.2.2.2.2.2.2.2.2.1, .int .i64 x57.2.2.2.2.2.2.2.2.2.2.2.2.2.2.2.2.1, .bool x57.2.2.2.2.2.2.2.2.2.2.2.2.2.2.2.2.2.1, .slice x57.2.2.2.2.2.2.2.2.2.2.2.2.2.2.2.2.2.2.1.a x57.2.2.2.2.2.2.2.2.2.2.2.2.2.2.2.2.2.2.1.len x57.2.2.2.2.2.2.2.2.2.2.2.2.2.2.2.2.2.2.1.cap, .bool x57.2.2.2.2.2.2.2.2.2.2.2.2.2.2.2.2.2.2.2.1, .bool x57.2.2.2.2.2.2.2.2.2.2.2.2.2.2.2.2.2.2.2.2.1, .string x57.2.2.2.2.2.2.2.2.2.2.2.2.2.2.2.2.2.2.2.2.2.1, .string x57.2.2.2.2.2.2.2.2.2.2.2.2.2.2.2.2.2.2.2.2.2.2.1, .bool x57.2.2.2.2.2.2.2.2.2.2.2.2.2.2.2.2.2.2.2.2.2.2.2.1, .slice x57.2.2.2.2.2.2.2.2.2.2.2.2.2.2.2.2.2.2.2.2.2.2.2.2.1.a x57.2.2.2.2.2.2.2.2.2.2.2.2.2.2.2.2.2.2.2.2.2.2.2.2.1.len x57.2.2.2.2.2.2.2.2.2.2.2.2.2.2.2.2.2.2.2.2.2.2.2.2.1.cap, .slice x57.2.2.2.2.2.2.2.2.2.2.2.2.2.2.2.2.2.2.2.2.2.2.2.2.2.1.a x57.2.2.2.2.2.2.2.2.2.2.2.2.2.2.2.2.2.2.2.2.2.2.2.2.2.1.len x57.2.2.2.2.2.2.2.2.2.2.2.2.2.2.2.2.2.2.2.2.2.2.2.2.2.1.cap] : Value) = .agg #[.int .i64 x4.1, .bool x4.2.1, .bool x4.2.2.1, .int .i64 x4.2.2.2.1, .int .i64 x4.2.2.2.2.1, .string x4.2.2.2.2.2.1, .string x4.2.2.2.2.2.2.1, .int .u8 x4.2.2.2.2.2.2.2.1, .slice x4.2.2.2.2.2.2.2.2.1.a x4.2.2.2.2.2.2.2.2.1.len x4.2.2.2.2.2.2.2.2.1.cap, .slice x4.2.2.2.2.2.2.2.2.2.1.a x4.2.2.2.2.2.2.2.2.2.1.len x4.2.2.2.2.2.2.2.2.2.1.cap, .string x4.2.2.2.2.2.2.2.2.2.2.1, .bool x4.2.2.2.2.2.2.2.2.2.2.2.1, .int .i64 x4.2.2.2.2.2.2.2.2.2.2.2.2.1, .bool x4.2.2.2.2.2.2.2.2.2.2.2.2.2.1, .string x4.2.2.2.2.2.2.2.2.2.2.2.2.2.2.1, .string x4.2.2.2.2.2.2.2.2.2.2.2.2.2.2.2.1, .int .i64 x4.2.2.2.2.2.2.2.2.2.2.2.2.2.2.2.2.1, .bool x4.2.2.2.2.2.2.2.2.2.2.2.2.2.2.2.2.2.1, .slice x4.2.2.2.2.2.2.2.2.2.2.2.2.2.2.2.2.2.2.1.a x4.2.2.2.2.2.2.2.2.2.2.2.2.2.2.2.2.2.2.1.len x4.2.2.2.2.2.2.2.2.2.2.2.2.2.2.2.2.2.2.1.cap, .bool x4.2.2.2.2.2.2.2.2.2.2.2.2.2.2.2.2.2.2.2.1, .bool x4.2.2.2.2.2.2.2.2.2.2.2.2.2.2.2.2.2.2.2.2.1, .string x4.2.2.2.2.2.2.2.2.2.2.2.2.2.2.2.2.2.2.2.2.2.1, .string x4.2.2.2.2.2.2.2.2.2.2.2.2.2.2.2.2.2.2.2.2.2.2.1, .bool x4.2.2.2.2.2.2.2.2.2.2.2.2.2.2.2.2.2.2.2.2.2.2.2.1, .slice x4.2.2.2.2.2.2.2.2.2.2.2.2.2.2.2.2.2.2.2.2.2.2.2.2.1.a x4.2.2.2.2.2.2.2.2.2.2.2.2.2.2.2.2.2.2.2.2.2.2.2.2.1.len x4.2.2.2.2.2.2.2.2.2.2.2.2.2.2.2.2.2.2.2.2.2.2.2.2.1.cap, .slice x4.2.2.2.2.2.2.2.2.2.2.2.2.2.2.2.2.2.2.2.2.2.2.2.2.2.1.a x4.2.2.2.2.2.2.2.2.2.2.2.2.2.2.2.2.2.2.2.2.2.2.2.2.2.1.len x4.2.2.2.2.2.2.2.2.2.2.2.2.2.2.2.2.2.2.2.2.2.2.2.2.2.1.cap]) <|
  HM.bind (α := Nat) (HM.new (.cells #[.int .i64 0, .bool false, .bool false, .int .i64 0, .int .i64 0, .string (ByteArray.mk #[]), .string (ByteArray.mk #[]), .int .u8 0, .slice none 0 0, .slice none 0 0, .string (ByteArray.mk #[]), .bool false, .int .i64 0, .bool false, .string (ByteArray.mk #[]), .string (ByteArray.mk #[]), .int .i64 0, .bool false, .slice none 0 0, .bool false, .bool false, .string (ByteArray.mk #[]), .string (ByteArray.mk #[]), .bool false, .slice none 0 0, .slice none 0 0] 34)) fun x58 =>
  HM.bind (α := Int × Bool × Bool × Int × Int × ByteArray × ByteArray × Int × Slc × Slc × ByteArray × Bool × Int × Bool × ByteArray × ByteArray × Int × Bool × Slc × Bool × Bool × ByteArray × ByteArray × Bool × Slc × Slc × Unit) (HM.loadN [.int .i64, .bool, .bool, .int .i64, .int .i64, .str, .str, .int .i64, .slc, .slc, .str, .bool, .int .i64, .bool, .str, .str, .int .i64, .bool, .slc, .bool, .bool, .str, .str, .bool, .slc, .slc] x5) fun x59 =>
  HM.req ((.agg #[.int .i64 x59.1, .bool x59.2.1, .bool x59.2.2.1, .int .i64 x59.2.2.2.1, .int .i64 x59.2.2.2.2.1, .string x59.2.2.2.2.2.1, .string x59.2.2.2.2.2.2.1, .int .i64 x59.2.2.2.2.2.2.2.1, .slice x59.2.2.2.2.2.2.2.2.1.a x59.2.2.2.2.2.2.2.2.1.len x59.2.2.2.2.2.2.2.2.1.cap, .slice x59.2.2.2.2.2.2.2.2.2.1.a x59.2.2.2.2.2.2.2.2.2.1.len x59.2.2.2.2.2.2.2.2.2.1.cap, .string x59.2.2.2.2.2.2.2.2.2.2.1, .bool x59.2.2.2.2.2.2.2.2.2.2.2.1, .int .i64 x59.2.2.2.2.2.2.2.2.2.2.2.2.1, .bool x59.2.2.2.2.2.2.2.2.2.2.2.2.2.1, .string x59.2.2.2.2.2.2.2.2.2.2.2.2.2.2.1, .string x59.2.2.2.2.2.2.2.2.2.2.2.2.2.2.2.1, .int .i64 x59.2.2.2.2.2.2.2.2.2.2.2.2.2.2.2.2.1, .bool x59.2.2.2.2.2.2.2.2.2.2.2.2.2.2.2.2.2.1, .slice x59.2.2.2.2.2.2.2.2.2.2.2.2.2.2.2.2.2.2.1.a x59.2.2.2.2.2.2.2.2.2.2.2.2.2.2.2.2.2.2.1.len x59.2.2.2.2.2.2.2.2.2.2.2.2.2.2.2.2.2.2.1.cap, .bool x59.2.2.2.2.2.2.2.2.2.2.2.2.2.2.2.2.2.2.2.1, .bool x59.2.2.2.2.2.2.2.2.2.2.2.2.2.2.2.2.2.2.2.2.1, .string x59.2.2.2.2.2.2.2.2.2.2.2.2.2.2.2.2.2.2.2.2.2.1, .string x59.2.2.2.2.2.2.2.2.2.2.2.2.2.2.2.2.2.2.2.2.2.2.1, .bool x59.2.2.2.2.2.2.2.2.2.2.2.2.2.2.2.2.2.2.2.2.2.2.2.1, .slice x59.2.2.2.2.2.2.2.2.2.2.2.2.2.2.2.2.2.2.2.2.2.2.2.2.1.a x59.2.2.2.2.2.2.2.2.2.2.2.2.2.2.2.2.2.2.2.2.2.2.2.2.1.len x59.2.2.2.2.2.2.2.2.2.2.2.2.2.2.2.2.2.2.2.2.2.2.2.2.1.cap, .slice x59.2.2.2.2.2.2.2.2.2.2.2.2.2.2.2.2.2.2.2.2.2.2.2.2.2.1.a x59.2.2.2.2.2.2.2.2.2.2.2.2.2.2.2.2.2.2.2.2.2.2.2.2.2.1.len x59.2.2.2.2.2.2.2.2.2.2.2.2.2.2.2.2.2.2.2.2.2.2.2.2.2.1.cap] : Value) = .agg #[.int .i64 x6.1, .bool x6.2.1, .bool x6.2.2.1, .int .i64 x6.2.2.2.1, .int .i64 x6.2.2.2.2.1, .string x6.2.2.2.2.2.1, .string x6.2.2.2.2.2.2.1, .int .i64 x6.2.2.2.2.2.2.2.1, .slice x6.2.2.2.2.2.2.2.2.1.a x6.2.2.2.2.2.2.2.2.1.len x6.2.2.2.2.2.2.2.2.1.cap, .slice x6.2.2.2.2.2.2.2.2.2.1.a x6.2.2.2.2.2.2.2.2.2.1.len x6.2.2.2.2.2.2.2.2.2.1.cap, .string x6.2.2.2.2.2.2.2.2.2.2.1, .bool x6.2.2.2.2.2.2.2.2.2.2.2.1, .int .i64 x6.2.2.2.2.2.2.2.2.2.2.2.2.1, .bool x6.2.2.2.2.2.2.2.2.2.2.2.2.2.1, .string x6.2.2.2.2.2.2.2.2.2.2.2.2.2.2.1, .string x6.2.2.2.2.2.2.2.2.2.2.2.2.2.2.2.1, .int .i64 x6.2.2.2.2.2.2.2.2.2.2.2.2.2.2.2.2.1, .bool x6.2.2.2.2.2.2.2.2.2.2.2.2.2.2.2.2.2.1, .slice x6.2.2.2.2.2.2.2.2.2.2.2.2.2.2.2.2.2.2.1.a x6.2.2.2.2.2.2.2.2.2.2.2.2.2.2.2.2.2.2.1.len x6.2.2.2.2.2.2.2.2.2.2.2.2.2.2.2.2.2.2.1.cap, .bool x6.2.2.2.2.2.2.2.2.2.2.2.2.2.2.2.2.2.2.2.1, .bool x6.2.2.2.2.2.2.2.2.2.2.2.2.2.2.2.2.2.2.2.2.1, .string x6.2.2.2.2.2.2.2.2.2.2.2.2.2.2.2.2.2.2.2.2.2.1, .string x6.2.2.2.2.2.2.2.2.2.2.2.2.2.2.2.2.2.2.2.2.2.2.1, .bool x6.2.2.2.2.2.2.2.2.2.2.2.2.2.2.2.2.2.2.2.2.2.2.2.1, .slice x6.2.2.2.2.2.2.2.2.2.2.2.2.2.2.2.2.2.2.2.2.2.2.2.2.1.a x6.2.2.2.2.2.2.2.2.2.2.2.2.2.2.2.2.2.2.2.2.2.2.2.2.1.len x6.2.2.2.2.2.2.2.2.2.2.2.2.2.2.2.2.2.2.2.2.2.2.2.2.1.cap, .slice x6.2.2.2.2.2.2.2.2.2.2.2.2.2.2.2.2.2.2.2.2.2.2.2.2.2.1.a x6.2.2.2.2.2.2.2.2.2.2.2.2.2.2.2.2.2.2.2.2.2.2.2.2.2.1.len x6.2.2.2.2.2.2.2.2.2.2.2.2.2.2.2.2.2.2.2.2.2.2.2.2.2.1.cap]) <|
  HM.bind (α := Int × Bool × Bool × Int × Int × ByteArray × ByteArray × Int × Slc × Slc × ByteArray × Bool × Int × Bool × ByteArray × ByteArray × Int × Bool × Slc × Bool × Bool × ByteArray × ByteArray × Bool × Slc × Slc × Unit) (HM.loadN [.int .i64, .bool, .bool, .int .i64, .int .i64, .str, .str, .int .u8, .slc, .slc, .str, .bool, .int .i64, .bool, .str, .str, .int .i64, .bool, .slc, .bool, .bool, .str, .str, .bool, .slc, .slc] x3) fun x60 =>
  HM.req ((.agg #[.int .i64 x60.1, .bool x60.2.1, .bool x60.2.2.1, .int .i64 x60.2.2.2.1, .int .i64 x60.2.2.2.2.1, .string x60.2.2.2.2.2.1, .string x60.2.2.2.2.2.2.1, .int .u8 x60.2.2.2.2.2.2.2.1, .slice x60.2.2.2.2.2.2.2.2.1.a x60.2.2.2.2.2.2.2.2.1.len x60.2.2.2.2.2.2.2.2.1.cap, .slice x60.2.2.2.2.2.2.2.2.2.1.a x60.2.2.2.2.2.2.2.2.2.1.len x60.2.2.2.2.2.2.2.2.2.1.cap, .string x60.2.2.2.2.2.2.2.2.2.2.1, .bool x60.2.2.2.2.2.2.2.2.2.2.2.1, .int .i64 x60.2.2.2.2.2.2.2.2.2.2.2.2.1, .bool x60.2.2.2.2.2.2.2.2.2.2.2.2.2.1, .string x60.2.2.2.2.2.2.2.2.2.2.2.2.2.2.1, .string x60.2.2.2.2.2.2.2.2.2.2.2.2.2.2.2.1, .int .i64 x60.2.2.2.2.2.2.2.2.2.2.2.2.2.2.2.2.1, .bool x60.2.2.2.2.2.2.2.2.2.2.2.2.2.2.2.2.2.1, .slice x60.2.2.2.2.2.2.2.2.2.2.2.2.2.2.2.2.2.2.1.a x60.2.2.2.2.2.2.2.2.2.2.2.2.2.2.2.2.2.2.1.len x60.2.2.2.2.2.2.2.2.2.2.2.2.2.2.2.2.2.2.1.cap, .bool x60.2.2.2.2.2.2.2.2.2.2.2.2.2.2.2.2.2.2.2.1, .bool x60.2.2.2.2.2.2.2.2.2.2.2.2.2.2.2.2.2.2.2.2.1, .string x60.2.2.2.2.2.2.2.2.2.2.2.2.2.2.2.2.2.2.2.2.2.1, .string x60.2.2.2.2.2.2.2.2.2.2.2.2.2.2.2.2.2.2.2.2.2.2.1, .bool x60.2.2.2.2.2.2.2.2.2.2.2.2.2.2.2.2.2.2.2.2.2.2.2.1, .slice x60.2.2.2.2.2.2.2.2.2.2.2.2.2.2.2.2.2.2.2.2.2.2.2.2.1.a x60.2.2.2.2.2.2.2.2.2.2.2.2.2.2.2.2.2.2.2.2.2.2.2.2.1.len x60.2.2.2.2.2.2.2.2.2.2.2.2.2.2.2.2.2.2.2.2.2.2.2.2.1.cap, .slice x60.2.2.2.2.2.2.2.2.2.2.2.2.2.2.2.2.2.2.2.2.2.2.2.2.2.1.a x60.2.2.2.2.2.2.2.2.2.2.2.2.2.2.2.2.2.2.2.2.2.2.2.2.2.1.len x60.2.2.2.2.2.2.2.2.2.2.2.2.2.2.2.2.2.2.2.2.2.2.2.2.2.1.cap] : Value) = .agg #[.int .i64 x4.1, .bool x4.2.1, .bool x4.2.2.1, .int .i64 x4.2.2.2.1, .int .i64 x4.2.2.2.2.1, .string x4.2.2.2.2.2.1, .string x4.2.2.2.2.2.2.1, .int .u8 x4.2.2.2.2.2.2.2.1, .slice x4.2.2.2.2.2.2.2.2.1.a x4.2.2.2.2.2.2.2.2.1.len x4.2.2.2.2.2.2.2.2.1.cap, .slice x4.2.2.2.2.2.2.2.2.2.1.a x4.2.2.2.2.2.2.2.2.2.1.len x4.2.2.2.2.2.2.2.2.2.1.cap, .string x4.2.2.2.2.2.2.2.2.2.2.1, .bool x4.2.2.2.2.2.2.2.2.2.2.2.1, .int .i64 x4.2.2.2.2.2.2.2.2.2.2.2.2.1, .bool x4.2.2.2.2.2.2.2.2.2.2.2.2.2.1, .string x4.2.2.2.2.2.2.2.2.2.2.2.2.2.2.1, .string x4.2.2.2.2.2.2.2.2.2.2.2.2.2.2.2.1, .int .i64 x4.2.2.2.2.2.2.2.2.2.2.2.2.2.2.2.2.1, .bool x4.2.2.2.2.2.2.2.2.2.2.2.2.2.2.2.2.2.1, .slice x4.2.2.2.2.2.2.2.2.2.2.2.2.2.2.2.2.2.2.1.a x4.2.2.2.2.2.2.2.2.2.2.2.2.2.2.2.2.2.2.1.len x4.2.2.2.2.2.2.2.2.2.2.2.2.2.2.2.2.2.2.1.cap, .bool x4.2.2.2.2.2.2.2.2.2.2.2.2.2.2.2.2.2.2.2.1, .bool x4.2.2.2.2.2.2.2.2.2.2.2.2.2.2.2.2.2.2.2.2.1, .string x4.2.2.2.2.2.2.2.2.2.2.2.2.2.2.2.2.2.2.2.2.2.1, .string x4.2.2.2.2.2.2.2.2.2.2.2.2.2.2.2.2.2.2.2.2.2.2.1, .bool x4.2.2.2.2.2.2.2.2.2.2.2.2.2.2.2.2.2.2.2.2.2.2.2.1, .slice x4.2.2.2.2.2.2.2.2.2.2.2.2.2.2.2.2.2.2.2.2.2.2.2.2.1.a x4.2.2.2.2.2.2.2.2.2.2.2.2.2.2.2.2.2.2.2.2.2.2.2.2.1.len x4.2.2.2.2.2.2.2.2.2.2.2.2.2.2.2.2.2.2.2.2.2.2.2.2.1.cap, .slice x4.2.2.2.2.2.2.2.2.2.2.2.2.2.2.2.2.2.2.2.2.2.2.2.2.2.1.a x4.2.2.2.2.2.2.2.2.2.2.2.2.2.2.2.2.2.2.2.2.2.2.2.2.2.1.len x4.2.2.2.2.2.2.2.2.2.2.2.2.2.2.2.2.2.2.2.2.2.2.2.2.2.1.cap]) <|
  HM.bind (α := Unit) (HM.storeN ⟨x58, 0, none⟩ [.int .i64 x4.1, .bool x4.2.1, .bool x4.2.2.1, .int .i64 x4.2.2.2.1, .int .i64 x4.2.2.2.2.1, .string x4.2.2.2.2.2.1, .string x4.2.2.2.2.2.2.1, .int .u8 x4.2.2.2.2.2.2.2.1, .slice x4.2.2.2.2.2.2.2.2.1.a x4.2.2.2.2.2.2.2.2.1.len x4.2.2.2.2.2.2.2.2.1.cap, .slice x4.2.2.2.2.2.2.2.2.2.1.a x4.2.2.2.2.2.2.2.2.2.1.len x4.2.2.2.2.2.2.2.2.2.1.cap, .string x4.2.2.2.2.2.2.2.2.2.2.1, .bool x4.2.2.2.2.2.2.2.2.2.2.2.1, .int .i64 x4.2.2.2.2.2.2.2.2.2.2.2.2.1, .bool x4.2.2.2.2.2.2.2.2.2.2.2.2.2.1, .string x4.2.2.2.2.2.2.2.2.2.2.2.2.2.2.1, .string x4.2.2.2.2.2.2.2.2.2.2.2.2.2.2.2.1, .int .i64 x4.2.2.2.2.2.2.2.2.2.2.2.2.2.2.2.2.1, .bool x4.2.2.2.2.2.2.2.2.2.2.2.2.2.2.2.2.2.1, .slice x4.2.2.2.2.2.2.2.2.2.2.2.2.2.2.2.2.2.2.1.a x4.2.2.2.2.2.2.2.2.2.2.2.2.2.2.2.2.2.2.1.len x4.2.2.2.2.2.2.2.2.2.2.2.2.2.2.2.2.2.2.1.cap, .bool x4.2.2.2.2.2.2.2.2.2.2.2.2.2.2.2.2.2.2.2.1, .bool x4.2.2.2.2.2.2.2.2.2.2.2.2.2.2.2.2.2.2.2.2.1, .string x4.2.2.2.2.2.2.2.2.2.2.2.2.2.2.2.2.2.2.2.2.2.1, .string x4.2.2.2.2.2.2.2.2.2.2.2.2.2.2.2.2.2.2.2.2.2.2.1, .bool x4.2.2.2.2.2.2.2.2.2.2.2.2.2.2.2.2.2.2.2.2.2.2.2.1, .slice x4.2.2.2.2.2.2.2.2.2.2.2.2.2.2.2.2.2.2.2.2.2.2.2.2.1.a x4.2.2.2.2.2.2.2.2.2.2.2.2.2.2.2.2.2.2.2.2.2.2.2.2.1.len x4.2.2.2.2.2.2.2.2.2.2.2.2.2.2.2.2.2.2.2.2.2.2.2.2.1.cap, .slice x4.2.2.2.2.2.2.2.2.2.2.2.2.2.2.2.2.2.2.2.2.2.2.2.2.2.1.a x4.2.2.2.2.2.2.2.2.2.2.2.2.2.2.2.2.2.2.2.2.2.2.2.2.2.1.len x4.2.2.2.2.2.2.2.2.2.2.2.2.2.2.2.2.2.2.2.2.2.2.2.2.2.1.cap]) fun _ =>
  HM.bind (α := Int × Bool × Bool × Int × Int × ByteArray × ByteArray × Int × Slc × Slc × ByteArray × Bool × Int × Bool × ByteArray × ByteArray × Int × Bool × Slc × Bool × Bool × ByteArray × ByteArray × Bool × Slc × Slc × Unit) (HM.loadN [.int .i64, .bool, .bool, .int .i64, .int .i64, .str, .str, .int .i64, .slc, .slc, .str, .bool, .int .i64, .bool, .str, .str, .int .i64, .bool, .slc, .bool, .bool, .str, .str, .bool, .slc, .slc] x5) fun x61 =>
  HM.req ((.agg #[.int .i64 x61.1, .bool x61.2.1, .bool x61.2.2.1, .int .i64 x61.2.2.2.1, .int .i64 x61.2.2.2.2.1, .string x61.2.2.2.2.2.1, .string x61.2.2.2.2.2.2.1, .int .i64 x61.2.2.2.2.2.2.2.1, .slice x61.2.2.2.2.2.2.2.2.1.a x61.2.2.2.2.2.2.2.2.1.len x61.2.2.2.2.2.2.2.2.1.cap, .slice x61.2.2.2.2.2.2.2.2.2.1.a x61.2.2.2.2.2.2.2.2.2.1.len x61.2.2.2.2.2.2.2.2.2.1.cap, .string x61.2.2.2.2.2.2.2.2.2.2.1, .bool x61.2.2.2.2.2.2.2.2.2.2.2.1, .int .i64 x61.2.2.2.2.2.2.2.2.2.2.2.2.1, .bool x61.2.2.2.2.2.2.2.2.2.2.2.2.2.1, .string x61.2.2.2.2.2.2.2.2.2.2.2.2.2.2.1, .string x61.2.2.2.2.2.2.2.2.2.2.2.2.2.2.2.1, .int .i64 x61.2.2.2.2.2.2.2.2.2.2.2.2.2.2.2.2.1, .bool x61.2.2.2.2.2.2.2.2.2.2.2.2.2.2.2.2.2.1, .slice x61.2.2.2.2.2.2.2.2.2.2.2.2.2.2.2.2.2.2.1.a x61.2.2.2.2.2.2.2.2.2.2.2.2.2.2.2.2.2.2.1.len x61.2.2.2.2.2.2.2.2.2.2.2.2.2.2.2.2.2.2.1.cap, .bool x61.2.2.2.2.2.2.2.2.2.2.2.2.2.2.2.2.2.2.2.1, .bool x61.2.2.2.2.2.2.2.2.2.2.2.2.2.2.2.2.2.2.2.2.1, .string x61.2.2.2.2.2.2.2.2.2.2.2.2.2.2.2.2.2.2.2.2.2.1, .string x61.2.2.2.2.2.2.2.2.2.2.2.2.2.2.2.2.2.2.2.2.2.2.1, .bool x61.2.2.2.2.2.2.2.2.2.2.2.2.2.2.2.2.2.2.2.2.2.2.2.1, .slice x61.2.2.2.2.2.2.2.2.2.2.2.2.2.2.2.2.2.2.2.2.2.2.2.2.1.a x61.2.2.2.2.2.2.2.2.2.2.2.2.2.2.2.2.2.2.2.2.2.2.2.2.1.len x61.2.2.2.2.2.2.2.2.2.2.2.2.2.2.2.2.2.2.2.2.2.2.2.2.1.cap, .slice x61.2.2.2.2.2.2.2.2.2.2.2.2.2.2.2.2.2.2.2.2.2.2.2.2.2.1.a x61.2.2.2.2.2.2.2.2.2.2.2.2.2.2.2.2.2.2.2.2.2.2.2.2.2.1.len x61.2.2.2.2.2.2.2.2.2.2.2.2.2.2.2.2.2.2.2.2.2.2.2.2.2.1.cap] : Value) = .agg #[.int .i64 x6.1, .bool x6.2.1, .bool x6.2.2.1, .int .i64 x6.2.2.2.1, .int .i64 x6.2.2.2.2.1, .string x6.2.2.2.2.2.1, .string x6.2.2.2.2.2.2.1, .int .i64 x6.2.2.2.2.2.2.2.1, .slice x6.2.2.2.2.2.2.2.2.1.a x6.2.2.2.2.2.2.2.2.1.len x6.2.2.2.2.2.2.2.2.1.cap, .slice x6.2.2.2.2.2.2.2.2.2.1.a x6.2.2.2.2.2.2.2.2.2.1.len x6.2.2.2.2.2.2.2.2.2.1.cap, .string x6.2.2.2.2.2.2.2.2.2.2.1, .bool x6.2.2.2.2.2.2.2.2.2.2.2.1, .int .i64 x6.2.2.2.2.2.2.2.2.2.2.2.2.1, .bool x6.2.2.2.2.2.2.2.2.2.2.2.2.2.1, .string x6.2.2.2.2.2.2.2.2.2.2.2.2.2.2.1, .string x6.2.2.2.2.2.2.2.2.2.2.2.2.2.2.2.1, .int .i64 x6.2.2.2.2.2.2.2.2.2.2.2.2.2.2.2.2.1, .bool x6.2.2.2.2.2.2.2.2.2.2.2.2.2.2.2.2.2.1, .slice x6.2.2.2.2.2.2.2.2.2.2.2.2.2.2.2.2.2.2.1.a x6.2.2.2.2.2.2.2.2.2.2.2.2.2.2.2.2.2.2.1.len x6.2.2.2.2.2.2.2.2.2.2.2.2.2.2.2.2.2.2.1.cap, .bool x6.2.2.2.2.2.2.2.2.2.2.2.2.2.2.2.2.2.2.2.1, .bool x6.2.2.2.2.2.2.2.2.2.2.2.2.2.2.2.2.2.2.2.2.1, .string x6.2.2.2.2.2.2.2.2.2.2.2.2.2.2.2.2.2.2.2.2.2.1, .string x6.2.2.2.2.2.2.2.2.2.2.2.2.2.2.2.2.2.2.2.2.2.2.1, .bool x6.2.2.2.2.2.2.2.2.2.2.2.2.2.2.2.2.2.2.2.2.2.2.2.1, .slice x6.2.2.2.2.2.2.2.2.2.2.2.2.2.2.2.2.2.2.2.2.2.2.2.2.1.a x6.2.2.2.2.2.2.2.2.2.2.2.2.2.2.2.2.2.2.2.2.2.2.2.2.1.len x6.2.2.2.2.2.2.2.2.2.2.2.2.2.2.2.2.2.2.2.2.2.2.2.2.1.cap, .slice x6.2.2.2.2.2.2.2.2.2.2.2.2.2.2.2.2.2.2.2.2.2.2.2.2.2.1.a x6.2.2.2.2.2.2.2.2.2.2.2.2.2.2.2.2.2.2.2.2.2.2.2.2.2.1.len x6.2.2.2.2.2.2.2.2.2.2.2.2.2.2.2.2.2.2.2.2.2.2.2.2.2.1.cap]) <|
  HM.bind (α := Unit) (HM.storeN ⟨x55, 0, none⟩ [.int .i64 x6.1, .bool x6.2.1, .bool x6.2.2.1, .int .i64 x6.2.2.2.1, .int .i64 x6.2.2.2.2.1, .string x6.2.2.2.2.2.1, .string x6.2.2.2.2.2.2.1, .int .i64 x6.2.2.2.2.2.2.2.1, .slice x6.2.2.2.2.2.2.2.2.1.a x6.2.2.2.2.2.2.2.2.1.len x6.2.2.2.2.2.2.2.2.1.cap, .slice x6.2.2.2.2.2.2.2.2.2.1.a x6.2.2.2.2.2.2.2.2.2.1.len x6.2.2.2.2.2.2.2.2.2.1.cap, .string x6.2.2.2.2.2.2.2.2.2.2.1, .bool x6.2.2.2.2.2.2.2.2.2.2.2.1, .int .i64 x6.2.2.2.2.2.2.2.2.2.2.2.2.1, .bool x6.2.2.2.2.2.2.2.2.2.2.2.2.2.1, .string x6.2.2.2.2.2.2.2.2.2.2.2.2.2.2.1, .string x6.2.2.2.2.2.2.2.2.2.2.2.2.2.2.2.1, .int .i64 x6.2.2.2.2.2.2.2.2.2.2.2.2.2.2.2.2.1, .bool x6.2.2.2.2.2.2.2.2.2.2.2.2.2.2.2.2.2.1, .slice x6.2.2.2.2.2.2.2.2.2.2.2.2.2.2.2.2.2.2.1.a x6.2.2.2.2.2.2.2.2.2.2.2.2.2.2.2.2.2.2.1.len x6.2.2.2.2.2.2.2.2.2.2.2.2.2.2.2.2.2.2.1.cap, .bool x6.2.2.2.2.2.2.2.2.2.2.2.2.2.2.2.2.2.2.2.1, .bool x6.2.2.2.2.2.2.2.2.2.2.2.2.2.2.2.2.2.2.2.2.1, .string x6.2.2.2.2.2.2.2.2.2.2.2.2.2.2.2.2.2.2.2.2.2.1, .string x6.2.2.2.2.2.2.2.2.2.2.2.2.2.2.2.2.2.2.2.2.2.2.1, .bool x6.2.2.2.2.2.2.2.2.2.2.2.2.2.2.2.2.2.2.2.2.2.2.2.1, .slice x6.2.2.2.2.2.2.2.2.2.2.2.2.2.2.2.2.2.2.2.2.2.2.2.2.1.a x6.2.2.2.2.2.2.2.2.2.2.2.2.2.2.2.2.2.2.2.2.2.2.2.2.1.len x6.2.2.2.2.2.2.2.2.2.2.2.2.2.2.2.2.2.2.2.2.2.2.2.2.1.cap, .slice x6.2.2.2.2.2.2.2.2.2.2.2.2.2.2.2.2.2.2.2.2.2.2.2.2.2.1.a x6.2.2.2.2.2.2.2.2.2.2.2.2.2.2.2.2.2.2.2.2.2.2.2.2.2.1.len x6.2.2.2.2.2.2.2.2.2.2.2.2.2.2.2.2.2.2.2.2.2.2.2.2.2.1.cap]) fun _ =>
  HM.bind (α := Bool × Unit) (HM.bind (α := Int) (HM.load1 (.int .i64) (Addr.add ⟨x58, 0, none⟩ 0)) fun x62 =>
  HM.bind (α := Int) (HM.load1 (.int .i64) (Addr.add ⟨x55, 0, none⟩ 0)) fun x63 =>
  HM.ite (!(x62 == x63)) (
  HM.pure (true, ())) (
  HM.bind (α := Bool) (HM.load1 .bool (Addr.add ⟨x58, 0, none⟩ 1)) fun x64 =>
  HM.bind (α := Bool) (HM.load1 .bool (Addr.add ⟨x55, 0, none⟩ 1)) fun x65 =>
  HM.ite (!(x64 == x65)) (
  HM.pure (true, ())) (
  HM.bind (α := Bool) (HM.load1 .bool (Addr.add ⟨x58, 0, none⟩ 2)) fun x66 =>
  HM.bind (α := Bool) (HM.load1 .bool (Addr.add ⟨x55, 0, none⟩ 2)) fun x67 =>
  HM.ite (!(x66 == x67)) (
  HM.pure (true, ())) (
  HM.bind (α := Int) (HM.load1 (.int .i64) (Addr.add ⟨x58, 0, none⟩ 3)) fun x68 =>
  HM.bind (α := Int) (HM.load1 (.int .i64) (Addr.add ⟨x55, 0, none⟩ 3)) fun x69 =>
  HM.ite (!(x68 == x69)) (
  HM.pure (true, ())) (
  HM.bind (α := Int) (HM.load1 (.int .i64) (Addr.add ⟨x58, 0, none⟩ 4)) fun x70 =>
  HM.bind (α := Int) (HM.load1 (.int .i64) (Addr.add ⟨x55, 0, none⟩ 4)) fun x71 =>
  HM.ite (!(x70 == x71)) (
  HM.pure (true, ())) (
  HM.bind (α := ByteArray) (HM.load1 .str (Addr.add ⟨x58, 0, none⟩ 5)) fun x72 =>
  HM.bind (α := ByteArray) (HM.load1 .str (Addr.add ⟨x55, 0, none⟩ 5)) fun x73 =>
  HM.ite (!(decide (x72 = x73))) (
  HM.pure (true, ())) (
  HM.bind (α := ByteArray) (HM.load1 .str (Addr.add ⟨x58, 0, none⟩ 6)) fun x74 =>
  HM.bind (α := ByteArray) (HM.load1 .str (Addr.add ⟨x55, 0, none⟩ 6)) fun x75 =>
  HM.ite (!(decide (x74 = x75))) (
  HM.pure (true, ())) (
  HM.bind (α := Int) (HM.load1 (.int .u8) (Addr.add ⟨x58, 0, none⟩ 7)) fun x76 =>
  HM.bind (α := Int) (HM.load1 (.int .i64) (Addr.add ⟨x55, 0, none⟩ 7)) fun x77 =>
  HM.ite (!((IntKind.wrap .i64 x76) == x77)) (
  HM.pure (true, ())) (
  HM.bind (α := Slc) (HM.load1 .slc (Addr.add ⟨x58, 0, none⟩ 9)) fun x78 =>
  HM.bind (α := Slc) (HM.load1 .slc (Addr.add ⟨x55, 0, none⟩ 9)) fun x79 =>
  HM.ite (!(((x78.len : Nat) : Int) == ((x79.len : Nat) : Int))) (
  HM.pure (true, ())) (
  HM.bind (α := Slc) (HM.load1 .slc (Addr.add ⟨x58, 0, none⟩ 8)) fun x80 =>
  HM.bind (α := Slc) (HM.load1 .slc (Addr.add ⟨x55, 0, none⟩ 8)) fun x81 =>
  HM.ite (!(((x80.len : Nat) : Int) == ((x81.len : Nat) : Int))) (
  HM.pure (true, ())) (
  HM.bind (α := Bool) (HM.load1 .bool (Addr.add ⟨x58, 0, none⟩ 23)) fun x82 =>
  HM.bind (α := Bool) (HM.load1 .bool (Addr.add ⟨x55, 0, none⟩ 23)) fun x83 =>
  HM.pure (!(x82 == x83), ())))))))))))) fun x84 =>
  HM.ite x84.1 (
  HM.pure (.inr (.inr (false, ())))) (
  HM.bind (α := Slc) (HM.load1 .slc (Addr.add ⟨x58, 0, none⟩ 9)) fun x85 =>
  HM.bind (α := (Int × Unit) ⊕ ((Int × Unit) ⊕ ((Int × Unit) ⊕ (Bool × Unit)))) (HM.loop (σ := Int × Unit) (τ := (Int × Unit) ⊕ ((Int × Unit) ⊕ ((Int × Unit) ⊕ (Bool × Unit)))) (fun x87 =>
  HM.ite (decide (x87.1 < (((x85.len : Nat) : Int) : Int))) (
  HM.bind (α := Slc) (HM.load1 .slc (Addr.add ⟨x58, 0, none⟩ 9)) fun x88 =>
  HM.bind (α := Addr) (HM.idx x88.a x88.len x87.1 4) fun x89 =>
  HM.bind (α := Int × Int × ByteArray × ByteArray × Unit) (HM.loadN [.int .i64, .int .i64, .str, .str] x89) fun x90 =>
  HM.bind (α := Slc) (HM.load1 .slc (Addr.add ⟨x55, 0, none⟩ 9)) fun x91 =>
  HM.bind (α := Addr) (HM.idx x91.a x91.len x87.1 4) fun x92 =>
  HM.bind (α := Int × Int × ByteArray × ByteArray × Unit) (HM.loadN [.int .i64, .int .i64, .str, .str] x92) fun x93 =>
  HM.ite (!((x90.1 == x93.1) && ((x90.2.1 == x93.2.1) && ((decide (x90.2.2.1 = x93.2.2.1)) && ((decide (x90.2.2.2.1 = x93.2.2.2.1)) && true))))) (
  HM.pure (.inr (.inr (.inr (.inr (false, ())))))) (
  HM.pure (.inl (IntKind.wrap .i64 (x87.1 + 1), ())))) (
  HM.pure (.inr (.inl (x87.1, ()))))) (0, ())) (Sum.elim (fun x86 =>
  HM.bind (α := Slc) (HM.load1 .slc (Addr.add ⟨x58, 0, none⟩ 8)) fun x94 =>
  HM.bind (α := (Int × Unit) ⊕ ((Int × Unit) ⊕ ((Int × Unit) ⊕ (Bool × Unit)))) (HM.loop (σ := Int × Unit) (τ := (Int × Unit) ⊕ ((Int × Unit) ⊕ ((Int × Unit) ⊕ (Bool × Unit)))) (fun x96 =>
  HM.ite (decide (x96.1 < (((x94.len : Nat) : Int) : Int))) (
  HM.bind (α := Slc) (HM.load1 .slc (Addr.add ⟨x58, 0, none⟩ 8)) fun x97 =>
  HM.bind (α := Addr) (HM.idx x97.a x97.len x96.1 1) fun x98 =>
  HM.bind (α := Int) (HM.load1 (.int .u8) x98) fun x99 =>
  HM.bind (α := Slc) (HM.load1 .slc (Addr.add ⟨x55, 0, none⟩ 8)) fun x100 =>
  HM.bind (α := Addr) (HM.idx x100.a x100.len x96.1 1) fun x101 =>
  HM.bind (α := Int) (HM.load1 (.int .i64) x101) fun x102 =>
  HM.ite (!((IntKind.wrap .i64 x99) == x102)) (
  HM.pure (.inr (.inr (.inr (.inr (false, ())))))) (
  HM.pure (.inl (IntKind.wrap .i64 (x96.1 + 1), ())))) (
  HM.pure (.inr (.inl (x96.1, ()))))) (0, ())) (Sum.elim (fun x95 =>
  HM.pure (.inl (IntKind.wrap .i64 (x2.1 + 1), ()))) HM.pure)) HM.pure)))) (
  HM.pure (.inr (.inl (x2.1, ()))))) (0, ())) (Sum.elim (fun x1 =>
  HM.pure (true, ())) HM.pure))
theorem law23_samePackets_den (p0 : Slc) (p1 : Slc) : denFn Tryz.prog [] 146 [0, 1, 4, 5, 6, 7, 8, 9, 14, 16, 17, 18, 107, 110, 111, 112, 124, 128, 129, 130, 143] [0, 1, 5, 6, 7, 8, 9, 14, 16, 17, 18, 107, 110, 111, 112, 124, 128, 129, 130, 143] Tryz.f25.results.toList [.one .bool] (bodyOf Tryz.f25) [Kind.val (.one .slc) p0, Kind.val (.one .slc) p1] = law23_samePackets p0 p1 := by kernel_rfl
theorem law23_samePackets_calls (p0 : Slc) (p1 : Slc) (h : Heap) (Q : Value → Heap → Prop) (hh : law23_samePackets p0 p1 h fun x h' => Q (.bool x.1) h') :
    HCalls Tryz.prog 25 #[.slice p0.a p0.len p0.cap, .slice p1.a p1.len p1.cap] h Q :=
  calls_of_eq Tryz.func25 (by kernel_rfl) Tryz.ntmps25 (by kernel_rfl) CN orders (law23_samePackets_den p0 p1) hh
def bridge_Bridge_Left (p0 : Option Addr) : HM (Slc × Unit) :=
  HM.ite (Option.isNone p0) (
  HM.pure (⟨none, 0, 0⟩, ())) (
  HM.bind (α := Addr) (HM.nonnil p0) fun x1 =>
  HM.bind (α := Option Addr) (HM.load1 .ptr (Addr.add x1 1)) fun x2 =>
  HM.bind (α := Slc) (HM.call1 Tryz.prog (.one .slc) 54 #[.pointer x2]) fun x3 =>
  HM.bind (α := Slc × Int × Unit) (HM.loop (σ := Slc × Int × Unit) (τ := Slc × Int × Unit) (fun x5 =>
  HM.ite (decide (x5.2.1 < (((x3.len : Nat) : Int) : Int))) (
  HM.bind (α := Addr) (HM.idx x3.a x3.len x5.2.1 7) fun x6 =>
  HM.bind (α := Int × ByteArray × ByteArray × Int × Bool × ByteArray × Bool × Unit) (HM.loadN [.int .i64, .str, .str, .int .i64, .bool, .str, .bool] x6) fun x7 =>
  HM.bind (α := Nat) (HM.new (.cells #[.int .i64 0, .string (ByteArray.mk #[]), .string (ByteArray.mk #[]), .int .i64 0, .bool false, .string (ByteArray.mk #[]), .bool false] 158)) fun x8 =>
  HM.bind (α := Unit) (HM.storeN ⟨x8, 0, none⟩ [.int .i64 x7.1, .string x7.2.1, .string x7.2.2.1, .int .i64 x7.2.2.2.1, .bool x7.2.2.2.2.1, .string x7.2.2.2.2.2.1, .bool x7.2.2.2.2.2.2.1]) fun _ =>
  HM.bind (α := ByteArray × ByteArray × Int × Bool × ByteArray × Unit) (HM.loadN [.str, .str, .int .i64, .bool, .str] (Addr.add ⟨x8, 0, none⟩ 1)) fun x9 =>
  HM.bind (α := Nat) (HM.new (.cells #[.string x9.1, .string x9.2.1, .int .i64 x9.2.2.1, .bool x9.2.2.2.1, .string x9.2.2.2.2.1] 50)) fun x10 =>
  HM.bind (α := Slc) (HM.append 50 5 64 #[.string (ByteArray.mk #[]), .string (ByteArray.mk #[]), .int .i64 0, .bool false, .string (ByteArray.mk #[])] x5.1 1 (srcSlc 5 (⟨some ⟨x10, 0, none⟩, 1, 1⟩))) fun x11 =>
  HM.pure (.inl (x11, IntKind.wrap .i64 (x5.2.1 + 1), ()))) (
  HM.pure (.inr (x5.1, x5.2.1, ())))) (⟨none, 0, 0⟩, 0, ())) fun x4 =>
  HM.bind (α := Addr) (HM.nonnil p0) fun x12 =>
  HM.bind (α := Option Addr) (HM.load1 .ptr (Addr.add x12 1)) fun x13 =>
  HM.bind (α := Slc) (HM.call1 Tryz.prog (.one .slc) 55 #[.pointer x13]) fun x14 =>
  HM.bind (α := Slc) (HM.append 50 5 64 #[.string (ByteArray.mk #[]), .string (ByteArray.mk #[]), .int .i64 0, .bool false, .string (ByteArray.mk #[])] x4.1 x14.len (srcSlc 5 x14)) fun x15 =>
  HM.pure (x15, ()))
theorem bridge_Bridge_Left_den (p0 : Option Addr) : denFn Tryz.prog [54, 55] 31 [0, 2, 3, 5, 7, 12, 13, 14, 15] [0, 3, 5, 7, 12, 13, 14, 15] Tryz.f26.results.toList [.one .slc] (bodyOf Tryz.f26) [Kind.val (.one .ptr) p0] = bridge_Bridge_Left p0 := by kernel_rfl
theorem bridge_Bridge_Left_calls (p0 : Option Addr) (h : Heap) (Q : Value → Heap → Prop) (hh : bridge_Bridge_Left p0 h fun x h' => Q (.slice x.1.a x.1.len x.1.cap) h') :
    HCalls Tryz.prog 26 #[.pointer p0] h Q :=
  calls_of_eq Tryz.func26 (by kernel_rfl) Tryz.ntmps26 (by kernel_rfl) (CC Tryz.call54 (CC Tryz.call55 CN)) orders (bridge_Bridge_Left_den p0) hh
def ref23_Left (p0 : Option Addr) : HM (Slc × Unit) :=
  HM.bind (α := Slc × Int × Unit) (HM.loop (σ := Slc × Int × Unit) (τ := Slc × Int × Unit) (fun x2 =>
  HM.bind (α := Addr) (HM.nonnil p0) fun x3 =>
  HM.bind (α := Option Addr) (HM.load1 .ptr (Addr.add x3 1)) fun x4 =>
  HM.bind (α := Addr) (HM.nonnil x4) fun x5 =>
  HM.bind (α := Slc) (HM.load1 .slc (Addr.add x5 3)) fun x6 =>
  HM.ite (decide (x2.2.1 < (((x6.len : Nat) : Int) : Int))) (
  HM.bind (α := Addr) (HM.nonnil p0) fun x7 =>
  HM.bind (α := Option Addr) (HM.load1 .ptr (Addr.add x7 1)) fun x8 =>
  HM.bind (α := Addr) (HM.nonnil x8) fun x9 =>
  HM.bind (α := Slc) (HM.load1 .slc (Addr.add x9 3)) fun x10 =>
  HM.bind (α := Addr) (HM.idx x10.a x10.len x2.2.1 7) fun x11 =>
  HM.bind (α := ByteArray × ByteArray × Int × Bool × ByteArray × Unit) (HM.loadN [.str, .str, .int .i64, .bool, .str] (Addr.add x11 1)) fun x12 =>
  HM.bind (α := Nat) (HM.new (.cells #[.string x12.1, .string x12.2.1, .int .i64 x12.2.2.1, .bool x12.2.2.2.1, .string x12.2.2.2.2.1] 56)) fun x13 =>
  HM.bind (α := Slc) (HM.append 56 5 64 #[.string (ByteArray.mk #[]), .string (ByteArray.mk #[]), .int .i64 0, .bool false, .string (ByteArray.mk #[])] x2.1 1 (srcSlc 5 (⟨some ⟨x13, 0, none⟩, 1, 1⟩))) fun x14 =>
  HM.pure (.inl (x14, IntKind.wrap .i64 (x2.2.1 + 1), ()))) (
  HM.pure (.inr (x2.1, x2.2.1, ())))) (⟨none, 0, 0⟩, 0, ())) fun x1 =>
  HM.bind (α := Slc × Int × Unit) (HM.loop (σ := Slc × Int × Unit) (τ := Slc × Int × Unit) (fun x16 =>
  HM.bind (α := Addr) (HM.nonnil p0) fun x17 =>
  HM.bind (α := Option Addr) (HM.load1 .ptr (Addr.add x17 1)) fun x18 =>
  HM.bind (α := Addr) (HM.nonnil x18) fun x19 =>
  HM.bind (α := Slc) (HM.load1 .slc (Addr.add x19 4)) fun x20 =>
  HM.ite (decide (x16.2.1 < (((x20.len : Nat) : Int) : Int))) (
  HM.bind (α := Addr) (HM.nonnil p0) fun x21 =>
  HM.bind (α := Option Addr) (HM.load1 .ptr (Addr.add x21 1)) fun x22 =>
  HM.bind (α := Addr) (HM.nonnil x22) fun x23 =>
  HM.bind (α := Slc) (HM.load1 .slc (Addr.add x23 4)) fun x24 =>
  HM.bind (α := Addr) (HM.idx x24.a x24.len x16.2.1 5) fun x25 =>
  HM.bind (α := ByteArray × ByteArray × Int × Bool × ByteArray × Unit) (HM.loadN [.str, .str, .int .i64, .bool, .str] x25) fun x26 =>
  HM.bind (α := Nat) (HM.new (.cells #[.string x26.1, .string x26.2.1, .int .i64 x26.2.2.1, .bool x26.2.2.2.1, .string x26.2.2.2.2.1] 56)) fun x27 =>
  HM.bind (α := Slc) (HM.append 56 5 64 #[.string (ByteArray.mk #[]), .string (ByteArray.mk #[]), .int .i64 0, .bool false, .string (ByteArray.mk #[])] x16.1 1 (srcSlc 5 (⟨some ⟨x27, 0, none⟩, 1, 1⟩))) fun x28 =>
  HM.pure (.inl (x28, IntKind.wrap .i64 (x16.2.1 + 1), ()))) (
  HM.pure (.inr (x16.1, x16.2.1, ())))) (x1.1, 0, ())) fun x15 =>
  HM.pure (x15.1, ())
theorem ref23_Left_den (p0 : Option Addr) : denFn Tryz.prog [] 58 [0, 2, 3, 4, 5, 15, 41] [0, 3, 4, 5, 15, 41] Tryz.f27.results.toList [.one .slc] (bodyOf Tryz.f27) [Kind.val (.one .ptr) p0] = ref23_Left p0 := by kernel_rfl
theorem ref23_Left_calls (p0 : Option Addr) (h : Heap) (Q : Value → Heap → Prop) (hh : ref23_Left p0 h fun x h' => Q (.slice x.1.a x.1.len x.1.cap) h') :
    HCalls Tryz.prog 27 #[.pointer p0] h Q :=
  calls_of_eq Tryz.func27 (by kernel_rfl) Tryz.ntmps27 (by kernel_rfl) CN orders (ref23_Left_den p0) hh
def remap_Route (p0 : Slc) (p1 : ByteArray) (p2 : Int) : HM (Slc × Unit) :=
  HM.bind (α := Slc × Int × Unit) (HM.loop (σ := Slc × Int × Unit) (τ := Slc × Int × Unit) (fun x2 =>
  HM.ite (decide (x2.2.1 < (((p0.len : Nat) : Int) : Int))) (
  HM.bind (α := Addr) (HM.idx p0.a p0.len x2.2.1 5) fun x3 =>
  HM.bind (α := ByteArray × Int × Int × ByteArray × ByteArray × Unit) (HM.loadN [.str, .int .i64, .int .i64, .str, .str] x3) fun x4 =>
  HM.bind (α := Nat) (HM.new (.cells #[.string (ByteArray.mk #[]), .int .i64 0, .int .i64 0, .string (ByteArray.mk #[]), .string (ByteArray.mk #[])] 123)) fun x5 =>
  HM.bind (α := Unit) (HM.storeN ⟨x5, 0, none⟩ [.string x4.1, .int .i64 x4.2.1, .int .i64 x4.2.2.1, .string x4.2.2.2.1, .string x4.2.2.2.2.1]) fun _ =>
  HM.bind (α := ByteArray × Int × Int × ByteArray × ByteArray × Unit) (HM.loadN [.str, .int .i64, .int .i64, .str, .str] ⟨x5, 0, none⟩) fun x6 =>
  HM.bind (α := ByteArray × Bool × Unit) (HM.callN Tryz.prog [.one .str, .one .bool] 56 #[.agg #[.string x6.1, .int .i64 x6.2.1, .int .i64 x6.2.2.1, .string x6.2.2.2.1, .string x6.2.2.2.2.1], .string p1]) fun x7 =>
  HM.bind (α := Slc × Unit) (HM.ite x7.2.1 (
  HM.bind (α := Int) (HM.load1 (.int .i64) (Addr.add ⟨x5, 0, none⟩ 2)) fun x9 =>
  HM.bind (α := Nat) (HM.new (.cells #[.int .i64 x2.2.1, .string x7.1, .int .i64 (if x9 < (p2 : Int) then x9 else p2)] 112)) fun x10 =>
  HM.bind (α := Slc) (HM.append 112 3 32 #[.int .i64 0, .string (ByteArray.mk #[]), .int .i64 0] x2.1 1 (srcSlc 3 (⟨some ⟨x10, 0, none⟩, 1, 1⟩))) fun x11 =>
  HM.pure (x11, ())) (
  HM.pure (x2.1, ()))) fun x8 =>
  HM.pure (.inl (x8.1, IntKind.wrap .i64 (x2.2.1 + 1), ()))) (
  HM.pure (.inr (x2.1, x2.2.1, ())))) (⟨none, 0, 0⟩, 0, ())) fun x1 =>
  HM.pure (x1.1, ())
theorem remap_Route_den (p0 : Slc) (p1 : ByteArray) (p2 : Int) : denFn Tryz.prog [56] 38 [0, 1, 2, 6, 7, 8, 9, 10, 11, 12, 13, 14, 15, 25] [0, 1, 2, 7, 8, 9, 10, 11, 12, 13, 14, 15, 25] Tryz.f28.results.toList [.one .slc] (bodyOf Tryz.f28) [Kind.val (.one .slc) p0, Kind.val (.one .str) p1, Kind.val (.one (.int .i64)) p2] = remap_Route p0 p1 p2 := by kernel_rfl
theorem remap_Route_calls (p0 : Slc) (p1 : ByteArray) (p2 : Int) (h : Heap) (Q : Value → Heap → Prop) (hh : remap_Route p0 p1 p2 h fun x h' => Q (.slice x.1.a x.1.len x.1.cap) h') :
    HCalls Tryz.prog 28 #[.slice p0.a p0.len p0.cap, .string p1, .int .i64 p2] h Q :=
  calls_of_eq Tryz.func28 (by kernel_rfl) Tryz.ntmps28 (by kernel_rfl) (CC Tryz.call56 CN) orders (remap_Route_den p0 p1 p2) hh
def tags_Label_Text (p0 : Int × Int × Int × Int × Unit) : HM (ByteArray × Unit) :=
  HM.bind (α := Nat) (HM.new (.cells #[.int .i64 p0.1, .int .i64 p0.2.1, .int .i64 p0.2.2.1, .int .i64 p0.2.2.2.1] 49)) fun x1 =>
  HM.bind (α := Int × Int × Int × Int × Unit) (HM.loadN [.int .i64, .int .i64, .int .i64, .int .i64] ⟨x1, 0, none⟩) fun x2 =>
  HM.bind (α := Bool) (HM.call1 Tryz.prog (.one .bool) 57 #[.agg #[.int .i64 x2.1, .int .i64 x2.2.1, .int .i64 x2.2.2.1, .int .i64 x2.2.2.2.1]]) fun x3 =>
  HM.ite (!x3) (
  HM.pure (ByteArray.mk #[], ())) (
  HM.bind (α := Int) (HM.load1 (.int .i64) (Addr.add (Addr.add ⟨x1, 0, none⟩ 0) 0)) fun x4 =>
  HM.bind (α := Int) (HM.load1 (.int .i64) (Addr.add (Addr.add ⟨x1, 0, none⟩ 0) 1)) fun x5 =>
  HM.bind (α := Int) (HM.load1 (.int .i64) (Addr.add ⟨x1, 0, none⟩ 2)) fun x6 =>
  HM.bind (α := Int) (HM.load1 (.int .i64) (Addr.add ⟨x1, 0, none⟩ 3)) fun x7 =>
  HM.bind (α := ByteArray) (HM.call1 Tryz.prog (.one .str) 59 #[.int .i64 x4]) fun x8 =>
  HM.bind (α := Int) (HM.load1 (.int .i64) (Addr.add ⟨x1, 0, none⟩ 3)) fun x9 =>
  HM.req ((.int .i64 x9 : Value) = .int .i64 x7) <|
  HM.bind (α := Int) (HM.load1 (.int .i64) (Addr.add ⟨x1, 0, none⟩ 2)) fun x10 =>
  HM.req ((.int .i64 x10 : Value) = .int .i64 x6) <|
  HM.bind (α := Int) (HM.load1 (.int .i64) (Addr.add (Addr.add ⟨x1, 0, none⟩ 0) 1)) fun x11 =>
  HM.req ((.int .i64 x11 : Value) = .int .i64 x5) <|
  HM.bind (α := ByteArray) (HM.call1 Tryz.prog (.one .str) 60 #[.int .i64 x5, .int .i64 10]) fun x12 =>
  HM.bind (α := Int) (HM.load1 (.int .i64) (Addr.add ⟨x1, 0, none⟩ 3)) fun x13 =>
  HM.req ((.int .i64 x13 : Value) = .int .i64 x7) <|
  HM.bind (α := Int) (HM.load1 (.int .i64) (Addr.add ⟨x1, 0, none⟩ 2)) fun x14 =>
  HM.req ((.int .i64 x14 : Value) = .int .i64 x6) <|
  HM.bind (α := ByteArray) (HM.call1 Tryz.prog (.one .str) 59 #[.int .i64 x6]) fun x15 =>
  HM.bind (α := Int) (HM.load1 (.int .i64) (Addr.add ⟨x1, 0, none⟩ 3)) fun x16 =>
  HM.req ((.int .i64 x16 : Value) = .int .i64 x7) <|
  HM.bind (α := ByteArray) (HM.call1 Tryz.prog (.one .str) 59 #[.int .i64 x7]) fun x17 =>
  HM.bind (α := Nat) (HM.new (.cells #[.string x8, .string x12, .string x15, .string x17] 9)) fun x18 =>
  HM.bind (α := ByteArray) (HM.call1 Tryz.prog (.one .str) 58 #[.slice (some ⟨x18, 0, none⟩) 4 4, .string (ByteArray.mk #[46])]) fun x19 =>
  HM.pure (x19, ()))
theorem tags_Label_Text_den (p0 : Int × Int × Int × Int × Unit) : denFn Tryz.prog [57, 59, 60, 58] 22 [0, 1, 2, 5] [0, 1, 5] Tryz.f29.results.toList [.one .str] (bodyOf Tryz.f29) [Kind.val (.agg [.int .i64, .int .i64, .int .i64, .int .i64]) p0] = tags_Label_Text p0 := by kernel_rfl
theorem tags_Label_Text_calls (p0 : Int × Int × Int × Int × Unit) (h : Heap) (Q : Value → Heap → Prop) (hh : tags_Label_Text p0 h fun x h' => Q (.string x.1) h') :
    HCalls Tryz.prog 29 #[.agg #[.int .i64 p0.1, .int .i64 p0.2.1, .int .i64 p0.2.2.1, .int .i64 p0.2.2.2.1]] h Q :=
  calls_of_eq Tryz.func29 (by kernel_rfl) Tryz.ntmps29 (by kernel_rfl) (CC Tryz.call57 (CC Tryz.call59 (CC Tryz.call60 (CC Tryz.call58 CN)))) orders (tags_Label_Text_den p0) hh
end Go.Proofs.YtfhalebbcbgbdaaGreatDoor
