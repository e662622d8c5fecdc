/-
  The shallow forms of functions of the program, written by gen.py; each is held against the program by the kernel.
-/
import Derived.Test.YtmdagnoknmfhcaaDoorSf
import Derived.Test.YtmdagnoknmfhcaaDoorProg
import Derived.KernelRfl
namespace Go.Proofs.YtmdagnoknmfhcaaDoor
open Go.H Go.Proofs
set_option linter.unusedVariables false
set_option linter.unusedSimpArgs false
set_option maxRecDepth 100000
set_option maxHeartbeats 4000000

/-- aqueduct/aqueductlaw21.AdvertBytes -/
def law21_AdvertBytes (p0 : Int × Int × Slc × Slc × Unit) (p1 : ByteArray) : HM (Bool × Unit) :=
  HM.bind (α := Nat) (HM.new (.cells #[.int .i64 p0.1, .int .i64 p0.2.1, .slice p0.2.2.1.a p0.2.2.1.len p0.2.2.1.cap, .slice p0.2.2.2.1.a p0.2.2.2.1.len p0.2.2.2.1.cap] 51)) fun (x1 : Nat) =>
  HM.bind (α := Int × Int × Slc × Slc × Unit) (HM.loadN [.int .i64, .int .i64, .slc, .slc] ⟨x1, 0, none⟩) fun (x2 : Int × Int × Slc × Slc × Unit) =>
  HM.bind (α := (Int × Int × Slc × Slc × Unit) × (Int × Int × Slc × Slc × Unit) × Unit) (HM.callN Tryd.prog [.agg [.int .i64, .int .i64, .slc, .slc], .agg [.int .i64, .int .i64, .slc, .slc]] 22 #[.agg #[.int .i64 x2.1, .int .i64 x2.2.1, .slice x2.2.2.1.a x2.2.2.1.len x2.2.2.1.cap, .slice x2.2.2.2.1.a x2.2.2.2.1.len x2.2.2.2.1.cap]]) fun (x3 : (Int × Int × Slc × Slc × Unit) × (Int × Int × Slc × Slc × Unit) × Unit) =>
  HM.bind (α := Nat) (HM.new (.cells #[.int .i64 0, .int .i64 0, .slice none 0 0, .slice none 0 0] 54)) fun (x4 : Nat) =>
  HM.bind (α := Nat) (HM.new (.cells #[.int .i64 0, .int .i64 0, .slice none 0 0, .slice none 0 0] 57)) fun (x5 : Nat) =>
  HM.bind (α := Unit) (HM.storeN ⟨x4, 0, none⟩ [.int .i64 x3.1.1, .int .i64 x3.1.2.1, .slice x3.1.2.2.1.a x3.1.2.2.1.len x3.1.2.2.1.cap, .slice x3.1.2.2.2.1.a x3.1.2.2.2.1.len x3.1.2.2.2.1.cap]) fun (_ : Unit) =>
  HM.bind (α := Unit) (HM.storeN ⟨x5, 0, none⟩ [.int .i64 x3.2.1.1, .int .i64 x3.2.1.2.1, .slice x3.2.1.2.2.1.a x3.2.1.2.2.1.len x3.2.1.2.2.1.cap, .slice x3.2.1.2.2.2.1.a x3.2.1.2.2.2.1.len x3.2.1.2.2.2.1.cap]) fun (_ : Unit) =>
  HM.bind (α := Int × Int × Slc × Slc × Unit) (HM.loadN [.int .i64, .int .i64, .slc, .slc] ⟨x4, 0, none⟩) fun (x6 : Int × Int × Slc × Slc × Unit) =>
  HM.bind (α := ByteArray × Int × Unit) (HM.callN Tryd.prog [.one .str, .one (.int .u8)] 23 #[.agg #[.int .i64 x6.1, .int .i64 x6.2.1, .slice x6.2.2.1.a x6.2.2.1.len x6.2.2.1.cap, .slice x6.2.2.2.1.a x6.2.2.2.1.len x6.2.2.2.1.cap]]) fun (x7 : ByteArray × Int × Unit) =>
  HM.bind (α := Int × Int × Slc × Slc × Unit) (HM.loadN [.int .i64, .int .i64, .slc, .slc] ⟨x5, 0, none⟩) fun (x8 : Int × Int × Slc × Slc × Unit) =>
  HM.bind (α := ByteArray × Int × Unit) (HM.callN Tryd.prog [.one .str, .one (.int .i64)] 24 #[.agg #[.int .i64 x8.1, .int .i64 x8.2.1, .slice x8.2.2.1.a x8.2.2.1.len x8.2.2.1.cap, .slice x8.2.2.2.1.a x8.2.2.2.1.len x8.2.2.2.1.cap]]) fun (x9 : ByteArray × Int × Unit) =>
  HM.bind (α := (Int × Int × Slc × Slc × Unit) × Int × Unit) (HM.callN Tryd.prog [.agg [.int .i64, .int .i64, .slc, .slc], .one (.int .u8)] 25 #[.string p1]) fun (x10 : (Int × Int × Slc × Slc × Unit) × Int × Unit) =>
  HM.bind (α := Nat) (HM.new (.cells #[.int .i64 0, .int .i64 0, .slice none 0 0, .slice none 0 0] 54)) fun (x11 : Nat) =>
  HM.bind (α := Unit) (HM.storeN ⟨x11, 0, none⟩ [.int .i64 x10.1.1, .int .i64 x10.1.2.1, .slice x10.1.2.2.1.a x10.1.2.2.1.len x10.1.2.2.1.cap, .slice x10.1.2.2.2.1.a x10.1.2.2.2.1.len x10.1.2.2.2.1.cap]) fun (_ : Unit) =>
  HM.bind (α := (Int × Int × Slc × Slc × Unit) × Int × Unit) (HM.callN Tryd.prog [.agg [.int .i64, .int .i64, .slc, .slc], .one (.int .i64)] 26 #[.string p1]) fun (x12 : (Int × Int × Slc × Slc × Unit) × Int × Unit) =>
  HM.bind (α := Nat) (HM.new (.cells #[.int .i64 0, .int .i64 0, .slice none 0 0, .slice none 0 0] 57)) fun (x13 : Nat) =>
  HM.bind (α := Unit) (HM.storeN ⟨x13, 0, none⟩ [.int .i64 x12.1.1, .int .i64 x12.1.2.1, .slice x12.1.2.2.1.a x12.1.2.2.1.len x12.1.2.2.1.cap, .slice x12.1.2.2.2.1.a x12.1.2.2.2.1.len x12.1.2.2.2.1.cap]) fun (_ : Unit) =>
  HM.bind (α := Bool × Unit) (HM.bind (α := Bool) (HM.call1 Tryd.prog (.one .bool) 27 #[]) fun (x14 : Bool) =>
  HM.ite x14 (
  HM.ite (decide (x7.1 = x9.1)) (
  HM.ite ((IntKind.wrap .i64 x7.2.1) == x9.2.1) (
  HM.ite ((IntKind.wrap .i64 x10.2.1) == x12.2.1) (
  HM.bind (α := Int × Int × Slc × Slc × Unit) (HM.loadN [.int .i64, .int .i64, .slc, .slc] ⟨x11, 0, none⟩) fun (x15 : Int × Int × Slc × Slc × Unit) =>
  HM.bind (α := Int × Int × Slc × Slc × Unit) (HM.loadN [.int .i64, .int .i64, .slc, .slc] ⟨x13, 0, none⟩) fun (x16 : Int × Int × Slc × Slc × Unit) =>
  HM.bind (α := Bool) (HM.call1 Tryd.prog (.one .bool) 28 #[.agg #[.int .i64 x15.1, .int .i64 x15.2.1, .slice x15.2.2.1.a x15.2.2.1.len x15.2.2.1.cap, .slice x15.2.2.2.1.a x15.2.2.2.1.len x15.2.2.2.1.cap], .agg #[.int .i64 x16.1, .int .i64 x16.2.1, .slice x16.2.2.1.a x16.2.2.1.len x16.2.2.1.cap, .slice x16.2.2.2.1.a x16.2.2.2.1.len x16.2.2.2.1.cap]]) fun (x17 : Bool) =>
  HM.pure (x17, ())) (
  HM.pure (false, ()))) (
  HM.pure (false, ()))) (
  HM.pure (false, ()))) (
  HM.pure (false, ()))) fun (x18 : Bool × Unit) =>
  HM.pure (x18.1, ())

theorem law21_AdvertBytes_den (p0 : Int × Int × Slc × Slc × Unit) (p1 : ByteArray) : denFn Tryd.prog [22, 23, 24, 25, 26, 27, 28] 63 [0, 1, 2, 4, 5, 6, 7, 8, 9, 10, 11, 12, 13, 14] [0, 1, 2, 5, 6, 7, 8, 9, 10, 11, 12, 13, 14] Tryd.f6.results.toList [.one .bool] (bodyOf Tryd.f6) [Kind.val (.agg [.int .i64, .int .i64, .slc, .slc]) p0, Kind.val (.one .str) p1] = law21_AdvertBytes p0 p1 := by kernel_rfl
theorem law21_AdvertBytes_calls (p0 : Int × Int × Slc × Slc × Unit) (p1 : ByteArray) (h : Heap) (Q : Value → Heap → Prop) (hh : law21_AdvertBytes p0 p1 h fun x h' => Q (.bool x.1) h') :
    HCalls Tryd.prog 6 #[.agg #[.int .i64 p0.1, .int .i64 p0.2.1, .slice p0.2.2.1.a p0.2.2.1.len p0.2.2.1.cap, .slice p0.2.2.2.1.a p0.2.2.2.1.len p0.2.2.2.1.cap], .string p1] h Q := by
  rw [← law21_AdvertBytes_den] at hh
  exact calls_of_den Tryd.func6 (by kernel_rfl) Tryd.ntmps6 (by kernel_rfl) (fun f hf => by
      rcases List.mem_cons.1 hf with rfl | hf
      · exact Tryd.call22
      rcases List.mem_cons.1 hf with rfl | hf
      · exact Tryd.call23
      rcases List.mem_cons.1 hf with rfl | hf
      · exact Tryd.call24
      rcases List.mem_cons.1 hf with rfl | hf
      · exact Tryd.call25
      rcases List.mem_cons.1 hf with rfl | hf
      · exact Tryd.call26
      rcases List.mem_cons.1 hf with rfl | hf
      · exact Tryd.call27
      rcases List.mem_cons.1 hf with rfl | hf
      · exact Tryd.call28
      cases hf) orders hh

/-- aqueduct/aqueductlaw21.AdvertBack -/
def law21_AdvertBack (p0 : Int × Int × Slc × Slc × Unit) (p1 : ByteArray) (p2 : Int) : HM (Bool × Unit) :=
  HM.bind (α := Nat) (HM.new (.cells #[.int .i64 p0.1, .int .i64 p0.2.1, .slice p0.2.2.1.a p0.2.2.1.len p0.2.2.1.cap, .slice p0.2.2.2.1.a p0.2.2.2.1.len p0.2.2.2.1.cap] 51)) fun (x1 : Nat) =>
  HM.bind (α := Int × Int × Slc × Slc × Unit) (HM.loadN [.int .i64, .int .i64, .slc, .slc] ⟨x1, 0, none⟩) fun (x2 : Int × Int × Slc × Slc × Unit) =>
  HM.bind (α := (Int × Int × Slc × Slc × Unit) × (Int × Int × Slc × Slc × Unit) × Unit) (HM.callN Tryd.prog [.agg [.int .i64, .int .i64, .slc, .slc], .agg [.int .i64, .int .i64, .slc, .slc]] 22 #[.agg #[.int .i64 x2.1, .int .i64 x2.2.1, .slice x2.2.2.1.a x2.2.2.1.len x2.2.2.1.cap, .slice x2.2.2.2.1.a x2.2.2.2.1.len x2.2.2.2.1.cap]]) fun (x3 : (Int × Int × Slc × Slc × Unit) × (Int × Int × Slc × Slc × Unit) × Unit) =>
  HM.bind (α := Nat) (HM.new (.cells #[.int .i64 0, .int .i64 0, .slice none 0 0, .slice none 0 0] 54)) fun (x4 : Nat) =>
  HM.bind (α := Nat) (HM.new (.cells #[.int .i64 0, .int .i64 0, .slice none 0 0, .slice none 0 0] 57)) fun (x5 : Nat) =>
  HM.bind (α := Unit) (HM.storeN ⟨x4, 0, none⟩ [.int .i64 x3.1.1, .int .i64 x3.1.2.1, .slice x3.1.2.2.1.a x3.1.2.2.1.len x3.1.2.2.1.cap, .slice x3.1.2.2.2.1.a x3.1.2.2.2.1.len x3.1.2.2.2.1.cap]) fun (_ : Unit) =>
  HM.bind (α := Unit) (HM.storeN ⟨x5, 0, none⟩ [.int .i64 x3.2.1.1, .int .i64 x3.2.1.2.1, .slice x3.2.1.2.2.1.a x3.2.1.2.2.1.len x3.2.1.2.2.1.cap, .slice x3.2.1.2.2.2.1.a x3.2.1.2.2.2.1.len x3.2.1.2.2.2.1.cap]) fun (_ : Unit) =>
  HM.bind (α := Int × Int × Slc × Slc × Unit) (HM.loadN [.int .i64, .int .i64, .slc, .slc] ⟨x4, 0, none⟩) fun (x6 : Int × Int × Slc × Slc × Unit) =>
  HM.bind (α := ByteArray × Int × Unit) (HM.callN Tryd.prog [.one .str, .one (.int .u8)] 23 #[.agg #[.int .i64 x6.1, .int .i64 x6.2.1, .slice x6.2.2.1.a x6.2.2.1.len x6.2.2.1.cap, .slice x6.2.2.2.1.a x6.2.2.2.1.len x6.2.2.2.1.cap]]) fun (x7 : ByteArray × Int × Unit) =>
  HM.bind (α := Bool) (HM.call1 Tryd.prog (.one .bool) 27 #[]) fun (x8 : Bool) =>
  HM.ite (!x8) (
  HM.pure (false, ())) (
  HM.bind (α := (Unit) ⊕ (Bool × Unit)) (HM.ite (x7.2.1 == 0) (
  HM.bind (α := (Int × Int × Slc × Slc × Unit) × Int × Unit) (HM.callN Tryd.prog [.agg [.int .i64, .int .i64, .slc, .slc], .one (.int .u8)] 25 #[.string x7.1]) fun (x10 : (Int × Int × Slc × Slc × Unit) × Int × Unit) =>
  HM.bind (α := Nat) (HM.new (.cells #[.int .i64 0, .int .i64 0, .slice none 0 0, .slice none 0 0] 54)) fun (x11 : Nat) =>
  HM.bind (α := Unit) (HM.storeN ⟨x11, 0, none⟩ [.int .i64 x10.1.1, .int .i64 x10.1.2.1, .slice x10.1.2.2.1.a x10.1.2.2.1.len x10.1.2.2.1.cap, .slice x10.1.2.2.2.1.a x10.1.2.2.2.1.len x10.1.2.2.2.1.cap]) fun (_ : Unit) =>
  HM.bind (α := Bool × Unit) (HM.ite (!(x10.2.1 == 0)) (
  HM.pure (true, ())) (
  HM.bind (α := Int × Int × Slc × Slc × Unit) (HM.loadN [.int .i64, .int .i64, .slc, .slc] ⟨x11, 0, none⟩) fun (x12 : Int × Int × Slc × Slc × Unit) =>
  HM.bind (α := Int × Int × Slc × Slc × Unit) (HM.loadN [.int .i64, .int .i64, .slc, .slc] ⟨x5, 0, none⟩) fun (x13 : Int × Int × Slc × Slc × Unit) =>
  HM.bind (α := Bool) (HM.call1 Tryd.prog (.one .bool) 28 #[.agg #[.int .i64 x12.1, .int .i64 x12.2.1, .slice x12.2.2.1.a x12.2.2.1.len x12.2.2.1.cap, .slice x12.2.2.2.1.a x12.2.2.2.1.len x12.2.2.2.1.cap], .agg #[.int .i64 x13.1, .int .i64 x13.2.1, .slice x13.2.2.1.a x13.2.2.1.len x13.2.2.1.cap, .slice x13.2.2.2.1.a x13.2.2.2.1.len x13.2.2.2.1.cap]]) fun (x14 : Bool) =>
  HM.ite (!x14) (
  HM.pure (true, ())) (
  HM.pure (((ByteArray.size x7.1 : Nat) : Int) == 0, ())))) fun (x15 : Bool × Unit) =>
  HM.ite x15.1 (
  HM.pure (.inr (false, ()))) (
  HM.req (((ByteArray.size x7.1 : Nat) : Int) ≠ (0 : Int)) <|
  HM.bind (α := ByteArray) (HM.substr x7.1 none (some (Int.tmod (if 0 < (p2 : Int) then p2 else 0) ((ByteArray.size x7.1 : Nat) : Int)))) fun (x16 : ByteArray) =>
  HM.bind (α := (Int × Int × Slc × Slc × Unit) × Int × Unit) (HM.callN Tryd.prog [.agg [.int .i64, .int .i64, .slc, .slc], .one (.int .u8)] 25 #[.string x16]) fun (x17 : (Int × Int × Slc × Slc × Unit) × Int × Unit) =>
  HM.bind (α := Nat) (HM.new (.cells #[.int .i64 0, .int .i64 0, .slice none 0 0, .slice none 0 0] 54)) fun (x18 : Nat) =>
  HM.bind (α := Unit) (HM.storeN ⟨x18, 0, none⟩ [.int .i64 x17.1.1, .int .i64 x17.1.2.1, .slice x17.1.2.2.1.a x17.1.2.2.1.len x17.1.2.2.1.cap, .slice x17.1.2.2.2.1.a x17.1.2.2.2.1.len x17.1.2.2.2.1.cap]) fun (_ : Unit) =>
  HM.ite (!(x17.2.1 == 129)) (
  HM.pure (.inr (false, ()))) (
  HM.pure (.inl ())))) (
  HM.pure (.inl ()))) (Sum.elim (fun (x9 : Unit) =>
  HM.bind (α := (Int × Int × Slc × Slc × Unit) × Int × Unit) (HM.callN Tryd.prog [.agg [.int .i64, .int .i64, .slc, .slc], .one (.int .u8)] 25 #[.string p1]) fun (x19 : (Int × Int × Slc × Slc × Unit) × Int × Unit) =>
  HM.bind (α := Nat) (HM.new (.cells #[.int .i64 0, .int .i64 0, .slice none 0 0, .slice none 0 0] 54)) fun (x20 : Nat) =>
  HM.bind (α := Unit) (HM.storeN ⟨x20, 0, none⟩ [.int .i64 x19.1.1, .int .i64 x19.1.2.1, .slice x19.1.2.2.1.a x19.1.2.2.1.len x19.1.2.2.1.cap, .slice x19.1.2.2.2.1.a x19.1.2.2.2.1.len x19.1.2.2.2.1.cap]) fun (_ : Unit) =>
  HM.ite (!(x19.2.1 == 0)) (
  HM.pure (true, ())) (
  HM.bind (α := Int × Int × Slc × Slc × Unit) (HM.loadN [.int .i64, .int .i64, .slc, .slc] ⟨x20, 0, none⟩) fun (x21 : Int × Int × Slc × Slc × Unit) =>
  HM.bind (α := ByteArray × Int × Unit) (HM.callN Tryd.prog [.one .str, .one (.int .u8)] 23 #[.agg #[.int .i64 x21.1, .int .i64 x21.2.1, .slice x21.2.2.1.a x21.2.2.1.len x21.2.2.1.cap, .slice x21.2.2.2.1.a x21.2.2.2.1.len x21.2.2.2.1.cap]]) fun (x22 : ByteArray × Int × Unit) =>
  HM.bind (α := Bool × Unit) (HM.ite (x22.2.1 == 0) (
  HM.pure (decide (x22.1 = p1), ())) (
  HM.pure (false, ()))) fun (x23 : Bool × Unit) =>
  HM.pure (x23.1, ()))) HM.pure))

theorem law21_AdvertBack_den (p0 : Int × Int × Slc × Slc × Unit) (p1 : ByteArray) (p2 : Int) : denFn Tryd.prog [22, 23, 27, 25, 28] 83 [0, 1, 2, 3, 6, 7, 8, 9, 10, 11, 12, 14, 15, 16, 17, 18, 30, 32, 50, 63, 70] [0, 1, 2, 3, 7, 8, 9, 10, 11, 12, 14, 15, 16, 17, 18, 30, 32, 50, 63, 70] Tryd.f7.results.toList [.one .bool] (bodyOf Tryd.f7) [Kind.val (.agg [.int .i64, .int .i64, .slc, .slc]) p0, Kind.val (.one .str) p1, Kind.val (.one (.int .i64)) p2] = law21_AdvertBack p0 p1 p2 := by kernel_rfl
theorem law21_AdvertBack_calls (p0 : Int × Int × Slc × Slc × Unit) (p1 : ByteArray) (p2 : Int) (h : Heap) (Q : Value → Heap → Prop) (hh : law21_AdvertBack p0 p1 p2 h fun x h' => Q (.bool x.1) h') :
    HCalls Tryd.prog 7 #[.agg #[.int .i64 p0.1, .int .i64 p0.2.1, .slice p0.2.2.1.a p0.2.2.1.len p0.2.2.1.cap, .slice p0.2.2.2.1.a p0.2.2.2.1.len p0.2.2.2.1.cap], .string p1, .int .i64 p2] h Q := by
  rw [← law21_AdvertBack_den] at hh
  exact calls_of_den Tryd.func7 (by kernel_rfl) Tryd.ntmps7 (by kernel_rfl) (fun f hf => by
      rcases List.mem_cons.1 hf with rfl | hf
      · exact Tryd.call22
      rcases List.mem_cons.1 hf with rfl | hf
      · exact Tryd.call23
      rcases List.mem_cons.1 hf with rfl | hf
      · exact Tryd.call27
      rcases List.mem_cons.1 hf with rfl | hf
      · exact Tryd.call25
      rcases List.mem_cons.1 hf with rfl | hf
      · exact Tryd.call28
      cases hf) orders hh

/-- aqueduct/aqueductlaw21.AdvertNewest -/
def law21_AdvertNewest (p0 : Slc) (p1 : Slc) : HM (Bool × Unit) :=
  HM.bind (α := Slc) (HM.slice p0 none (some (if 20 < (((p0.len : Nat) : Int) : Int) then 20 else ((p0.len : Nat) : Int))) none 4) fun (x1 : Slc) =>
  HM.bind (α := Option Addr) (HM.call1 Tryd.prog (.one .ptr) 29 #[]) fun (x2 : Option Addr) =>
  HM.bind (α := Nat) (HM.new (.map #[] 0)) fun (x3 : Nat) =>
  HM.bind (α := Slc) (HM.slice p1 none (some (if 60 < (((p1.len : Nat) : Int) : Int) then 60 else ((p1.len : Nat) : Int))) none 1) fun (x4 : Slc) =>
  HM.bind (α := (Int × Unit) ⊕ (Bool × Unit)) (HM.loop (σ := Int × Unit) (τ := (Int × Unit) ⊕ (Bool × Unit)) (fun (x6 : Int × Unit) =>
  HM.ite (decide (x6.1 < (((x4.len : Nat) : Int) : Int))) (
  HM.bind (α := (Unit) ⊕ ((Int × Unit) ⊕ ((Int × Unit) ⊕ (Bool × Unit)))) (HM.bind (α := Addr) (HM.idx x4.a x4.len x6.1 1) fun (x8 : Addr) =>
  HM.bind (α := Int) (HM.load1 (.int .i64) x8) fun (x9 : Int) =>
  HM.ite (((x1.len : Nat) : Int) == 0) (
  HM.pure (.inr (.inr (.inl (x6.1, ()))))) (
  HM.req (((x1.len : Nat) : Int) ≠ (0 : Int)) <|
  HM.bind (α := Addr) (HM.idx x1.a x1.len (Int.tmod (if 0 < (x9 : Int) then x9 else 0) ((x1.len : Nat) : Int)) 4) fun (x10 : Addr) =>
  HM.bind (α := Int × Int × Slc × Slc × Unit) (HM.loadN [.int .i64, .int .i64, .slc, .slc] x10) fun (x11 : Int × Int × Slc × Slc × Unit) =>
  HM.bind (α := (Int × Int × Slc × Slc × Unit) × (Int × Int × Slc × Slc × Unit) × Unit) (HM.callN Tryd.prog [.agg [.int .i64, .int .i64, .slc, .slc], .agg [.int .i64, .int .i64, .slc, .slc]] 22 #[.agg #[.int .i64 x11.1, .int .i64 x11.2.1, .slice x11.2.2.1.a x11.2.2.1.len x11.2.2.1.cap, .slice x11.2.2.2.1.a x11.2.2.2.1.len x11.2.2.2.1.cap]]) fun (x12 : (Int × Int × Slc × Slc × Unit) × (Int × Int × Slc × Slc × Unit) × Unit) =>
  HM.bind (α := Nat) (HM.new (.cells #[.int .i64 0, .int .i64 0, .slice none 0 0, .slice none 0 0] 54)) fun (x13 : Nat) =>
  HM.bind (α := Nat) (HM.new (.cells #[.int .i64 0, .int .i64 0, .slice none 0 0, .slice none 0 0] 57)) fun (x14 : Nat) =>
  HM.bind (α := Unit) (HM.storeN ⟨x13, 0, none⟩ [.int .i64 x12.1.1, .int .i64 x12.1.2.1, .slice x12.1.2.2.1.a x12.1.2.2.1.len x12.1.2.2.1.cap, .slice x12.1.2.2.2.1.a x12.1.2.2.2.1.len x12.1.2.2.2.1.cap]) fun (_ : Unit) =>
  HM.bind (α := Unit) (HM.storeN ⟨x14, 0, none⟩ [.int .i64 x12.2.1.1, .int .i64 x12.2.1.2.1, .slice x12.2.1.2.2.1.a x12.2.1.2.2.1.len x12.2.1.2.2.1.cap, .slice x12.2.1.2.2.2.1.a x12.2.1.2.2.2.1.len x12.2.1.2.2.2.1.cap]) fun (_ : Unit) =>
  HM.bind (α := Int × Int × Slc × Slc × Unit) (HM.loadN [.int .i64, .int .i64, .slc, .slc] ⟨x13, 0, none⟩) fun (x15 : Int × Int × Slc × Slc × Unit) =>
  HM.bind (α := Bool × Int × Unit) (HM.callN Tryd.prog [.one .bool, .one (.int .u8)] 30 #[.pointer x2, .agg #[.int .i64 x15.1, .int .i64 x15.2.1, .slice x15.2.2.1.a x15.2.2.1.len x15.2.2.1.cap, .slice x15.2.2.2.1.a x15.2.2.2.1.len x15.2.2.2.1.cap]]) fun (x16 : Bool × Int × Unit) =>
  HM.ite (!(x16.2.1 == 0)) (
  HM.pure (.inl ())) (
  HM.bind (α := Int) (HM.load1 (.int .i64) (Addr.add ⟨x13, 0, none⟩ 1)) fun (x17 : Int) =>
  HM.bind (α := Int) (HM.load1 (.int .i64) (Addr.add ⟨x13, 0, none⟩ 0)) fun (x18 : Int) =>
  HM.bind (α := Int × Bool) (HM.lookup (Instr.sameNow (.int .i64)) (.int .i64 0) (.one (.int .i64)) (some x3) (.int .i64 x18)) fun (x19 : Int × Bool) =>
  HM.ite (!(x16.1 == (decide (x19.1 < (x17 : Int))))) (
  HM.pure (.inr (.inr (.inr (false, ()))))) (
  HM.bind (α := Int) (HM.load1 (.int .i64) (Addr.add ⟨x13, 0, none⟩ 0)) fun (x20 : Int) =>
  HM.bind (α := Int) (HM.load1 (.int .i64) (Addr.add ⟨x13, 0, none⟩ 0)) fun (x21 : Int) =>
  HM.bind (α := Int × Bool) (HM.lookup (Instr.sameNow (.int .i64)) (.int .i64 0) (.one (.int .i64)) (some x3) (.int .i64 x21)) fun (x22 : Int × Bool) =>
  HM.bind (α := Int) (HM.load1 (.int .i64) (Addr.add ⟨x13, 0, none⟩ 1)) fun (x23 : Int) =>
  HM.bind (α := Unit) (HM.mapSet (Instr.sameNow (.int .i64)) (some x3) (.int .i64 x20) (.int .i64 (if x22.1 < (x23 : Int) then x23 else x22.1))) fun (_ : Unit) =>
  HM.pure (.inl ()))))) (Sum.elim (fun (x7 : Unit) =>
  HM.pure (.inl (IntKind.wrap .i64 (x6.1 + 1), ()))) HM.pure)) (
  HM.pure (.inr (.inl (x6.1, ()))))) (0, ())) (Sum.elim (fun (x5 : Int × Unit) =>
  HM.bind (α := Slc) (HM.call1 Tryd.prog (.one .slc) 31 #[.pointer x2]) fun (x24 : Slc) =>
  HM.bind (α := (Int × Unit) ⊕ (Bool × Unit)) (HM.loop (σ := Int × Unit) (τ := (Int × Unit) ⊕ (Bool × Unit)) (fun (x26 : Int × Unit) =>
  HM.ite (decide (x26.1 < (((x24.len : Nat) : Int) : Int))) (
  HM.bind (α := Addr) (HM.idx x24.a x24.len x26.1 4) fun (x27 : Addr) =>
  HM.bind (α := Int × Int × Slc × Slc × Unit) (HM.loadN [.int .i64, .int .i64, .slc, .slc] x27) fun (x28 : Int × Int × Slc × Slc × Unit) =>
  HM.bind (α := Nat) (HM.new (.cells #[.int .i64 0, .int .i64 0, .slice none 0 0, .slice none 0 0] 54)) fun (x29 : Nat) =>
  HM.bind (α := Unit) (HM.storeN ⟨x29, 0, none⟩ [.int .i64 x28.1, .int .i64 x28.2.1, .slice x28.2.2.1.a x28.2.2.1.len x28.2.2.1.cap, .slice x28.2.2.2.1.a x28.2.2.2.1.len x28.2.2.2.1.cap]) fun (_ : Unit) =>
  HM.bind (α := Bool × Unit) (HM.bind (α := Int) (HM.load1 (.int .i64) (Addr.add ⟨x29, 0, none⟩ 1)) fun (x30 : Int) =>
  HM.bind (α := Int) (HM.load1 (.int .i64) (Addr.add ⟨x29, 0, none⟩ 0)) fun (x31 : Int) =>
  HM.bind (α := Int × Bool) (HM.lookup (Instr.sameNow (.int .i64)) (.int .i64 0) (.one (.int .i64)) (some x3) (.int .i64 x31)) fun (x32 : Int × Bool) =>
  HM.ite (!(x30 == x32.1)) (
  HM.pure (true, ())) (
  HM.ite (decide (0 < (x26.1 : Int))) (
  HM.bind (α := Addr) (HM.idx x24.a x24.len (IntKind.wrap .i64 (x26.1 - 1)) 4) fun (x33 : Addr) =>
  HM.bind (α := Int) (HM.load1 (.int .i64) (Addr.add x33 0)) fun (x34 : Int) =>
  HM.bind (α := Int) (HM.load1 (.int .i64) (Addr.add ⟨x29, 0, none⟩ 0)) fun (x35 : Int) =>
  HM.pure (decide (x35 ≤ (x34 : Int)), ())) (
  HM.pure (false, ())))) fun (x36 : Bool × Unit) =>
  HM.ite x36.1 (
  HM.pure (.inr (.inr (false, ())))) (
  HM.pure (.inl (IntKind.wrap .i64 (x26.1 + 1), ())))) (
  HM.pure (.inr (.inl (x26.1, ()))))) (0, ())) (Sum.elim (fun (x25 : Int × Unit) =>
  HM.bind (α := Bool × Unit) (HM.bind (α := Bool) (HM.call1 Tryd.prog (.one .bool) 27 #[]) fun (x37 : Bool) =>
  HM.ite x37 (
  HM.bind (α := Int) (HM.mapLen (some x3)) fun (x38 : Int) =>
  HM.pure (((x24.len : Nat) : Int) == x38, ())) (
  HM.pure (false, ()))) fun (x39 : Bool × Unit) =>
  HM.pure (x39.1, ())) HM.pure)) HM.pure)

theorem law21_AdvertNewest_den (p0 : Slc) (p1 : Slc) : denFn Tryd.prog [29, 22, 30, 31, 27] 116 [0, 1, 4, 5, 6, 8, 9, 11, 12, 13, 14, 15, 27, 28, 29, 30, 35, 55, 64, 78, 79, 80, 81, 106] [0, 1, 5, 6, 8, 9, 11, 12, 13, 14, 15, 27, 28, 29, 30, 35, 55, 64, 78, 79, 80, 81, 106] Tryd.f8.results.toList [.one .bool] (bodyOf Tryd.f8) [Kind.val (.one .slc) p0, Kind.val (.one .slc) p1] = law21_AdvertNewest p0 p1 := by kernel_rfl
theorem law21_AdvertNewest_calls (p0 : Slc) (p1 : Slc) (h : Heap) (Q : Value → Heap → Prop) (hh : law21_AdvertNewest p0 p1 h fun x h' => Q (.bool x.1) h') :
    HCalls Tryd.prog 8 #[.slice p0.a p0.len p0.cap, .slice p1.a p1.len p1.cap] h Q := by
  rw [← law21_AdvertNewest_den] at hh
  exact calls_of_den Tryd.func8 (by kernel_rfl) Tryd.ntmps8 (by kernel_rfl) (fun f hf => by
      rcases List.mem_cons.1 hf with rfl | hf
      · exact Tryd.call29
      rcases List.mem_cons.1 hf with rfl | hf
      · exact Tryd.call22
      rcases List.mem_cons.1 hf with rfl | hf
      · exact Tryd.call30
      rcases List.mem_cons.1 hf with rfl | hf
      · exact Tryd.call31
      rcases List.mem_cons.1 hf with rfl | hf
      · exact Tryd.call27
      cases hf) orders hh

/-- aqueduct/aqueductlaw21.AdvertPlays -/
def law21_AdvertPlays (p0 : Slc) (p1 : Int) : HM (Bool × Unit) :=
  HM.bind (α := Option Addr) (HM.call1 Tryd.prog (.one .ptr) 29 #[]) fun (x1 : Option Addr) =>
  HM.bind (α := Nat) (HM.new (.cells #[.slice none 0 0] 84)) fun (x2 : Nat) =>
  HM.bind (α := Bool) (HM.call1 Tryd.prog (.one .bool) 27 #[]) fun (x3 : Bool) =>
  HM.ite (!x3) (
  HM.pure (false, ())) (
  HM.bind (α := Slc) (HM.slice p0 none (some (if 40 < (((p0.len : Nat) : Int) : Int) then 40 else ((p0.len : Nat) : Int))) none 4) fun (x4 : Slc) =>
  HM.bind (α := (Int × Unit) ⊕ (Bool × Unit)) (HM.loop (σ := Int × Unit) (τ := (Int × Unit) ⊕ (Bool × Unit)) (fun (x6 : Int × Unit) =>
  HM.ite (decide (x6.1 < (((x4.len : Nat) : Int) : Int))) (
  HM.bind (α := Addr) (HM.idx x4.a x4.len x6.1 4) fun (x7 : Addr) =>
  HM.bind (α := Int × Int × Slc × Slc × Unit) (HM.loadN [.int .i64, .int .i64, .slc, .slc] x7) fun (x8 : Int × Int × Slc × Slc × Unit) =>
  HM.bind (α := Nat) (HM.new (.cells #[.int .i64 0, .int .i64 0, .slice none 0 0, .slice none 0 0] 51)) fun (x9 : Nat) =>
  HM.bind (α := Unit) (HM.storeN ⟨x9, 0, none⟩ [.int .i64 x8.1, .int .i64 x8.2.1, .slice x8.2.2.1.a x8.2.2.1.len x8.2.2.1.cap, .slice x8.2.2.2.1.a x8.2.2.2.1.len x8.2.2.2.1.cap]) fun (_ : Unit) =>
  HM.bind (α := Int × Int × Slc × Slc × Unit) (HM.loadN [.int .i64, .int .i64, .slc, .slc] ⟨x9, 0, none⟩) fun (x10 : Int × Int × Slc × Slc × Unit) =>
  HM.bind (α := (Int × Int × Slc × Slc × Unit) × (Int × Int × Slc × Slc × Unit) × Unit) (HM.callN Tryd.prog [.agg [.int .i64, .int .i64, .slc, .slc], .agg [.int .i64, .int .i64, .slc, .slc]] 22 #[.agg #[.int .i64 x10.1, .int .i64 x10.2.1, .slice x10.2.2.1.a x10.2.2.1.len x10.2.2.1.cap, .slice x10.2.2.2.1.a x10.2.2.2.1.len x10.2.2.2.1.cap]]) fun (x11 : (Int × Int × Slc × Slc × Unit) × (Int × Int × Slc × Slc × Unit) × Unit) =>
  HM.bind (α := Nat) (HM.new (.cells #[.int .i64 0, .int .i64 0, .slice none 0 0, .slice none 0 0] 54)) fun (x12 : Nat) =>
  HM.bind (α := Nat) (HM.new (.cells #[.int .i64 0, .int .i64 0, .slice none 0 0, .slice none 0 0] 57)) fun (x13 : Nat) =>
  HM.bind (α := Unit) (HM.storeN ⟨x12, 0, none⟩ [.int .i64 x11.1.1, .int .i64 x11.1.2.1, .slice x11.1.2.2.1.a x11.1.2.2.1.len x11.1.2.2.1.cap, .slice x11.1.2.2.2.1.a x11.1.2.2.2.1.len x11.1.2.2.2.1.cap]) fun (_ : Unit) =>
  HM.bind (α := Unit) (HM.storeN ⟨x13, 0, none⟩ [.int .i64 x11.2.1.1, .int .i64 x11.2.1.2.1, .slice x11.2.1.2.2.1.a x11.2.1.2.2.1.len x11.2.1.2.2.1.cap, .slice x11.2.1.2.2.2.1.a x11.2.1.2.2.2.1.len x11.2.1.2.2.2.1.cap]) fun (_ : Unit) =>
  HM.bind (α := Int × Int × Slc × Slc × Unit) (HM.loadN [.int .i64, .int .i64, .slc, .slc] ⟨x12, 0, none⟩) fun (x14 : Int × Int × Slc × Slc × Unit) =>
  HM.bind (α := Bool × Int × Unit) (HM.callN Tryd.prog [.one .bool, .one (.int .u8)] 30 #[.pointer x1, .agg #[.int .i64 x14.1, .int .i64 x14.2.1, .slice x14.2.2.1.a x14.2.2.1.len x14.2.2.1.cap, .slice x14.2.2.2.1.a x14.2.2.2.1.len x14.2.2.2.1.cap]]) fun (x15 : Bool × Int × Unit) =>
  HM.bind (α := Int × Int × Slc × Slc × Unit) (HM.loadN [.int .i64, .int .i64, .slc, .slc] ⟨x13, 0, none⟩) fun (x16 : Int × Int × Slc × Slc × Unit) =>
  HM.bind (α := Bool × Int × Unit) (HM.callN Tryd.prog [.one .bool, .one (.int .i64)] 32 #[.pointer (some ⟨x2, 0, none⟩), .agg #[.int .i64 x16.1, .int .i64 x16.2.1, .slice x16.2.2.1.a x16.2.2.1.len x16.2.2.1.cap, .slice x16.2.2.2.1.a x16.2.2.2.1.len x16.2.2.2.1.cap]]) fun (x17 : Bool × Int × Unit) =>
  HM.bind (α := Bool × Unit) (HM.ite (!(x15.1 == x17.1)) (
  HM.pure (true, ())) (
  HM.pure (!((IntKind.wrap .i64 x15.2.1) == x17.2.1), ()))) fun (x18 : Bool × Unit) =>
  HM.ite x18.1 (
  HM.pure (.inr (.inr (false, ())))) (
  HM.bind (α := Slc) (HM.call1 Tryd.prog (.one .slc) 31 #[.pointer x1]) fun (x19 : Slc) =>
  HM.bind (α := Addr) (HM.nonnil (some ⟨x2, 0, none⟩)) fun (x20 : Addr) =>
  HM.bind (α := Slc) (HM.load1 .slc (Addr.add x20 0)) fun (x21 : Slc) =>
  HM.ite (!(((x19.len : Nat) : Int) == ((x21.len : Nat) : Int))) (
  HM.pure (.inr (.inr (false, ())))) (
  HM.bind (α := (Int × Unit) ⊕ ((Int × Unit) ⊕ ((Int × Unit) ⊕ (Bool × Unit)))) (HM.loop (σ := Int × Unit) (τ := (Int × Unit) ⊕ ((Int × Unit) ⊕ ((Int × Unit) ⊕ (Bool × Unit)))) (fun (x23 : Int × Unit) =>
  HM.ite (decide (x23.1 < (((x19.len : Nat) : Int) : Int))) (
  HM.bind (α := Addr) (HM.idx x19.a x19.len x23.1 4) fun (x24 : Addr) =>
  HM.bind (α := Int × Int × Slc × Slc × Unit) (HM.loadN [.int .i64, .int .i64, .slc, .slc] x24) fun (x25 : Int × Int × Slc × Slc × Unit) =>
  HM.bind (α := Addr) (HM.nonnil (some ⟨x2, 0, none⟩)) fun (x26 : Addr) =>
  HM.bind (α := Slc) (HM.load1 .slc (Addr.add x26 0)) fun (x27 : Slc) =>
  HM.bind (α := Addr) (HM.idx x27.a x27.len x23.1 4) fun (x28 : Addr) =>
  HM.bind (α := Int × Int × Slc × Slc × Unit) (HM.loadN [.int .i64, .int .i64, .slc, .slc] x28) fun (x29 : Int × Int × Slc × Slc × Unit) =>
  HM.bind (α := Bool) (HM.call1 Tryd.prog (.one .bool) 28 #[.agg #[.int .i64 x25.1, .int .i64 x25.2.1, .slice x25.2.2.1.a x25.2.2.1.len x25.2.2.1.cap, .slice x25.2.2.2.1.a x25.2.2.2.1.len x25.2.2.2.1.cap], .agg #[.int .i64 x29.1, .int .i64 x29.2.1, .slice x29.2.2.1.a x29.2.2.1.len x29.2.2.1.cap, .slice x29.2.2.2.1.a x29.2.2.2.1.len x29.2.2.2.1.cap]]) fun (x30 : Bool) =>
  HM.ite (!x30) (
  HM.pure (.inr (.inr (.inr (.inr (false, ())))))) (
  HM.pure (.inl (IntKind.wrap .i64 (x23.1 + 1), ())))) (
  HM.pure (.inr (.inl (x23.1, ()))))) (0, ())) (Sum.elim (fun (x22 : Int × Unit) =>
  HM.pure (.inl (IntKind.wrap .i64 (x6.1 + 1), ()))) HM.pure)))) (
  HM.pure (.inr (.inl (x6.1, ()))))) (0, ())) (Sum.elim (fun (x5 : Int × Unit) =>
  HM.bind (α := (Int × Int × Slc × Slc × Unit) × Bool × Unit) (HM.callN Tryd.prog [.agg [.int .i64, .int .i64, .slc, .slc], .one .bool] 33 #[.pointer x1, .int .i64 p1]) fun (x31 : (Int × Int × Slc × Slc × Unit) × Bool × Unit) =>
  HM.bind (α := Nat) (HM.new (.cells #[.int .i64 0, .int .i64 0, .slice none 0 0, .slice none 0 0] 54)) fun (x32 : Nat) =>
  HM.bind (α := Unit) (HM.storeN ⟨x32, 0, none⟩ [.int .i64 x31.1.1, .int .i64 x31.1.2.1, .slice x31.1.2.2.1.a x31.1.2.2.1.len x31.1.2.2.1.cap, .slice x31.1.2.2.2.1.a x31.1.2.2.2.1.len x31.1.2.2.2.1.cap]) fun (_ : Unit) =>
  HM.bind (α := (Int × Int × Slc × Slc × Unit) × Bool × Unit) (HM.callN Tryd.prog [.agg [.int .i64, .int .i64, .slc, .slc], .one .bool] 34 #[.pointer (some ⟨x2, 0, none⟩), .int .i64 p1]) fun (x33 : (Int × Int × Slc × Slc × Unit) × Bool × Unit) =>
  HM.bind (α := Nat) (HM.new (.cells #[.int .i64 0, .int .i64 0, .slice none 0 0, .slice none 0 0] 57)) fun (x34 : Nat) =>
  HM.bind (α := Unit) (HM.storeN ⟨x34, 0, none⟩ [.int .i64 x33.1.1, .int .i64 x33.1.2.1, .slice x33.1.2.2.1.a x33.1.2.2.1.len x33.1.2.2.1.cap, .slice x33.1.2.2.2.1.a x33.1.2.2.2.1.len x33.1.2.2.2.1.cap]) fun (_ : Unit) =>
  HM.bind (α := Bool × Unit) (HM.ite (x31.2.1 == x33.2.1) (
  HM.bind (α := Int × Int × Slc × Slc × Unit) (HM.loadN [.int .i64, .int .i64, .slc, .slc] ⟨x32, 0, none⟩) fun (x35 : Int × Int × Slc × Slc × Unit) =>
  HM.bind (α := Int × Int × Slc × Slc × Unit) (HM.loadN [.int .i64, .int .i64, .slc, .slc] ⟨x34, 0, none⟩) fun (x36 : Int × Int × Slc × Slc × Unit) =>
  HM.bind (α := Bool) (HM.call1 Tryd.prog (.one .bool) 28 #[.agg #[.int .i64 x35.1, .int .i64 x35.2.1, .slice x35.2.2.1.a x35.2.2.1.len x35.2.2.1.cap, .slice x35.2.2.2.1.a x35.2.2.2.1.len x35.2.2.2.1.cap], .agg #[.int .i64 x36.1, .int .i64 x36.2.1, .slice x36.2.2.1.a x36.2.2.1.len x36.2.2.1.cap, .slice x36.2.2.2.1.a x36.2.2.2.1.len x36.2.2.2.1.cap]]) fun (x37 : Bool) =>
  HM.pure (x37, ())) (
  HM.pure (false, ()))) fun (x38 : Bool × Unit) =>
  HM.pure (x38.1, ())) HM.pure))

theorem law21_AdvertPlays_den (p0 : Slc) (p1 : Int) : denFn Tryd.prog [29, 27, 22, 30, 32, 31, 28, 33, 34] 112 [0, 1, 4, 5, 6, 8, 9, 10, 11, 12, 13, 14, 15, 16, 17, 18, 19, 20, 25, 30, 31, 32, 33, 61, 71, 73, 74, 75, 89] [0, 1, 5, 6, 8, 9, 10, 11, 12, 13, 14, 15, 16, 17, 18, 19, 20, 25, 30, 31, 32, 33, 61, 71, 73, 74, 75, 89] Tryd.f9.results.toList [.one .bool] (bodyOf Tryd.f9) [Kind.val (.one .slc) p0, Kind.val (.one (.int .i64)) p1] = law21_AdvertPlays p0 p1 := by kernel_rfl
theorem law21_AdvertPlays_calls (p0 : Slc) (p1 : Int) (h : Heap) (Q : Value → Heap → Prop) (hh : law21_AdvertPlays p0 p1 h fun x h' => Q (.bool x.1) h') :
    HCalls Tryd.prog 9 #[.slice p0.a p0.len p0.cap, .int .i64 p1] h Q := by
  rw [← law21_AdvertPlays_den] at hh
  exact calls_of_den Tryd.func9 (by kernel_rfl) Tryd.ntmps9 (by kernel_rfl) (fun f hf => by
      rcases List.mem_cons.1 hf with rfl | hf
      · exact Tryd.call29
      rcases List.mem_cons.1 hf with rfl | hf
      · exact Tryd.call27
      rcases List.mem_cons.1 hf with rfl | hf
      · exact Tryd.call22
      rcases List.mem_cons.1 hf with rfl | hf
      · exact Tryd.call30
      rcases List.mem_cons.1 hf with rfl | hf
      · exact Tryd.call32
      rcases List.mem_cons.1 hf with rfl | hf
      · exact Tryd.call31
      rcases List.mem_cons.1 hf with rfl | hf
      · exact Tryd.call28
      rcases List.mem_cons.1 hf with rfl | hf
      · exact Tryd.call33
      rcases List.mem_cons.1 hf with rfl | hf
      · exact Tryd.call34
      cases hf) orders hh

/-- aqueduct/aqueductlaw21.AdvertApart -/
def law21_AdvertApart (p0 : Int × Int × Slc × Slc × Unit) : HM (Bool × Unit) :=
  HM.bind (α := Nat) (HM.new (.cells #[.int .i64 p0.1, .int .i64 p0.2.1, .slice p0.2.2.1.a p0.2.2.1.len p0.2.2.1.cap, .slice p0.2.2.2.1.a p0.2.2.2.1.len p0.2.2.2.1.cap] 51)) fun (x1 : Nat) =>
  HM.bind (α := Int × Int × Slc × Slc × Unit) (HM.loadN [.int .i64, .int .i64, .slc, .slc] ⟨x1, 0, none⟩) fun (x2 : Int × Int × Slc × Slc × Unit) =>
  HM.bind (α := (Int × Int × Slc × Slc × Unit) × (Int × Int × Slc × Slc × Unit) × Unit) (HM.callN Tryd.prog [.agg [.int .i64, .int .i64, .slc, .slc], .agg [.int .i64, .int .i64, .slc, .slc]] 22 #[.agg #[.int .i64 x2.1, .int .i64 x2.2.1, .slice x2.2.2.1.a x2.2.2.1.len x2.2.2.1.cap, .slice x2.2.2.2.1.a x2.2.2.2.1.len x2.2.2.2.1.cap]]) fun (x3 : (Int × Int × Slc × Slc × Unit) × (Int × Int × Slc × Slc × Unit) × Unit) =>
  HM.bind (α := Nat) (HM.new (.cells #[.int .i64 0, .int .i64 0, .slice none 0 0, .slice none 0 0] 54)) fun (x4 : Nat) =>
  HM.bind (α := Nat) (HM.new (.cells #[.int .i64 0, .int .i64 0, .slice none 0 0, .slice none 0 0] 57)) fun (x5 : Nat) =>
  HM.bind (α := Unit) (HM.storeN ⟨x4, 0, none⟩ [.int .i64 x3.1.1, .int .i64 x3.1.2.1, .slice x3.1.2.2.1.a x3.1.2.2.1.len x3.1.2.2.1.cap, .slice x3.1.2.2.2.1.a x3.1.2.2.2.1.len x3.1.2.2.2.1.cap]) fun (_ : Unit) =>
  HM.bind (α := Unit) (HM.storeN ⟨x5, 0, none⟩ [.int .i64 x3.2.1.1, .int .i64 x3.2.1.2.1, .slice x3.2.1.2.2.1.a x3.2.1.2.2.1.len x3.2.1.2.2.1.cap, .slice x3.2.1.2.2.2.1.a x3.2.1.2.2.2.1.len x3.2.1.2.2.2.1.cap]) fun (_ : Unit) =>
  HM.bind (α := Int × Int × Slc × Slc × Unit) (HM.loadN [.int .i64, .int .i64, .slc, .slc] ⟨x4, 0, none⟩) fun (x6 : Int × Int × Slc × Slc × Unit) =>
  HM.bind (α := Bool × Int × Unit) (HM.callN Tryd.prog [.one .bool, .one (.int .u8)] 30 #[.pointer none, .agg #[.int .i64 x6.1, .int .i64 x6.2.1, .slice x6.2.2.1.a x6.2.2.1.len x6.2.2.1.cap, .slice x6.2.2.2.1.a x6.2.2.2.1.len x6.2.2.2.1.cap]]) fun (x7 : Bool × Int × Unit) =>
  HM.bind (α := Int) (HM.load1 (.int .i64) (Addr.add ⟨x1, 0, none⟩ 0)) fun (x8 : Int) =>
  HM.bind (α := (Int × Int × Slc × Slc × Unit) × Bool × Unit) (HM.callN Tryd.prog [.agg [.int .i64, .int .i64, .slc, .slc], .one .bool] 33 #[.pointer none, .int .i64 x8]) fun (x9 : (Int × Int × Slc × Slc × Unit) × Bool × Unit) =>
  HM.bind (α := Nat) (HM.new (.cells #[.int .i64 0, .int .i64 0, .slice none 0 0, .slice none 0 0] 54)) fun (x10 : Nat) =>
  HM.bind (α := Unit) (HM.storeN ⟨x10, 0, none⟩ [.int .i64 x9.1.1, .int .i64 x9.1.2.1, .slice x9.1.2.2.1.a x9.1.2.2.1.len x9.1.2.2.1.cap, .slice x9.1.2.2.2.1.a x9.1.2.2.2.1.len x9.1.2.2.2.1.cap]) fun (_ : Unit) =>
  HM.bind (α := Option Addr) (HM.call1 Tryd.prog (.one .ptr) 29 #[]) fun (x11 : Option Addr) =>
  HM.bind (α := Int × Int × Slc × Slc × Unit) (HM.loadN [.int .i64, .int .i64, .slc, .slc] ⟨x4, 0, none⟩) fun (x12 : Int × Int × Slc × Slc × Unit) =>
  HM.bind (α := Bool × Int × Unit) (HM.callN Tryd.prog [.one .bool, .one (.int .u8)] 30 #[.pointer x11, .agg #[.int .i64 x12.1, .int .i64 x12.2.1, .slice x12.2.2.1.a x12.2.2.1.len x12.2.2.1.cap, .slice x12.2.2.2.1.a x12.2.2.2.1.len x12.2.2.2.1.cap]]) fun (x13 : Bool × Int × Unit) =>
  HM.bind (α := Bool × Unit) (HM.bind (α := Bool) (HM.call1 Tryd.prog (.one .bool) 27 #[]) fun (x14 : Bool) =>
  HM.ite (!x14) (
  HM.pure (true, ())) (
  HM.ite (!(x7.2.1 == 128)) (
  HM.pure (true, ())) (
  HM.ite x9.2.1 (
  HM.pure (true, ())) (
  HM.bind (α := Slc) (HM.call1 Tryd.prog (.one .slc) 31 #[.pointer none]) fun (x15 : Slc) =>
  HM.ite (!(((x15.len : Nat) : Int) == 0)) (
  HM.pure (true, ())) (
  HM.pure (!(x13.2.1 == 0), ())))))) fun (x16 : Bool × Unit) =>
  HM.ite x16.1 (
  HM.bind (α := Bool × Unit) (HM.bind (α := Bool) (HM.call1 Tryd.prog (.one .bool) 27 #[]) fun (x17 : Bool) =>
  HM.ite x17 (
  HM.ite (x7.2.1 == 128) (
  HM.ite (!x9.2.1) (
  HM.pure (x13.2.1 == 129, ())) (
  HM.pure (false, ()))) (
  HM.pure (false, ()))) (
  HM.pure (false, ()))) fun (x18 : Bool × Unit) =>
  HM.pure (x18.1, ())) (
  HM.bind (α := Slc) (HM.load1 .slc (Addr.add ⟨x4, 0, none⟩ 2)) fun (x19 : Slc) =>
  HM.bind (α := Int × Unit) (HM.loop (σ := Int × Unit) (τ := Int × Unit) (fun (x21 : Int × Unit) =>
  HM.ite (decide (x21.1 < (((x19.len : Nat) : Int) : Int))) (
  HM.bind (α := Slc) (HM.load1 .slc (Addr.add ⟨x4, 0, none⟩ 2)) fun (x22 : Slc) =>
  HM.bind (α := Addr) (HM.idx x22.a x22.len x21.1 1) fun (x23 : Addr) =>
  HM.bind (α := Unit) (HM.store1 x23 (.string (ByteArray.mk #[122, 122]))) fun (_ : Unit) =>
  HM.pure (.inl (IntKind.wrap .i64 (x21.1 + 1), ()))) (
  HM.pure (.inr (x21.1, ())))) (0, ())) fun (x20 : Int × Unit) =>
  HM.bind (α := Slc) (HM.load1 .slc (Addr.add ⟨x4, 0, none⟩ 3)) fun (x24 : Slc) =>
  HM.bind (α := Int × Unit) (HM.loop (σ := Int × Unit) (τ := Int × Unit) (fun (x26 : Int × Unit) =>
  HM.ite (decide (x26.1 < (((x24.len : Nat) : Int) : Int))) (
  HM.bind (α := Slc) (HM.load1 .slc (Addr.add ⟨x4, 0, none⟩ 3)) fun (x27 : Slc) =>
  HM.bind (α := Addr) (HM.idx x27.a x27.len x26.1 6) fun (x28 : Addr) =>
  HM.bind (α := Int) (HM.load1 (.int .i64) (Addr.add x28 0)) fun (x29 : Int) =>
  HM.bind (α := Addr) (HM.idx x27.a x27.len x26.1 6) fun (x30 : Addr) =>
  HM.bind (α := Unit) (HM.store1 (Addr.add x30 0) (.int .i64 (bitOp .xor .i64 x29 1))) fun (_ : Unit) =>
  HM.pure (.inl (IntKind.wrap .i64 (x26.1 + 1), ()))) (
  HM.pure (.inr (x26.1, ())))) (0, ())) fun (x25 : Int × Unit) =>
  HM.bind (α := Int) (HM.load1 (.int .i64) (Addr.add ⟨x1, 0, none⟩ 0)) fun (x31 : Int) =>
  HM.bind (α := (Int × Int × Slc × Slc × Unit) × Bool × Unit) (HM.callN Tryd.prog [.agg [.int .i64, .int .i64, .slc, .slc], .one .bool] 33 #[.pointer x11, .int .i64 x31]) fun (x32 : (Int × Int × Slc × Slc × Unit) × Bool × Unit) =>
  HM.bind (α := Nat) (HM.new (.cells #[.int .i64 0, .int .i64 0, .slice none 0 0, .slice none 0 0] 54)) fun (x33 : Nat) =>
  HM.bind (α := Unit) (HM.storeN ⟨x33, 0, none⟩ [.int .i64 x32.1.1, .int .i64 x32.1.2.1, .slice x32.1.2.2.1.a x32.1.2.2.1.len x32.1.2.2.1.cap, .slice x32.1.2.2.2.1.a x32.1.2.2.2.1.len x32.1.2.2.2.1.cap]) fun (_ : Unit) =>
  HM.bind (α := Int × Int × Slc × Slc × Unit) (HM.loadN [.int .i64, .int .i64, .slc, .slc] ⟨x33, 0, none⟩) fun (x34 : Int × Int × Slc × Slc × Unit) =>
  HM.bind (α := Int × Int × Slc × Slc × Unit) (HM.loadN [.int .i64, .int .i64, .slc, .slc] ⟨x5, 0, none⟩) fun (x35 : Int × Int × Slc × Slc × Unit) =>
  HM.bind (α := Bool) (HM.call1 Tryd.prog (.one .bool) 28 #[.agg #[.int .i64 x34.1, .int .i64 x34.2.1, .slice x34.2.2.1.a x34.2.2.1.len x34.2.2.1.cap, .slice x34.2.2.2.1.a x34.2.2.2.1.len x34.2.2.2.1.cap], .agg #[.int .i64 x35.1, .int .i64 x35.2.1, .slice x35.2.2.1.a x35.2.2.1.len x35.2.2.1.cap, .slice x35.2.2.2.1.a x35.2.2.2.1.len x35.2.2.2.1.cap]]) fun (x36 : Bool) =>
  HM.ite (!x36) (
  HM.pure (false, ())) (
  HM.bind (α := Slc) (HM.load1 .slc (Addr.add ⟨x33, 0, none⟩ 2)) fun (x37 : Slc) =>
  HM.bind (α := Int × Unit) (HM.loop (σ := Int × Unit) (τ := Int × Unit) (fun (x39 : Int × Unit) =>
  HM.ite (decide (x39.1 < (((x37.len : Nat) : Int) : Int))) (
  HM.bind (α := Slc) (HM.load1 .slc (Addr.add ⟨x33, 0, none⟩ 2)) fun (x40 : Slc) =>
  HM.bind (α := Addr) (HM.idx x40.a x40.len x39.1 1) fun (x41 : Addr) =>
  HM.bind (α := Unit) (HM.store1 x41 (.string (ByteArray.mk #[122, 122]))) fun (_ : Unit) =>
  HM.pure (.inl (IntKind.wrap .i64 (x39.1 + 1), ()))) (
  HM.pure (.inr (x39.1, ())))) (0, ())) fun (x38 : Int × Unit) =>
  HM.bind (α := Slc) (HM.call1 Tryd.prog (.one .slc) 31 #[.pointer x11]) fun (x42 : Slc) =>
  HM.bind (α := Int × Unit) (HM.loop (σ := Int × Unit) (τ := Int × Unit) (fun (x44 : Int × Unit) =>
  HM.ite (decide (x44.1 < (((x42.len : Nat) : Int) : Int))) (
  HM.bind (α := Addr) (HM.idx x42.a x42.len x44.1 4) fun (x45 : Addr) =>
  HM.bind (α := Int × Int × Slc × Slc × Unit) (HM.loadN [.int .i64, .int .i64, .slc, .slc] x45) fun (x46 : Int × Int × Slc × Slc × Unit) =>
  HM.bind (α := Nat) (HM.new (.cells #[.int .i64 0, .int .i64 0, .slice none 0 0, .slice none 0 0] 54)) fun (x47 : Nat) =>
  HM.bind (α := Unit) (HM.storeN ⟨x47, 0, none⟩ [.int .i64 x46.1, .int .i64 x46.2.1, .slice x46.2.2.1.a x46.2.2.1.len x46.2.2.1.cap, .slice x46.2.2.2.1.a x46.2.2.2.1.len x46.2.2.2.1.cap]) fun (_ : Unit) =>
  HM.bind (α := Slc) (HM.load1 .slc (Addr.add ⟨x47, 0, none⟩ 3)) fun (x48 : Slc) =>
  HM.bind (α := Int × Unit) (HM.loop (σ := Int × Unit) (τ := Int × Unit) (fun (x50 : Int × Unit) =>
  HM.ite (decide (x50.1 < (((x48.len : Nat) : Int) : Int))) (
  HM.bind (α := Slc) (HM.load1 .slc (Addr.add ⟨x47, 0, none⟩ 3)) fun (x51 : Slc) =>
  HM.bind (α := Addr) (HM.idx x51.a x51.len x50.1 6) fun (x52 : Addr) =>
  HM.bind (α := Unit) (HM.store1 (Addr.add (Addr.add x52 1) 0) (.string (ByteArray.mk #[122, 122]))) fun (_ : Unit) =>
  HM.pure (.inl (IntKind.wrap .i64 (x50.1 + 1), ()))) (
  HM.pure (.inr (x50.1, ())))) (0, ())) fun (x49 : Int × Unit) =>
  HM.pure (.inl (IntKind.wrap .i64 (x44.1 + 1), ()))) (
  HM.pure (.inr (x44.1, ())))) (0, ())) fun (x43 : Int × Unit) =>
  HM.bind (α := Int) (HM.load1 (.int .i64) (Addr.add ⟨x1, 0, none⟩ 0)) fun (x53 : Int) =>
  HM.bind (α := (Int × Int × Slc × Slc × Unit) × Bool × Unit) (HM.callN Tryd.prog [.agg [.int .i64, .int .i64, .slc, .slc], .one .bool] 33 #[.pointer x11, .int .i64 x53]) fun (x54 : (Int × Int × Slc × Slc × Unit) × Bool × Unit) =>
  HM.bind (α := Nat) (HM.new (.cells #[.int .i64 0, .int .i64 0, .slice none 0 0, .slice none 0 0] 54)) fun (x55 : Nat) =>
  HM.bind (α := Unit) (HM.storeN ⟨x55, 0, none⟩ [.int .i64 x54.1.1, .int .i64 x54.1.2.1, .slice x54.1.2.2.1.a x54.1.2.2.1.len x54.1.2.2.1.cap, .slice x54.1.2.2.2.1.a x54.1.2.2.2.1.len x54.1.2.2.2.1.cap]) fun (_ : Unit) =>
  HM.bind (α := Bool × Unit) (HM.ite x54.2.1 (
  HM.bind (α := Int × Int × Slc × Slc × Unit) (HM.loadN [.int .i64, .int .i64, .slc, .slc] ⟨x55, 0, none⟩) fun (x56 : Int × Int × Slc × Slc × Unit) =>
  HM.bind (α := Int × Int × Slc × Slc × Unit) (HM.loadN [.int .i64, .int .i64, .slc, .slc] ⟨x5, 0, none⟩) fun (x57 : Int × Int × Slc × Slc × Unit) =>
  HM.bind (α := Bool) (HM.call1 Tryd.prog (.one .bool) 28 #[.agg #[.int .i64 x56.1, .int .i64 x56.2.1, .slice x56.2.2.1.a x56.2.2.1.len x56.2.2.1.cap, .slice x56.2.2.2.1.a x56.2.2.2.1.len x56.2.2.2.1.cap], .agg #[.int .i64 x57.1, .int .i64 x57.2.1, .slice x57.2.2.1.a x57.2.2.1.len x57.2.2.1.cap, .slice x57.2.2.2.1.a x57.2.2.2.1.len x57.2.2.2.1.cap]]) fun (x58 : Bool) =>
  HM.pure (x58, ())) (
  HM.pure (false, ()))) fun (x59 : Bool × Unit) =>
  HM.pure (x59.1, ())))

theorem law21_AdvertApart_den (p0 : Int × Int × Slc × Slc × Unit) : denFn Tryd.prog [22, 30, 33, 29, 27, 31, 28] 163 [0, 1, 2, 3, 4, 5, 7, 9, 10, 12, 13, 14, 15, 17, 19, 20, 21, 22, 66, 82, 83, 84, 93, 94, 95, 117, 120, 121, 122, 130, 131, 132, 133, 138, 139, 140] [0, 1, 3, 4, 5, 7, 9, 10, 12, 13, 14, 15, 17, 19, 20, 21, 22, 66, 82, 83, 84, 93, 94, 95, 117, 120, 121, 122, 130, 131, 132, 133, 138, 139, 140] Tryd.f10.results.toList [.one .bool] (bodyOf Tryd.f10) [Kind.val (.agg [.int .i64, .int .i64, .slc, .slc]) p0] = law21_AdvertApart p0 := by kernel_rfl
theorem law21_AdvertApart_calls (p0 : Int × Int × Slc × Slc × Unit) (h : Heap) (Q : Value → Heap → Prop) (hh : law21_AdvertApart p0 h fun x h' => Q (.bool x.1) h') :
    HCalls Tryd.prog 10 #[.agg #[.int .i64 p0.1, .int .i64 p0.2.1, .slice p0.2.2.1.a p0.2.2.1.len p0.2.2.1.cap, .slice p0.2.2.2.1.a p0.2.2.2.1.len p0.2.2.2.1.cap]] h Q := by
  rw [← law21_AdvertApart_den] at hh
  exact calls_of_den Tryd.func10 (by kernel_rfl) Tryd.ntmps10 (by kernel_rfl) (fun f hf => by
      rcases List.mem_cons.1 hf with rfl | hf
      · exact Tryd.call22
      rcases List.mem_cons.1 hf with rfl | hf
      · exact Tryd.call30
      rcases List.mem_cons.1 hf with rfl | hf
      · exact Tryd.call33
      rcases List.mem_cons.1 hf with rfl | hf
      · exact Tryd.call29
      rcases List.mem_cons.1 hf with rfl | hf
      · exact Tryd.call27
      rcases List.mem_cons.1 hf with rfl | hf
      · exact Tryd.call31
      rcases List.mem_cons.1 hf with rfl | hf
      · exact Tryd.call28
      cases hf) orders hh

/-- aqueduct/aqueductlaw23.BridgeDelays -/
def law23_BridgeDelays (p0 : Int) (p1 : Int) (p2 : Int × Int × Unit) : HM (Bool × Unit) :=
  HM.bind (α := Nat) (HM.new (.cells #[.int .u64 p2.1, .int .u64 p2.2.1] 99)) fun (x1 : Nat) =>
  HM.bind (α := Addr) (HM.idx (some ⟨x1, 0, none⟩) 2 0 1) fun (x2 : Addr) =>
  HM.bind (α := Int) (HM.load1 (.int .u64) x2) fun (x3 : Int) =>
  HM.bind (α := Addr) (HM.idx (some ⟨x1, 0, none⟩) 2 1 1) fun (x4 : Addr) =>
  HM.bind (α := Int) (HM.load1 (.int .u64) x4) fun (x5 : Int) =>
  HM.bind (α := Int) (HM.call1 Tryd.prog (.one (.int .i64)) 35 #[.int .i64 p0, .int .i64 p1, .int .i64 (IntKind.wrap .i64 x3), .int .u64 x5]) fun (x6 : Int) =>
  HM.bind (α := Int) (HM.call1 Tryd.prog (.one (.int .i64)) 35 #[.int .i64 p0, .int .i64 p1, .int .i64 (IntKind.wrap .i64 x3), .int .u64 0]) fun (x7 : Int) =>
  HM.bind (α := Int) (HM.call1 Tryd.prog (.one (.int .i64)) 35 #[.int .i64 (IntKind.wrap .i64 ((if 1099511627776 < (p0 : Int) then 1099511627776 else p0) + 1)), .int .i64 p1, .int .i64 (IntKind.wrap .i64 x3), .int .u64 0]) fun (x8 : Int) =>
  HM.bind (α := Bool × Unit) (HM.bind (α := Bool) (HM.call1 Tryd.prog (.one .bool) 36 #[]) fun (x9 : Bool) =>
  HM.ite x9 (
  HM.bind (α := Addr) (HM.idx (some ⟨x1, 0, none⟩) 2 1 1) fun (x10 : Addr) =>
  HM.bind (α := Int) (HM.load1 (.int .u64) x10) fun (x11 : Int) =>
  HM.bind (α := Int) (HM.call1 Tryd.prog (.one (.int .i64)) 37 #[.int .i64 p0, .int .i64 p1, .int .i64 (IntKind.wrap .i64 x3), .int .u64 x11]) fun (x12 : Int) =>
  HM.ite (x6 == x12) (
  HM.ite (decide (1 ≤ (x7 : Int))) (
  HM.ite (decide (x7 ≤ (x6 : Int))) (
  HM.ite (decide (x7 ≤ (x8 : Int))) (
  HM.req (2 ≠ (0 : Int)) <|
  HM.pure (decide (x6 ≤ ((IntKind.wrap .i64 ((if (if 1 < (if 1048576 < (p1 : Int) then 1048576 else p1) then (if 1048576 < (p1 : Int) then 1048576 else p1) else 1 : Int) < (if 1048576 < ((IntKind.wrap .i64 x3) : Int) then 1048576 else (IntKind.wrap .i64 x3)) then (if 1048576 < ((IntKind.wrap .i64 x3) : Int) then 1048576 else (IntKind.wrap .i64 x3)) else (if 1 < (if 1048576 < (p1 : Int) then 1048576 else p1) then (if 1048576 < (p1 : Int) then 1048576 else p1) else 1 : Int)) + (IntKind.wrap .i64 (Int.tdiv (if (if 1 < (if 1048576 < (p1 : Int) then 1048576 else p1) then (if 1048576 < (p1 : Int) then 1048576 else p1) else 1 : Int) < (if 1048576 < ((IntKind.wrap .i64 x3) : Int) then 1048576 else (IntKind.wrap .i64 x3)) then (if 1048576 < ((IntKind.wrap .i64 x3) : Int) then 1048576 else (IntKind.wrap .i64 x3)) else (if 1 < (if 1048576 < (p1 : Int) then 1048576 else p1) then (if 1048576 < (p1 : Int) then 1048576 else p1) else 1 : Int)) 2)))) : Int)), ())) (
  HM.pure (false, ()))) (
  HM.pure (false, ()))) (
  HM.pure (false, ()))) (
  HM.pure (false, ()))) (
  HM.pure (false, ()))) fun (x13 : Bool × Unit) =>
  HM.pure (x13.1, ())

theorem law23_BridgeDelays_den (p0 : Int) (p1 : Int) (p2 : Int × Int × Unit) : denFn Tryd.prog [35, 36, 37] 69 [0, 1, 2, 5, 6, 7, 8, 9, 10, 11] [0, 1, 2, 5, 7, 8, 9, 10, 11] Tryd.f11.results.toList [.one .bool] (bodyOf Tryd.f11) [Kind.val (.one (.int .i64)) p0, Kind.val (.one (.int .i64)) p1, Kind.val (.agg [.int .u64, .int .u64]) p2] = law23_BridgeDelays p0 p1 p2 := by kernel_rfl
theorem law23_BridgeDelays_calls (p0 : Int) (p1 : Int) (p2 : Int × Int × Unit) (h : Heap) (Q : Value → Heap → Prop) (hh : law23_BridgeDelays p0 p1 p2 h fun x h' => Q (.bool x.1) h') :
    HCalls Tryd.prog 11 #[.int .i64 p0, .int .i64 p1, .agg #[.int .u64 p2.1, .int .u64 p2.2.1]] h Q := by
  rw [← law23_BridgeDelays_den] at hh
  exact calls_of_den Tryd.func11 (by kernel_rfl) Tryd.ntmps11 (by kernel_rfl) (fun f hf => by
      rcases List.mem_cons.1 hf with rfl | hf
      · exact Tryd.call35
      rcases List.mem_cons.1 hf with rfl | hf
      · exact Tryd.call36
      rcases List.mem_cons.1 hf with rfl | hf
      · exact Tryd.call37
      cases hf) orders hh

/-- aqueduct/aqueductlaw21.made -/
def law21_made (p0 : Int × Int × Slc × Slc × Unit) : HM ((Int × Int × Slc × Slc × Unit) × (Int × Int × Slc × Slc × Unit) × Unit) :=
  HM.bind (α := Nat) (HM.new (.cells #[.int .i64 p0.1, .int .i64 p0.2.1, .slice p0.2.2.1.a p0.2.2.1.len p0.2.2.1.cap, .slice p0.2.2.2.1.a p0.2.2.2.1.len p0.2.2.2.1.cap] 51)) fun (x1 : Nat) =>
  HM.bind (α := Nat) (HM.new (.cells #[.int .i64 0, .int .i64 0, .slice none 0 0, .slice none 0 0] 54)) fun (x2 : Nat) =>
  HM.bind (α := Nat) (HM.new (.cells #[.int .i64 0, .int .i64 0, .slice none 0 0, .slice none 0 0] 57)) fun (x3 : Nat) =>
  HM.bind (α := Int) (HM.load1 (.int .i64) (Addr.add ⟨x1, 0, none⟩ 0)) fun (x4 : Int) =>
  HM.bind (α := Int) (HM.load1 (.int .i64) (Addr.add ⟨x1, 0, none⟩ 1)) fun (x5 : Int) =>
  HM.bind (α := Nat) (HM.new (.cells #[.int .i64 0, .int .i64 0, .slice none 0 0, .slice none 0 0] 54)) fun (x6 : Nat) =>
  HM.bind (α := Unit) (HM.storeN ⟨x6, 0, none⟩ [.int .i64 x4, .int .i64 x5, .slice none 0 0, .slice none 0 0]) fun (_ : Unit) =>
  HM.bind (α := Int) (HM.load1 (.int .i64) (Addr.add ⟨x1, 0, none⟩ 0)) fun (x7 : Int) =>
  HM.bind (α := Int) (HM.load1 (.int .i64) (Addr.add ⟨x1, 0, none⟩ 1)) fun (x8 : Int) =>
  HM.bind (α := Nat) (HM.new (.cells #[.int .i64 0, .int .i64 0, .slice none 0 0, .slice none 0 0] 57)) fun (x9 : Nat) =>
  HM.bind (α := Unit) (HM.storeN ⟨x9, 0, none⟩ [.int .i64 x7, .int .i64 x8, .slice none 0 0, .slice none 0 0]) fun (_ : Unit) =>
  HM.bind (α := Slc) (HM.load1 .slc (Addr.add ⟨x1, 0, none⟩ 2)) fun (x10 : Slc) =>
  HM.bind (α := Slc) (HM.load1 .slc (Addr.add ⟨x1, 0, none⟩ 2)) fun (x11 : Slc) =>
  HM.bind (α := Slc) (HM.slice x10 none (some (if 70 < (((x11.len : Nat) : Int) : Int) then 70 else ((x11.len : Nat) : Int))) none 1) fun (x12 : Slc) =>
  HM.bind (α := Int × Unit) (HM.loop (σ := Int × Unit) (τ := Int × Unit) (fun (x14 : Int × Unit) =>
  HM.ite (decide (x14.1 < (((x12.len : Nat) : Int) : Int))) (
  HM.bind (α := Addr) (HM.idx x12.a x12.len x14.1 1) fun (x15 : Addr) =>
  HM.bind (α := ByteArray) (HM.load1 .str x15) fun (x16 : ByteArray) =>
  HM.bind (α := Slc) (HM.load1 .slc (Addr.add ⟨x6, 0, none⟩ 2)) fun (x17 : Slc) =>
  HM.bind (α := Slc) (HM.load1 .slc (Addr.add ⟨x9, 0, none⟩ 2)) fun (x18 : Slc) =>
  HM.both (
  HM.bind (α := Nat) (HM.new (.cells #[.string x16] 9)) fun (x19 : Nat) =>
  HM.bind (α := Slc) (HM.load1 .slc (Addr.add ⟨x9, 0, none⟩ 2)) fun (x20 : Slc) =>
  HM.req ((.slice x20.a x20.len x20.cap : Value) = .slice x18.a x18.len x18.cap) <|
  HM.bind (α := Slc) (HM.load1 .slc (Addr.add ⟨x6, 0, none⟩ 2)) fun (x21 : Slc) =>
  HM.req ((.slice x21.a x21.len x21.cap : Value) = .slice x17.a x17.len x17.cap) <|
  HM.both (
  HM.bind (α := Slc) (HM.append 9 1 16 #[.string (ByteArray.mk #[])] x17 1 (srcSlc 1 (⟨some ⟨x19, 0, none⟩, 1, 1⟩))) fun (x22 : Slc) =>
  HM.bind (α := Slc) (HM.load1 .slc (Addr.add ⟨x9, 0, none⟩ 2)) fun (x23 : Slc) =>
  HM.req ((.slice x23.a x23.len x23.cap : Value) = .slice x18.a x18.len x18.cap) <|
  HM.bind (α := Nat) (HM.new (.cells #[.string x16] 9)) fun (x24 : Nat) =>
  HM.bind (α := Slc) (HM.load1 .slc (Addr.add ⟨x9, 0, none⟩ 2)) fun (x25 : Slc) =>
  HM.req ((.slice x25.a x25.len x25.cap : Value) = .slice x18.a x18.len x18.cap) <|
  HM.bind (α := Slc) (HM.load1 .slc (Addr.add ⟨x6, 0, none⟩ 2)) fun (x26 : Slc) =>
  HM.req ((.slice x26.a x26.len x26.cap : Value) = .slice x17.a x17.len x17.cap) <|
  HM.bind (α := Slc) (HM.append 9 1 16 #[.string (ByteArray.mk #[])] x18 1 (srcSlc 1 (⟨some ⟨x24, 0, none⟩, 1, 1⟩))) fun (x27 : Slc) =>
  HM.bind (α := Unit) (HM.store1 (Addr.add ⟨x6, 0, none⟩ 2) (.slice x22.a x22.len x22.cap)) fun (_ : Unit) =>
  HM.bind (α := Unit) (HM.store1 (Addr.add ⟨x9, 0, none⟩ 2) (.slice x27.a x27.len x27.cap)) fun (_ : Unit) =>
  HM.pure (.inl (IntKind.wrap .i64 (x14.1 + 1), ()))) (
  HM.bind (α := Nat) (HM.new (.cells #[.string x16] 9)) fun (x28 : Nat) =>
  HM.bind (α := Slc) (HM.load1 .slc (Addr.add ⟨x9, 0, none⟩ 2)) fun (x29 : Slc) =>
  HM.req ((.slice x29.a x29.len x29.cap : Value) = .slice x18.a x18.len x18.cap) <|
  HM.bind (α := Slc) (HM.load1 .slc (Addr.add ⟨x6, 0, none⟩ 2)) fun (x30 : Slc) =>
  HM.req ((.slice x30.a x30.len x30.cap : Value) = .slice x17.a x17.len x17.cap) <|
  HM.bind (α := Slc) (HM.append 9 1 16 #[.string (ByteArray.mk #[])] x17 1 (srcSlc 1 (⟨some ⟨x19, 0, none⟩, 1, 1⟩))) fun (x31 : Slc) =>
  HM.bind (α := Slc) (HM.load1 .slc (Addr.add ⟨x9, 0, none⟩ 2)) fun (x32 : Slc) =>
  HM.req ((.slice x32.a x32.len x32.cap : Value) = .slice x18.a x18.len x18.cap) <|
  HM.bind (α := Slc) (HM.append 9 1 16 #[.string (ByteArray.mk #[])] x18 1 (srcSlc 1 (⟨some ⟨x28, 0, none⟩, 1, 1⟩))) fun (x33 : Slc) =>
  HM.bind (α := Unit) (HM.store1 (Addr.add ⟨x6, 0, none⟩ 2) (.slice x31.a x31.len x31.cap)) fun (_ : Unit) =>
  HM.bind (α := Unit) (HM.store1 (Addr.add ⟨x9, 0, none⟩ 2) (.slice x33.a x33.len x33.cap)) fun (_ : Unit) =>
  HM.pure (.inl (IntKind.wrap .i64 (x14.1 + 1), ())))) (
  HM.bind (α := Nat) (HM.new (.cells #[.string x16] 9)) fun (x34 : Nat) =>
  HM.bind (α := Slc) (HM.load1 .slc (Addr.add ⟨x9, 0, none⟩ 2)) fun (x35 : Slc) =>
  HM.req ((.slice x35.a x35.len x35.cap : Value) = .slice x18.a x18.len x18.cap) <|
  HM.bind (α := Slc) (HM.load1 .slc (Addr.add ⟨x6, 0, none⟩ 2)) fun (x36 : Slc) =>
  HM.req ((.slice x36.a x36.len x36.cap : Value) = .slice x17.a x17.len x17.cap) <|
  HM.bind (α := Nat) (HM.new (.cells #[.string x16] 9)) fun (x37 : Nat) =>
  HM.bind (α := Slc) (HM.load1 .slc (Addr.add ⟨x9, 0, none⟩ 2)) fun (x38 : Slc) =>
  HM.req ((.slice x38.a x38.len x38.cap : Value) = .slice x18.a x18.len x18.cap) <|
  HM.bind (α := Slc) (HM.load1 .slc (Addr.add ⟨x6, 0, none⟩ 2)) fun (x39 : Slc) =>
  HM.req ((.slice x39.a x39.len x39.cap : Value) = .slice x17.a x17.len x17.cap) <|
  HM.bind (α := Slc) (HM.append 9 1 16 #[.string (ByteArray.mk #[])] x17 1 (srcSlc 1 (⟨some ⟨x37, 0, none⟩, 1, 1⟩))) fun (x40 : Slc) =>
  HM.bind (α := Slc) (HM.load1 .slc (Addr.add ⟨x9, 0, none⟩ 2)) fun (x41 : Slc) =>
  HM.req ((.slice x41.a x41.len x41.cap : Value) = .slice x18.a x18.len x18.cap) <|
  HM.bind (α := Slc) (HM.append 9 1 16 #[.string (ByteArray.mk #[])] x18 1 (srcSlc 1 (⟨some ⟨x34, 0, none⟩, 1, 1⟩))) fun (x42 : Slc) =>
  HM.bind (α := Unit) (HM.store1 (Addr.add ⟨x6, 0, none⟩ 2) (.slice x40.a x40.len x40.cap)) fun (_ : Unit) =>
  HM.bind (α := Unit) (HM.store1 (Addr.add ⟨x9, 0, none⟩ 2) (.slice x42.a x42.len x42.cap)) fun (_ : Unit) =>
  HM.pure (.inl (IntKind.wrap .i64 (x14.1 + 1), ())))) (
  HM.pure (.inr (x14.1, ())))) (0, ())) fun (x13 : Int × Unit) =>
  HM.bind (α := Slc) (HM.load1 .slc (Addr.add ⟨x1, 0, none⟩ 3)) fun (x43 : Slc) =>
  HM.bind (α := Slc) (HM.load1 .slc (Addr.add ⟨x1, 0, none⟩ 3)) fun (x44 : Slc) =>
  HM.bind (α := Slc) (HM.slice x43 none (some (if 20 < (((x44.len : Nat) : Int) : Int) then 20 else ((x44.len : Nat) : Int))) none 6) fun (x45 : Slc) =>
  HM.bind (α := Int × Unit) (HM.loop (σ := Int × Unit) (τ := Int × Unit) (fun (x47 : Int × Unit) =>
  HM.ite (decide (x47.1 < (((x45.len : Nat) : Int) : Int))) (
  HM.bind (α := Addr) (HM.idx x45.a x45.len x47.1 6) fun (x48 : Addr) =>
  HM.bind (α := Int × ByteArray × Int × Int × ByteArray × ByteArray × Unit) (HM.loadN [.int .i64, .str, .int .i64, .int .i64, .str, .str] x48) fun (x49 : Int × ByteArray × Int × Int × ByteArray × ByteArray × Unit) =>
  HM.bind (α := Nat) (HM.new (.cells #[.int .i64 0, .string (ByteArray.mk #[]), .int .i64 0, .int .i64 0, .string (ByteArray.mk #[]), .string (ByteArray.mk #[])] 119)) fun (x50 : Nat) =>
  HM.bind (α := Unit) (HM.storeN ⟨x50, 0, none⟩ [.int .i64 x49.1, .string x49.2.1, .int .i64 x49.2.2.1, .int .i64 x49.2.2.2.1, .string x49.2.2.2.2.1, .string x49.2.2.2.2.2.1]) fun (_ : Unit) =>
  HM.bind (α := ByteArray × Int × Int × ByteArray × ByteArray × Unit) (HM.loadN [.str, .int .i64, .int .i64, .str, .str] (Addr.add ⟨x50, 0, none⟩ 1)) fun (x51 : ByteArray × Int × Int × ByteArray × ByteArray × Unit) =>
  HM.bind (α := (ByteArray × Int × Int × ByteArray × ByteArray × Unit) × (ByteArray × Int × Int × ByteArray × ByteArray × Unit) × Unit) (HM.callN Tryd.prog [.agg [.str, .int .i64, .int .i64, .str, .str], .agg [.str, .int .i64, .int .i64, .str, .str]] 48 #[.agg #[.string x51.1, .int .i64 x51.2.1, .int .i64 x51.2.2.1, .string x51.2.2.2.1, .string x51.2.2.2.2.1]]) fun (x52 : (ByteArray × Int × Int × ByteArray × ByteArray × Unit) × (ByteArray × Int × Int × ByteArray × ByteArray × Unit) × Unit) =>
  HM.bind (α := Nat) (HM.new (.cells #[.string (ByteArray.mk #[]), .int .i64 0, .int .i64 0, .string (ByteArray.mk #[]), .string (ByteArray.mk #[])] 94)) fun (x53 : Nat) =>
  HM.bind (α := Nat) (HM.new (.cells #[.string (ByteArray.mk #[]), .int .i64 0, .int .i64 0, .string (ByteArray.mk #[]), .string (ByteArray.mk #[])] 120)) fun (x54 : Nat) =>
  HM.bind (α := Unit) (HM.storeN ⟨x53, 0, none⟩ [.string x52.1.1, .int .i64 x52.1.2.1, .int .i64 x52.1.2.2.1, .string x52.1.2.2.2.1, .string x52.1.2.2.2.2.1]) fun (_ : Unit) =>
  HM.bind (α := Unit) (HM.storeN ⟨x54, 0, none⟩ [.string x52.2.1.1, .int .i64 x52.2.1.2.1, .int .i64 x52.2.1.2.2.1, .string x52.2.1.2.2.2.1, .string x52.2.1.2.2.2.2.1]) fun (_ : Unit) =>
  HM.bind (α := Slc) (HM.load1 .slc (Addr.add ⟨x6, 0, none⟩ 3)) fun (x55 : Slc) =>
  HM.bind (α := Int) (HM.load1 (.int .i64) (Addr.add ⟨x50, 0, none⟩ 0)) fun (x56 : Int) =>
  HM.bind (α := ByteArray × Int × Int × ByteArray × ByteArray × Unit) (HM.loadN [.str, .int .i64, .int .i64, .str, .str] ⟨x53, 0, none⟩) fun (x57 : ByteArray × Int × Int × ByteArray × ByteArray × Unit) =>
  HM.bind (α := Slc) (HM.load1 .slc (Addr.add ⟨x9, 0, none⟩ 3)) fun (x58 : Slc) =>
  HM.bind (α := Int) (HM.load1 (.int .i64) (Addr.add ⟨x50, 0, none⟩ 0)) fun (x59 : Int) =>
  HM.bind (α := ByteArray × Int × Int × ByteArray × ByteArray × Unit) (HM.loadN [.str, .int .i64, .int .i64, .str, .str] ⟨x54, 0, none⟩) fun (x60 : ByteArray × Int × Int × ByteArray × ByteArray × Unit) =>
  HM.both (
  HM.bind (α := Nat) (HM.new (.cells #[.int .i64 x56, .string x57.1, .int .i64 x57.2.1, .int .i64 x57.2.2.1, .string x57.2.2.2.1, .string x57.2.2.2.2.1] 96)) fun (x61 : Nat) =>
  HM.bind (α := ByteArray × Int × Int × ByteArray × ByteArray × Unit) (HM.loadN [.str, .int .i64, .int .i64, .str, .str] ⟨x54, 0, none⟩) fun (x62 : ByteArray × Int × Int × ByteArray × ByteArray × Unit) =>
  HM.req ((.agg #[.string x62.1, .int .i64 x62.2.1, .int .i64 x62.2.2.1, .string x62.2.2.2.1, .string x62.2.2.2.2.1] : Value) = .agg #[.string x60.1, .int .i64 x60.2.1, .int .i64 x60.2.2.1, .string x60.2.2.2.1, .string x60.2.2.2.2.1]) <|
  HM.bind (α := Int) (HM.load1 (.int .i64) (Addr.add ⟨x50, 0, none⟩ 0)) fun (x63 : Int) =>
  HM.req ((.int .i64 x63 : Value) = .int .i64 x59) <|
  HM.bind (α := Slc) (HM.load1 .slc (Addr.add ⟨x9, 0, none⟩ 3)) fun (x64 : Slc) =>
  HM.req ((.slice x64.a x64.len x64.cap : Value) = .slice x58.a x58.len x58.cap) <|
  HM.bind (α := Slc) (HM.load1 .slc (Addr.add ⟨x6, 0, none⟩ 3)) fun (x65 : Slc) =>
  HM.req ((.slice x65.a x65.len x65.cap : Value) = .slice x55.a x55.len x55.cap) <|
  HM.both (
  HM.bind (α := Slc) (HM.append 96 6 72 #[.int .i64 0, .string (ByteArray.mk #[]), .int .i64 0, .int .i64 0, .string (ByteArray.mk #[]), .string (ByteArray.mk #[])] x55 1 (srcSlc 6 (⟨some ⟨x61, 0, none⟩, 1, 1⟩))) fun (x66 : Slc) =>
  HM.bind (α := ByteArray × Int × Int × ByteArray × ByteArray × Unit) (HM.loadN [.str, .int .i64, .int .i64, .str, .str] ⟨x54, 0, none⟩) fun (x67 : ByteArray × Int × Int × ByteArray × ByteArray × Unit) =>
  HM.req ((.agg #[.string x67.1, .int .i64 x67.2.1, .int .i64 x67.2.2.1, .string x67.2.2.2.1, .string x67.2.2.2.2.1] : Value) = .agg #[.string x60.1, .int .i64 x60.2.1, .int .i64 x60.2.2.1, .string x60.2.2.2.1, .string x60.2.2.2.2.1]) <|
  HM.bind (α := Int) (HM.load1 (.int .i64) (Addr.add ⟨x50, 0, none⟩ 0)) fun (x68 : Int) =>
  HM.req ((.int .i64 x68 : Value) = .int .i64 x59) <|
  HM.bind (α := Slc) (HM.load1 .slc (Addr.add ⟨x9, 0, none⟩ 3)) fun (x69 : Slc) =>
  HM.req ((.slice x69.a x69.len x69.cap : Value) = .slice x58.a x58.len x58.cap) <|
  HM.bind (α := Nat) (HM.new (.cells #[.int .i64 x59, .string x60.1, .int .i64 x60.2.1, .int .i64 x60.2.2.1, .string x60.2.2.2.1, .string x60.2.2.2.2.1] 124)) fun (x70 : Nat) =>
  HM.bind (α := Slc) (HM.load1 .slc (Addr.add ⟨x9, 0, none⟩ 3)) fun (x71 : Slc) =>
  HM.req ((.slice x71.a x71.len x71.cap : Value) = .slice x58.a x58.len x58.cap) <|
  HM.bind (α := ByteArray × Int × Int × ByteArray × ByteArray × Unit) (HM.loadN [.str, .int .i64, .int .i64, .str, .str] ⟨x53, 0, none⟩) fun (x72 : ByteArray × Int × Int × ByteArray × ByteArray × Unit) =>
  HM.req ((.agg #[.string x72.1, .int .i64 x72.2.1, .int .i64 x72.2.2.1, .string x72.2.2.2.1, .string x72.2.2.2.2.1] : Value) = .agg #[.string x57.1, .int .i64 x57.2.1, .int .i64 x57.2.2.1, .string x57.2.2.2.1, .string x57.2.2.2.2.1]) <|
  HM.bind (α := Int) (HM.load1 (.int .i64) (Addr.add ⟨x50, 0, none⟩ 0)) fun (x73 : Int) =>
  HM.req ((.int .i64 x73 : Value) = .int .i64 x56) <|
  HM.bind (α := Slc) (HM.load1 .slc (Addr.add ⟨x6, 0, none⟩ 3)) fun (x74 : Slc) =>
  HM.req ((.slice x74.a x74.len x74.cap : Value) = .slice x55.a x55.len x55.cap) <|
  HM.bind (α := Slc) (HM.append 124 6 72 #[.int .i64 0, .string (ByteArray.mk #[]), .int .i64 0, .int .i64 0, .string (ByteArray.mk #[]), .string (ByteArray.mk #[])] x58 1 (srcSlc 6 (⟨some ⟨x70, 0, none⟩, 1, 1⟩))) fun (x75 : Slc) =>
  HM.bind (α := Unit) (HM.store1 (Addr.add ⟨x6, 0, none⟩ 3) (.slice x66.a x66.len x66.cap)) fun (_ : Unit) =>
  HM.bind (α := Unit) (HM.store1 (Addr.add ⟨x9, 0, none⟩ 3) (.slice x75.a x75.len x75.cap)) fun (_ : Unit) =>
  HM.pure (.inl (IntKind.wrap .i64 (x47.1 + 1), ()))) (
  HM.bind (α := Nat) (HM.new (.cells #[.int .i64 x59, .string x60.1, .int .i64 x60.2.1, .int .i64 x60.2.2.1, .string x60.2.2.2.1, .string x60.2.2.2.2.1] 124)) fun (x76 : Nat) =>
  HM.bind (α := Slc) (HM.load1 .slc (Addr.add ⟨x9, 0, none⟩ 3)) fun (x77 : Slc) =>
  HM.req ((.slice x77.a x77.len x77.cap : Value) = .slice x58.a x58.len x58.cap) <|
  HM.bind (α := ByteArray × Int × Int × ByteArray × ByteArray × Unit) (HM.loadN [.str, .int .i64, .int .i64, .str, .str] ⟨x53, 0, none⟩) fun (x78 : ByteArray × Int × Int × ByteArray × ByteArray × Unit) =>
  HM.req ((.agg #[.string x78.1, .int .i64 x78.2.1, .int .i64 x78.2.2.1, .string x78.2.2.2.1, .string x78.2.2.2.2.1] : Value) = .agg #[.string x57.1, .int .i64 x57.2.1, .int .i64 x57.2.2.1, .string x57.2.2.2.1, .string x57.2.2.2.2.1]) <|
  HM.bind (α := Int) (HM.load1 (.int .i64) (Addr.add ⟨x50, 0, none⟩ 0)) fun (x79 : Int) =>
  HM.req ((.int .i64 x79 : Value) = .int .i64 x56) <|
  HM.bind (α := Slc) (HM.load1 .slc (Addr.add ⟨x6, 0, none⟩ 3)) fun (x80 : Slc) =>
  HM.req ((.slice x80.a x80.len x80.cap : Value) = .slice x55.a x55.len x55.cap) <|
  HM.bind (α := Slc) (HM.append 96 6 72 #[.int .i64 0, .string (ByteArray.mk #[]), .int .i64 0, .int .i64 0, .string (ByteArray.mk #[]), .string (ByteArray.mk #[])] x55 1 (srcSlc 6 (⟨some ⟨x61, 0, none⟩, 1, 1⟩))) fun (x81 : Slc) =>
  HM.bind (α := ByteArray × Int × Int × ByteArray × ByteArray × Unit) (HM.loadN [.str, .int .i64, .int .i64, .str, .str] ⟨x54, 0, none⟩) fun (x82 : ByteArray × Int × Int × ByteArray × ByteArray × Unit) =>
  HM.req ((.agg #[.string x82.1, .int .i64 x82.2.1, .int .i64 x82.2.2.1, .string x82.2.2.2.1, .string x82.2.2.2.2.1] : Value) = .agg #[.string x60.1, .int .i64 x60.2.1, .int .i64 x60.2.2.1, .string x60.2.2.2.1, .string x60.2.2.2.2.1]) <|
  HM.bind (α := Int) (HM.load1 (.int .i64) (Addr.add ⟨x50, 0, none⟩ 0)) fun (x83 : Int) =>
  HM.req ((.int .i64 x83 : Value) = .int .i64 x59) <|
  HM.bind (α := Slc) (HM.load1 .slc (Addr.add ⟨x9, 0, none⟩ 3)) fun (x84 : Slc) =>
  HM.req ((.slice x84.a x84.len x84.cap : Value) = .slice x58.a x58.len x58.cap) <|
  HM.bind (α := Slc) (HM.append 124 6 72 #[.int .i64 0, .string (ByteArray.mk #[]), .int .i64 0, .int .i64 0, .string (ByteArray.mk #[]), .string (ByteArray.mk #[])] x58 1 (srcSlc 6 (⟨some ⟨x76, 0, none⟩, 1, 1⟩))) fun (x85 : Slc) =>
  HM.bind (α := Unit) (HM.store1 (Addr.add ⟨x6, 0, none⟩ 3) (.slice x81.a x81.len x81.cap)) fun (_ : Unit) =>
  HM.bind (α := Unit) (HM.store1 (Addr.add ⟨x9, 0, none⟩ 3) (.slice x85.a x85.len x85.cap)) fun (_ : Unit) =>
  HM.pure (.inl (IntKind.wrap .i64 (x47.1 + 1), ())))) (
  HM.bind (α := Nat) (HM.new (.cells #[.int .i64 x59, .string x60.1, .int .i64 x60.2.1, .int .i64 x60.2.2.1, .string x60.2.2.2.1, .string x60.2.2.2.2.1] 124)) fun (x86 : Nat) =>
  HM.bind (α := Slc) (HM.load1 .slc (Addr.add ⟨x9, 0, none⟩ 3)) fun (x87 : Slc) =>
  HM.req ((.slice x87.a x87.len x87.cap : Value) = .slice x58.a x58.len x58.cap) <|
  HM.bind (α := ByteArray × Int × Int × ByteArray × ByteArray × Unit) (HM.loadN [.str, .int .i64, .int .i64, .str, .str] ⟨x53, 0, none⟩) fun (x88 : ByteArray × Int × Int × ByteArray × ByteArray × Unit) =>
  HM.req ((.agg #[.string x88.1, .int .i64 x88.2.1, .int .i64 x88.2.2.1, .string x88.2.2.2.1, .string x88.2.2.2.2.1] : Value) = .agg #[.string x57.1, .int .i64 x57.2.1, .int .i64 x57.2.2.1, .string x57.2.2.2.1, .string x57.2.2.2.2.1]) <|
  HM.bind (α := Int) (HM.load1 (.int .i64) (Addr.add ⟨x50, 0, none⟩ 0)) fun (x89 : Int) =>
  HM.req ((.int .i64 x89 : Value) = .int .i64 x56) <|
  HM.bind (α := Slc) (HM.load1 .slc (Addr.add ⟨x6, 0, none⟩ 3)) fun (x90 : Slc) =>
  HM.req ((.slice x90.a x90.len x90.cap : Value) = .slice x55.a x55.len x55.cap) <|
  HM.bind (α := Nat) (HM.new (.cells #[.int .i64 x56, .string x57.1, .int .i64 x57.2.1, .int .i64 x57.2.2.1, .string x57.2.2.2.1, .string x57.2.2.2.2.1] 96)) fun (x91 : Nat) =>
  HM.bind (α := ByteArray × Int × Int × ByteArray × ByteArray × Unit) (HM.loadN [.str, .int .i64, .int .i64, .str, .str] ⟨x54, 0, none⟩) fun (x92 : ByteArray × Int × Int × ByteArray × ByteArray × Unit) =>
  HM.req ((.agg #[.string x92.1, .int .i64 x92.2.1, .int .i64 x92.2.2.1, .string x92.2.2.2.1, .string x92.2.2.2.2.1] : Value) = .agg #[.string x60.1, .int .i64 x60.2.1, .int .i64 x60.2.2.1, .string x60.2.2.2.1, .string x60.2.2.2.2.1]) <|
  HM.bind (α := Int) (HM.load1 (.int .i64) (Addr.add ⟨x50, 0, none⟩ 0)) fun (x93 : Int) =>
  HM.req ((.int .i64 x93 : Value) = .int .i64 x59) <|
  HM.bind (α := Slc) (HM.load1 .slc (Addr.add ⟨x9, 0, none⟩ 3)) fun (x94 : Slc) =>
  HM.req ((.slice x94.a x94.len x94.cap : Value) = .slice x58.a x58.len x58.cap) <|
  HM.bind (α := Slc) (HM.load1 .slc (Addr.add ⟨x6, 0, none⟩ 3)) fun (x95 : Slc) =>
  HM.req ((.slice x95.a x95.len x95.cap : Value) = .slice x55.a x55.len x55.cap) <|
  HM.bind (α := Slc) (HM.append 96 6 72 #[.int .i64 0, .string (ByteArray.mk #[]), .int .i64 0, .int .i64 0, .string (ByteArray.mk #[]), .string (ByteArray.mk #[])] x55 1 (srcSlc 6 (⟨some ⟨x91, 0, none⟩, 1, 1⟩))) fun (x96 : Slc) =>
  HM.bind (α := ByteArray × Int × Int × ByteArray × ByteArray × Unit) (HM.loadN [.str, .int .i64, .int .i64, .str, .str] ⟨x54, 0, none⟩) fun (x97 : ByteArray × Int × Int × ByteArray × ByteArray × Unit) =>
  HM.req ((.agg #[.string x97.1, .int .i64 x97.2.1, .int .i64 x97.2.2.1, .string x97.2.2.2.1, .string x97.2.2.2.2.1] : Value) = .agg #[.string x60.1, .int .i64 x60.2.1, .int .i64 x60.2.2.1, .string x60.2.2.2.1, .string x60.2.2.2.2.1]) <|
  HM.bind (α := Int) (HM.load1 (.int .i64) (Addr.add ⟨x50, 0, none⟩ 0)) fun (x98 : Int) =>
  HM.req ((.int .i64 x98 : Value) = .int .i64 x59) <|
  HM.bind (α := Slc) (HM.load1 .slc (Addr.add ⟨x9, 0, none⟩ 3)) fun (x99 : Slc) =>
  HM.req ((.slice x99.a x99.len x99.cap : Value) = .slice x58.a x58.len x58.cap) <|
  HM.bind (α := Slc) (HM.append 124 6 72 #[.int .i64 0, .string (ByteArray.mk #[]), .int .i64 0, .int .i64 0, .string (ByteArray.mk #[]), .string (ByteArray.mk #[])] x58 1 (srcSlc 6 (⟨some ⟨x86, 0, none⟩, 1, 1⟩))) fun (x100 : Slc) =>
  HM.bind (α := Unit) (HM.store1 (Addr.add ⟨x6, 0, none⟩ 3) (.slice x96.a x96.len x96.cap)) fun (_ : Unit) =>
  HM.bind (α := Unit) (HM.store1 (Addr.add ⟨x9, 0, none⟩ 3) (.slice x100.a x100.len x100.cap)) fun (_ : Unit) =>
  HM.pure (.inl (IntKind.wrap .i64 (x47.1 + 1), ())))) (
  HM.pure (.inr (x47.1, ())))) (0, ())) fun (x46 : Int × Unit) =>
  HM.bind (α := Int × Int × Slc × Slc × Unit) (HM.loadN [.int .i64, .int .i64, .slc, .slc] ⟨x6, 0, none⟩) fun (x101 : Int × Int × Slc × Slc × Unit) =>
  HM.bind (α := Int × Int × Slc × Slc × Unit) (HM.loadN [.int .i64, .int .i64, .slc, .slc] ⟨x9, 0, none⟩) fun (x102 : Int × Int × Slc × Slc × Unit) =>
  HM.bind (α := Unit) (HM.storeN ⟨x2, 0, none⟩ [.int .i64 x101.1, .int .i64 x101.2.1, .slice x101.2.2.1.a x101.2.2.1.len x101.2.2.1.cap, .slice x101.2.2.2.1.a x101.2.2.2.1.len x101.2.2.2.1.cap]) fun (_ : Unit) =>
  HM.bind (α := Int × Int × Slc × Slc × Unit) (HM.loadN [.int .i64, .int .i64, .slc, .slc] ⟨x9, 0, none⟩) fun (x103 : Int × Int × Slc × Slc × Unit) =>
  HM.req ((.agg #[.int .i64 x103.1, .int .i64 x103.2.1, .slice x103.2.2.1.a x103.2.2.1.len x103.2.2.1.cap, .slice x103.2.2.2.1.a x103.2.2.2.1.len x103.2.2.2.1.cap] : Value) = .agg #[.int .i64 x102.1, .int .i64 x102.2.1, .slice x102.2.2.1.a x102.2.2.1.len x102.2.2.1.cap, .slice x102.2.2.2.1.a x102.2.2.2.1.len x102.2.2.2.1.cap]) <|
  HM.bind (α := Unit) (HM.storeN ⟨x3, 0, none⟩ [.int .i64 x102.1, .int .i64 x102.2.1, .slice x102.2.2.1.a x102.2.2.1.len x102.2.2.1.cap, .slice x102.2.2.2.1.a x102.2.2.2.1.len x102.2.2.2.1.cap]) fun (_ : Unit) =>
  HM.bind (α := Int × Int × Slc × Slc × Unit) (HM.loadN [.int .i64, .int .i64, .slc, .slc] ⟨x2, 0, none⟩) fun (x104 : Int × Int × Slc × Slc × Unit) =>
  HM.bind (α := Int × Int × Slc × Slc × Unit) (HM.loadN [.int .i64, .int .i64, .slc, .slc] ⟨x3, 0, none⟩) fun (x105 : Int × Int × Slc × Slc × Unit) =>
  HM.pure ((x104.1, x104.2.1, x104.2.2.1, x104.2.2.2.1, ()), (x105.1, x105.2.1, x105.2.2.1, x105.2.2.2.1, ()), ())

theorem law21_made_den (p0 : Int × Int × Slc × Slc × Unit) : denFn Tryd.prog [48] 86 [0, 1, 2, 3, 4, 5, 7, 9, 10, 11, 28, 29, 30, 31, 53, 54, 55, 56] [0, 1, 2, 3, 4, 5, 7, 9, 10, 11, 28, 29, 30, 31, 53, 54, 55, 56] Tryd.f22.results.toList [.agg [.int .i64, .int .i64, .slc, .slc], .agg [.int .i64, .int .i64, .slc, .slc]] (bodyOf Tryd.f22) [Kind.val (.agg [.int .i64, .int .i64, .slc, .slc]) p0] = law21_made p0 := by kernel_rfl
theorem law21_made_calls (p0 : Int × Int × Slc × Slc × Unit) (h : Heap) (Q : Value → Heap → Prop) (hh : law21_made p0 h fun x h' => Q (.tuple #[.agg #[.int .i64 x.1.1, .int .i64 x.1.2.1, .slice x.1.2.2.1.a x.1.2.2.1.len x.1.2.2.1.cap, .slice x.1.2.2.2.1.a x.1.2.2.2.1.len x.1.2.2.2.1.cap], .agg #[.int .i64 x.2.1.1, .int .i64 x.2.1.2.1, .slice x.2.1.2.2.1.a x.2.1.2.2.1.len x.2.1.2.2.1.cap, .slice x.2.1.2.2.2.1.a x.2.1.2.2.2.1.len x.2.1.2.2.2.1.cap]]) h') :
    HCalls Tryd.prog 22 #[.agg #[.int .i64 p0.1, .int .i64 p0.2.1, .slice p0.2.2.1.a p0.2.2.1.len p0.2.2.1.cap, .slice p0.2.2.2.1.a p0.2.2.2.1.len p0.2.2.2.1.cap]] h Q := by
  rw [← law21_made_den] at hh
  exact calls_of_den Tryd.func22 (by kernel_rfl) Tryd.ntmps22 (by kernel_rfl) (fun f hf => by
      rcases List.mem_cons.1 hf with rfl | hf
      · exact Tryd.call48
      cases hf) orders hh

/-- aqueduct/advert.Put -/
def advert_Put (p0 : Int × Int × Slc × Slc × Unit) : HM (ByteArray × Int × Unit) :=
  HM.bind (α := Nat) (HM.new (.cells #[.int .i64 p0.1, .int .i64 p0.2.1, .slice p0.2.2.1.a p0.2.2.1.len p0.2.2.1.cap, .slice p0.2.2.2.1.a p0.2.2.2.1.len p0.2.2.2.1.cap] 54)) fun (x1 : Nat) =>
  HM.bind (α := Int × Int × Slc × Slc × Unit) (HM.loadN [.int .i64, .int .i64, .slc, .slc] ⟨x1, 0, none⟩) fun (x2 : Int × Int × Slc × Slc × Unit) =>
  HM.bind (α := Bool) (HM.call1 Tryd.prog (.one .bool) 49 #[.agg #[.int .i64 x2.1, .int .i64 x2.2.1, .slice x2.2.2.1.a x2.2.2.1.len x2.2.2.1.cap, .slice x2.2.2.2.1.a x2.2.2.2.1.len x2.2.2.2.1.cap]]) fun (x3 : Bool) =>
  HM.ite (!x3) (
  HM.pure (ByteArray.mk #[], 129, ())) (
  HM.bind (α := Nat) (HM.new (.cells #[.pointer none, .slice none 0 0] 128)) fun (x4 : Nat) =>
  HM.bind (α := Int) (HM.load1 (.int .i64) (Addr.add ⟨x1, 0, none⟩ 0)) fun (x5 : Int) =>
  HM.bind (α := Unit) (HM.callVN Tryd.prog [] (.func (.func 50) #[] #[.pointer (some ⟨x4, 0, none⟩)]) #[.int .i64 1, .int .i64 x5]) fun (x6 : Unit) =>
  HM.bind (α := Int) (HM.load1 (.int .i64) (Addr.add ⟨x1, 0, none⟩ 1)) fun (x7 : Int) =>
  HM.req ((0 : Int) ≤ 32) <|
  HM.bind (α := Unit) (HM.callVN Tryd.prog [] (.func (.func 50) #[] #[.pointer (some ⟨x4, 0, none⟩)]) #[.int .i64 4, .int .i64 (Int.fdiv x7 (2 ^ (min (Int.toNat 32) (IntKind.bits .i64))))]) fun (x8 : Unit) =>
  HM.bind (α := Int) (HM.load1 (.int .i64) (Addr.add ⟨x1, 0, none⟩ 1)) fun (x9 : Int) =>
  HM.bind (α := Unit) (HM.callVN Tryd.prog [] (.func (.func 50) #[] #[.pointer (some ⟨x4, 0, none⟩)]) #[.int .i64 4, .int .i64 (bitOp .and .i64 x9 4294967295)]) fun (x10 : Unit) =>
  HM.bind (α := Slc) (HM.load1 .slc (Addr.add ⟨x1, 0, none⟩ 2)) fun (x11 : Slc) =>
  HM.bind (α := Unit) (HM.callVN Tryd.prog [] (.func (.func 50) #[] #[.pointer (some ⟨x4, 0, none⟩)]) #[.int .i64 1, .int .i64 ((x11.len : Nat) : Int)]) fun (x12 : Unit) =>
  HM.bind (α := Slc) (HM.load1 .slc (Addr.add ⟨x1, 0, none⟩ 2)) fun (x13 : Slc) =>
  HM.bind (α := Unit) (HM.callVN Tryd.prog [] (.func (.func 53) #[] #[.pointer (some ⟨x4, 0, none⟩)]) #[.slice x13.a x13.len x13.cap]) fun (x14 : Unit) =>
  HM.bind (α := Slc) (HM.load1 .slc (Addr.add ⟨x1, 0, none⟩ 3)) fun (x15 : Slc) =>
  HM.bind (α := Unit) (HM.callVN Tryd.prog [] (.func (.func 50) #[] #[.pointer (some ⟨x4, 0, none⟩)]) #[.int .i64 1, .int .i64 ((x15.len : Nat) : Int)]) fun (x16 : Unit) =>
  HM.bind (α := Slc) (HM.load1 .slc (Addr.add ⟨x1, 0, none⟩ 3)) fun (x17 : Slc) =>
  HM.bind (α := Int × Unit) (HM.loop (σ := Int × Unit) (τ := Int × Unit) (fun (x19 : Int × Unit) =>
  HM.ite (decide (x19.1 < (((x17.len : Nat) : Int) : Int))) (
  HM.bind (α := Addr) (HM.idx x17.a x17.len x19.1 6) fun (x20 : Addr) =>
  HM.bind (α := Int × ByteArray × Int × Int × ByteArray × ByteArray × Unit) (HM.loadN [.int .i64, .str, .int .i64, .int .i64, .str, .str] x20) fun (x21 : Int × ByteArray × Int × Int × ByteArray × ByteArray × Unit) =>
  HM.bind (α := Nat) (HM.new (.cells #[.int .i64 0, .string (ByteArray.mk #[]), .int .i64 0, .int .i64 0, .string (ByteArray.mk #[]), .string (ByteArray.mk #[])] 96)) fun (x22 : Nat) =>
  HM.bind (α := Unit) (HM.storeN ⟨x22, 0, none⟩ [.int .i64 x21.1, .string x21.2.1, .int .i64 x21.2.2.1, .int .i64 x21.2.2.2.1, .string x21.2.2.2.2.1, .string x21.2.2.2.2.2.1]) fun (_ : Unit) =>
  HM.bind (α := Int) (HM.load1 (.int .i64) (Addr.add ⟨x22, 0, none⟩ 0)) fun (x23 : Int) =>
  HM.bind (α := Unit) (HM.callVN Tryd.prog [] (.func (.func 50) #[] #[.pointer (some ⟨x4, 0, none⟩)]) #[.int .i64 1, .int .i64 x23]) fun (x24 : Unit) =>
  HM.bind (α := Int) (HM.load1 (.int .i64) (Addr.add (Addr.add ⟨x22, 0, none⟩ 1) 1)) fun (x25 : Int) =>
  HM.bind (α := Unit) (HM.callVN Tryd.prog [] (.func (.func 50) #[] #[.pointer (some ⟨x4, 0, none⟩)]) #[.int .i64 1, .int .i64 x25]) fun (x26 : Unit) =>
  HM.bind (α := Int) (HM.load1 (.int .i64) (Addr.add (Addr.add ⟨x22, 0, none⟩ 1) 2)) fun (x27 : Int) =>
  HM.bind (α := Unit) (HM.callVN Tryd.prog [] (.func (.func 50) #[] #[.pointer (some ⟨x4, 0, none⟩)]) #[.int .i64 1, .int .i64 x27]) fun (x28 : Unit) =>
  HM.bind (α := ByteArray) (HM.load1 .str (Addr.add (Addr.add ⟨x22, 0, none⟩ 1) 0)) fun (x29 : ByteArray) =>
  HM.bind (α := ByteArray) (HM.load1 .str (Addr.add (Addr.add ⟨x22, 0, none⟩ 1) 3)) fun (x30 : ByteArray) =>
  HM.bind (α := ByteArray) (HM.load1 .str (Addr.add (Addr.add ⟨x22, 0, none⟩ 1) 4)) fun (x31 : ByteArray) =>
  HM.bind (α := Nat) (HM.new (.cells #[.string x29, .string x30, .string x31] 9)) fun (x32 : Nat) =>
  HM.bind (α := Unit) (HM.callVN Tryd.prog [] (.func (.func 53) #[] #[.pointer (some ⟨x4, 0, none⟩)]) #[.slice (some ⟨x32, 0, none⟩) 3 3]) fun (x33 : Unit) =>
  HM.pure (.inl (IntKind.wrap .i64 (x19.1 + 1), ()))) (
  HM.pure (.inr (x19.1, ())))) (0, ())) fun (x18 : Int × Unit) =>
  HM.bind (α := ByteArray) (HM.call1 Tryd.prog (.one .str) 55 #[.pointer (some ⟨x4, 0, none⟩)]) fun (x34 : ByteArray) =>
  HM.pure (x34, 0, ()))

theorem advert_Put_den (p0 : Int × Int × Slc × Slc × Unit) : denFn Tryd.prog [49, 55] 77 [0, 1, 2, 3, 4, 5, 6, 8, 11, 43, 44, 45, 46] [0, 1, 4, 5, 6, 8, 11, 43, 44, 45, 46] Tryd.f23.results.toList [.one .str, .one (.int .u8)] (bodyOf Tryd.f23) [Kind.val (.agg [.int .i64, .int .i64, .slc, .slc]) p0] = advert_Put p0 := by kernel_rfl
theorem advert_Put_calls (p0 : Int × Int × Slc × Slc × Unit) (h : Heap) (Q : Value → Heap → Prop) (hh : advert_Put p0 h fun x h' => Q (.tuple #[.string x.1, .int .u8 x.2.1]) h') :
    HCalls Tryd.prog 23 #[.agg #[.int .i64 p0.1, .int .i64 p0.2.1, .slice p0.2.2.1.a p0.2.2.1.len p0.2.2.1.cap, .slice p0.2.2.2.1.a p0.2.2.2.1.len p0.2.2.2.1.cap]] h Q := by
  rw [← advert_Put_den] at hh
  exact calls_of_den Tryd.func23 (by kernel_rfl) Tryd.ntmps23 (by kernel_rfl) (fun f hf => by
      rcases List.mem_cons.1 hf with rfl | hf
      · exact Tryd.call49
      rcases List.mem_cons.1 hf with rfl | hf
      · exact Tryd.call55
      cases hf) orders hh

/-- aqueduct/aqueductref21.Put -/
def ref21_Put (p0 : Int × Int × Slc × Slc × Unit) : HM (ByteArray × Int × Unit) :=
  HM.bind (α := Nat) (HM.new (.cells #[.int .i64 p0.1, .int .i64 p0.2.1, .slice p0.2.2.1.a p0.2.2.1.len p0.2.2.1.cap, .slice p0.2.2.2.1.a p0.2.2.2.1.len p0.2.2.2.1.cap] 57)) fun (x1 : Nat) =>
  HM.bind (α := Int × Int × Slc × Slc × Unit) (HM.loadN [.int .i64, .int .i64, .slc, .slc] ⟨x1, 0, none⟩) fun (x2 : Int × Int × Slc × Slc × Unit) =>
  HM.bind (α := Bool) (HM.call1 Tryd.prog (.one .bool) 56 #[.agg #[.int .i64 x2.1, .int .i64 x2.2.1, .slice x2.2.2.1.a x2.2.2.1.len x2.2.2.1.cap, .slice x2.2.2.2.1.a x2.2.2.2.1.len x2.2.2.2.1.cap]]) fun (x3 : Bool) =>
  HM.ite (!x3) (
  HM.pure (ByteArray.mk #[], 129, ())) (
  HM.bind (α := Int) (HM.load1 (.int .i64) (Addr.add ⟨x1, 0, none⟩ 1)) fun (x4 : Int) =>
  HM.req (4294967296 ≠ (0 : Int)) <|
  HM.bind (α := ByteArray) (HM.call1 Tryd.prog (.one .str) 57 #[.int .i64 4, .int .i64 (IntKind.wrap .i64 (Int.tdiv x4 4294967296))]) fun (x5 : ByteArray) =>
  HM.bind (α := Int) (HM.load1 (.int .i64) (Addr.add ⟨x1, 0, none⟩ 1)) fun (x6 : Int) =>
  HM.req (4294967296 ≠ (0 : Int)) <|
  HM.bind (α := ByteArray) (HM.call1 Tryd.prog (.one .str) 57 #[.int .i64 4, .int .i64 (Int.tmod x6 4294967296)]) fun (x7 : ByteArray) =>
  HM.bind (α := Int) (HM.load1 (.int .i64) (Addr.add ⟨x1, 0, none⟩ 0)) fun (x8 : Int) =>
  HM.bind (α := ByteArray) (HM.call1 Tryd.prog (.one .str) 57 #[.int .i64 1, .int .i64 x8]) fun (x9 : ByteArray) =>
  HM.bind (α := Slc) (HM.load1 .slc (Addr.add ⟨x1, 0, none⟩ 2)) fun (x10 : Slc) =>
  HM.bind (α := ByteArray) (HM.call1 Tryd.prog (.one .str) 57 #[.int .i64 1, .int .i64 ((x10.len : Nat) : Int)]) fun (x11 : ByteArray) =>
  HM.req (ByteArray.size x9 + ByteArray.size x5 ≤ 9223372036854775807) <|
  HM.req (ByteArray.size (x9 ++ x5) + ByteArray.size x7 ≤ 9223372036854775807) <|
  HM.req (ByteArray.size ((x9 ++ x5) ++ x7) + ByteArray.size x11 ≤ 9223372036854775807) <|
  HM.bind (α := ByteArray × Int × Unit) (HM.loop (σ := ByteArray × Int × Unit) (τ := ByteArray × Int × Unit) (fun (x13 : ByteArray × Int × Unit) =>
  HM.bind (α := Slc) (HM.load1 .slc (Addr.add ⟨x1, 0, none⟩ 2)) fun (x14 : Slc) =>
  HM.ite (decide (x13.2.1 < (((x14.len : Nat) : Int) : Int))) (
  HM.bind (α := Slc) (HM.load1 .slc (Addr.add ⟨x1, 0, none⟩ 2)) fun (x15 : Slc) =>
  HM.bind (α := Addr) (HM.idx x15.a x15.len x13.2.1 1) fun (x16 : Addr) =>
  HM.bind (α := ByteArray) (HM.load1 .str x16) fun (x17 : ByteArray) =>
  HM.bind (α := ByteArray) (HM.call1 Tryd.prog (.one .str) 58 #[.string x17]) fun (x18 : ByteArray) =>
  HM.req (ByteArray.size x13.1 + ByteArray.size x18 ≤ 9223372036854775807) <|
  HM.pure (.inl (x13.1 ++ x18, IntKind.wrap .i64 (x13.2.1 + 1), ()))) (
  HM.pure (.inr (x13.1, x13.2.1, ())))) (((x9 ++ x5) ++ x7) ++ x11, 0, ())) fun (x12 : ByteArray × Int × Unit) =>
  HM.bind (α := Slc) (HM.load1 .slc (Addr.add ⟨x1, 0, none⟩ 3)) fun (x19 : Slc) =>
  HM.bind (α := ByteArray) (HM.call1 Tryd.prog (.one .str) 57 #[.int .i64 1, .int .i64 ((x19.len : Nat) : Int)]) fun (x20 : ByteArray) =>
  HM.req (ByteArray.size x12.1 + ByteArray.size x20 ≤ 9223372036854775807) <|
  HM.bind (α := ByteArray × Int × Unit) (HM.loop (σ := ByteArray × Int × Unit) (τ := ByteArray × Int × Unit) (fun (x22 : ByteArray × Int × Unit) =>
  HM.bind (α := Slc) (HM.load1 .slc (Addr.add ⟨x1, 0, none⟩ 3)) fun (x23 : Slc) =>
  HM.ite (decide (x22.2.1 < (((x23.len : Nat) : Int) : Int))) (
  HM.bind (α := Slc) (HM.load1 .slc (Addr.add ⟨x1, 0, none⟩ 3)) fun (x24 : Slc) =>
  HM.bind (α := Addr) (HM.idx x24.a x24.len x22.2.1 6) fun (x25 : Addr) =>
  HM.bind (α := Int × ByteArray × Int × Int × ByteArray × ByteArray × Unit) (HM.loadN [.int .i64, .str, .int .i64, .int .i64, .str, .str] x25) fun (x26 : Int × ByteArray × Int × Int × ByteArray × ByteArray × Unit) =>
  HM.bind (α := Nat) (HM.new (.cells #[.int .i64 0, .string (ByteArray.mk #[]), .int .i64 0, .int .i64 0, .string (ByteArray.mk #[]), .string (ByteArray.mk #[])] 124)) fun (x27 : Nat) =>
  HM.bind (α := Unit) (HM.storeN ⟨x27, 0, none⟩ [.int .i64 x26.1, .string x26.2.1, .int .i64 x26.2.2.1, .int .i64 x26.2.2.2.1, .string x26.2.2.2.2.1, .string x26.2.2.2.2.2.1]) fun (_ : Unit) =>
  HM.bind (α := Int) (HM.load1 (.int .i64) (Addr.add ⟨x27, 0, none⟩ 0)) fun (x28 : Int) =>
  HM.bind (α := ByteArray) (HM.call1 Tryd.prog (.one .str) 57 #[.int .i64 1, .int .i64 x28]) fun (x29 : ByteArray) =>
  HM.bind (α := Int) (HM.load1 (.int .i64) (Addr.add (Addr.add ⟨x27, 0, none⟩ 1) 1)) fun (x30 : Int) =>
  HM.bind (α := ByteArray) (HM.call1 Tryd.prog (.one .str) 57 #[.int .i64 1, .int .i64 x30]) fun (x31 : ByteArray) =>
  HM.bind (α := Int) (HM.load1 (.int .i64) (Addr.add (Addr.add ⟨x27, 0, none⟩ 1) 2)) fun (x32 : Int) =>
  HM.bind (α := ByteArray) (HM.call1 Tryd.prog (.one .str) 57 #[.int .i64 1, .int .i64 x32]) fun (x33 : ByteArray) =>
  HM.bind (α := ByteArray) (HM.load1 .str (Addr.add (Addr.add ⟨x27, 0, none⟩ 1) 0)) fun (x34 : ByteArray) =>
  HM.bind (α := ByteArray) (HM.call1 Tryd.prog (.one .str) 58 #[.string x34]) fun (x35 : ByteArray) =>
  HM.bind (α := ByteArray) (HM.load1 .str (Addr.add (Addr.add ⟨x27, 0, none⟩ 1) 3)) fun (x36 : ByteArray) =>
  HM.bind (α := ByteArray) (HM.call1 Tryd.prog (.one .str) 58 #[.string x36]) fun (x37 : ByteArray) =>
  HM.bind (α := ByteArray) (HM.load1 .str (Addr.add (Addr.add ⟨x27, 0, none⟩ 1) 4)) fun (x38 : ByteArray) =>
  HM.bind (α := ByteArray) (HM.call1 Tryd.prog (.one .str) 58 #[.string x38]) fun (x39 : ByteArray) =>
  HM.req (ByteArray.size x22.1 + ByteArray.size x29 ≤ 9223372036854775807) <|
  HM.req (ByteArray.size (x22.1 ++ x29) + ByteArray.size x31 ≤ 9223372036854775807) <|
  HM.req (ByteArray.size ((x22.1 ++ x29) ++ x31) + ByteArray.size x33 ≤ 9223372036854775807) <|
  HM.req (ByteArray.size (((x22.1 ++ x29) ++ x31) ++ x33) + ByteArray.size x35 ≤ 9223372036854775807) <|
  HM.req (ByteArray.size ((((x22.1 ++ x29) ++ x31) ++ x33) ++ x35) + ByteArray.size x37 ≤ 9223372036854775807) <|
  HM.req (ByteArray.size (((((x22.1 ++ x29) ++ x31) ++ x33) ++ x35) ++ x37) + ByteArray.size x39 ≤ 9223372036854775807) <|
  HM.pure (.inl ((((((x22.1 ++ x29) ++ x31) ++ x33) ++ x35) ++ x37) ++ x39, IntKind.wrap .i64 (x22.2.1 + 1), ()))) (
  HM.pure (.inr (x22.1, x22.2.1, ())))) (x12.1 ++ x20, 0, ())) fun (x21 : ByteArray × Int × Unit) =>
  HM.pure (x21.1, 0, ()))

theorem ref21_Put_den (p0 : Int × Int × Slc × Slc × Unit) : denFn Tryd.prog [56, 57, 58] 122 [0, 1, 2, 3, 4, 5, 6, 7, 8, 9, 10, 11, 12, 13, 14, 15, 16, 17, 18, 19, 20, 21, 25, 54, 77] [0, 1, 4, 5, 6, 7, 8, 9, 10, 11, 12, 13, 14, 15, 16, 17, 18, 19, 20, 21, 25, 54, 77] Tryd.f24.results.toList [.one .str, .one (.int .i64)] (bodyOf Tryd.f24) [Kind.val (.agg [.int .i64, .int .i64, .slc, .slc]) p0] = ref21_Put p0 := by kernel_rfl
theorem ref21_Put_calls (p0 : Int × Int × Slc × Slc × Unit) (h : Heap) (Q : Value → Heap → Prop) (hh : ref21_Put p0 h fun x h' => Q (.tuple #[.string x.1, .int .i64 x.2.1]) h') :
    HCalls Tryd.prog 24 #[.agg #[.int .i64 p0.1, .int .i64 p0.2.1, .slice p0.2.2.1.a p0.2.2.1.len p0.2.2.1.cap, .slice p0.2.2.2.1.a p0.2.2.2.1.len p0.2.2.2.1.cap]] h Q := by
  rw [← ref21_Put_den] at hh
  exact calls_of_den Tryd.func24 (by kernel_rfl) Tryd.ntmps24 (by kernel_rfl) (fun f hf => by
      rcases List.mem_cons.1 hf with rfl | hf
      · exact Tryd.call56
      rcases List.mem_cons.1 hf with rfl | hf
      · exact Tryd.call57
      rcases List.mem_cons.1 hf with rfl | hf
      · exact Tryd.call58
      cases hf) orders hh

/-- aqueduct/advert.Get -/
def advert_Get (p0 : ByteArray) : HM ((Int × Int × Slc × Slc × Unit) × Int × Unit) :=
  HM.bind (α := Nat) (HM.new (.cells #[.int .i64 0, .int .i64 0, .slice none 0 0, .slice none 0 0] 54)) fun (x1 : Nat) =>
  HM.bind (α := Nat) (HM.new (.cells #[.string p0, .int .i64 0, .bool false] 144)) fun (x2 : Nat) =>
  HM.bind (α := Int) (HM.call1 Tryd.prog (.one (.int .i64)) 59 #[.pointer (some ⟨x2, 0, none⟩), .int .i64 1]) fun (x3 : Int) =>
  HM.bind (α := Nat) (HM.new (.cells #[.int .i64 0, .int .i64 0, .slice none 0 0, .slice none 0 0] 54)) fun (x4 : Nat) =>
  HM.bind (α := Unit) (HM.storeN ⟨x4, 0, none⟩ [.int .i64 x3, .int .i64 0, .slice none 0 0, .slice none 0 0]) fun (_ : Unit) =>
  HM.bind (α := Int) (HM.call1 Tryd.prog (.one (.int .i64)) 59 #[.pointer (some ⟨x2, 0, none⟩), .int .i64 4]) fun (x5 : Int) =>
  HM.req ((0 : Int) ≤ 32) <|
  HM.bind (α := Int) (HM.call1 Tryd.prog (.one (.int .i64)) 59 #[.pointer (some ⟨x2, 0, none⟩), .int .i64 4]) fun (x6 : Int) =>
  HM.bind (α := Unit) (HM.store1 (Addr.add ⟨x4, 0, none⟩ 1) (.int .i64 (bitOp .or .i64 (IntKind.wrap .i64 (x5 * 2 ^ (min (Int.toNat 32) (IntKind.bits .i64)))) x6))) fun (_ : Unit) =>
  HM.bind (α := Int) (HM.call1 Tryd.prog (.one (.int .i64)) 59 #[.pointer (some ⟨x2, 0, none⟩), .int .i64 1]) fun (x7 : Int) =>
  HM.bind (α := Int × Unit) (HM.loop (σ := Int × Unit) (τ := Int × Unit) (fun (x9 : Int × Unit) =>
  HM.ite (decide (x9.1 < (x7 : Int))) (
  HM.bind (α := Slc) (HM.load1 .slc (Addr.add ⟨x4, 0, none⟩ 2)) fun (x10 : Slc) =>
  HM.bind (α := ByteArray) (HM.call1 Tryd.prog (.one .str) 60 #[.pointer (some ⟨x2, 0, none⟩)]) fun (x11 : ByteArray) =>
  HM.bind (α := Slc) (HM.load1 .slc (Addr.add ⟨x4, 0, none⟩ 2)) fun (x12 : Slc) =>
  HM.req ((.slice x12.a x12.len x12.cap : Value) = .slice x10.a x10.len x10.cap) <|
  HM.bind (α := Nat) (HM.new (.cells #[.string x11] 9)) fun (x13 : Nat) =>
  HM.bind (α := Slc) (HM.load1 .slc (Addr.add ⟨x4, 0, none⟩ 2)) fun (x14 : Slc) =>
  HM.req ((.slice x14.a x14.len x14.cap : Value) = .slice x10.a x10.len x10.cap) <|
  HM.bind (α := Slc) (HM.append 9 1 16 #[.string (ByteArray.mk #[])] x10 1 (srcSlc 1 (⟨some ⟨x13, 0, none⟩, 1, 1⟩))) fun (x15 : Slc) =>
  HM.bind (α := Unit) (HM.store1 (Addr.add ⟨x4, 0, none⟩ 2) (.slice x15.a x15.len x15.cap)) fun (_ : Unit) =>
  HM.pure (.inl (IntKind.wrap .i64 (x9.1 + 1), ()))) (
  HM.pure (.inr (x9.1, ())))) (0, ())) fun (x8 : Int × Unit) =>
  HM.bind (α := Int) (HM.call1 Tryd.prog (.one (.int .i64)) 59 #[.pointer (some ⟨x2, 0, none⟩), .int .i64 1]) fun (x16 : Int) =>
  HM.bind (α := Int × Unit) (HM.loop (σ := Int × Unit) (τ := Int × Unit) (fun (x18 : Int × Unit) =>
  HM.ite (decide (x18.1 < (x16 : Int))) (
  HM.bind (α := Int) (HM.call1 Tryd.prog (.one (.int .i64)) 59 #[.pointer (some ⟨x2, 0, none⟩), .int .i64 1]) fun (x19 : Int) =>
  HM.bind (α := Nat) (HM.new (.cells #[.int .i64 0, .string (ByteArray.mk #[]), .int .i64 0, .int .i64 0, .string (ByteArray.mk #[]), .string (ByteArray.mk #[])] 96)) fun (x20 : Nat) =>
  HM.bind (α := Unit) (HM.storeN ⟨x20, 0, none⟩ [.int .i64 x19, .string (ByteArray.mk #[]), .int .i64 0, .int .i64 0, .string (ByteArray.mk #[]), .string (ByteArray.mk #[])]) fun (_ : Unit) =>
  HM.bind (α := Int) (HM.call1 Tryd.prog (.one (.int .i64)) 59 #[.pointer (some ⟨x2, 0, none⟩), .int .i64 1]) fun (x21 : Int) =>
  HM.bind (α := Unit) (HM.store1 (Addr.add (Addr.add ⟨x20, 0, none⟩ 1) 1) (.int .i64 x21)) fun (_ : Unit) =>
  HM.bind (α := Int) (HM.call1 Tryd.prog (.one (.int .i64)) 59 #[.pointer (some ⟨x2, 0, none⟩), .int .i64 1]) fun (x22 : Int) =>
  HM.bind (α := Unit) (HM.store1 (Addr.add (Addr.add ⟨x20, 0, none⟩ 1) 2) (.int .i64 x22)) fun (_ : Unit) =>
  HM.bind (α := ByteArray) (HM.call1 Tryd.prog (.one .str) 60 #[.pointer (some ⟨x2, 0, none⟩)]) fun (x23 : ByteArray) =>
  HM.bind (α := ByteArray) (HM.call1 Tryd.prog (.one .str) 60 #[.pointer (some ⟨x2, 0, none⟩)]) fun (x24 : ByteArray) =>
  HM.bind (α := ByteArray) (HM.call1 Tryd.prog (.one .str) 60 #[.pointer (some ⟨x2, 0, none⟩)]) fun (x25 : ByteArray) =>
  HM.bind (α := Unit) (HM.store1 (Addr.add (Addr.add ⟨x20, 0, none⟩ 1) 0) (.string x23)) fun (_ : Unit) =>
  HM.bind (α := Unit) (HM.store1 (Addr.add (Addr.add ⟨x20, 0, none⟩ 1) 3) (.string x24)) fun (_ : Unit) =>
  HM.bind (α := Unit) (HM.store1 (Addr.add (Addr.add ⟨x20, 0, none⟩ 1) 4) (.string x25)) fun (_ : Unit) =>
  HM.bind (α := Slc) (HM.load1 .slc (Addr.add ⟨x4, 0, none⟩ 3)) fun (x26 : Slc) =>
  HM.bind (α := Int × ByteArray × Int × Int × ByteArray × ByteArray × Unit) (HM.loadN [.int .i64, .str, .int .i64, .int .i64, .str, .str] ⟨x20, 0, none⟩) fun (x27 : Int × ByteArray × Int × Int × ByteArray × ByteArray × Unit) =>
  HM.bind (α := Nat) (HM.new (.cells #[.int .i64 x27.1, .string x27.2.1, .int .i64 x27.2.2.1, .int .i64 x27.2.2.2.1, .string x27.2.2.2.2.1, .string x27.2.2.2.2.2.1] 96)) fun (x28 : Nat) =>
  HM.bind (α := Slc) (HM.append 96 6 72 #[.int .i64 0, .string (ByteArray.mk #[]), .int .i64 0, .int .i64 0, .string (ByteArray.mk #[]), .string (ByteArray.mk #[])] x26 1 (srcSlc 6 (⟨some ⟨x28, 0, none⟩, 1, 1⟩))) fun (x29 : Slc) =>
  HM.bind (α := Unit) (HM.store1 (Addr.add ⟨x4, 0, none⟩ 3) (.slice x29.a x29.len x29.cap)) fun (_ : Unit) =>
  HM.pure (.inl (IntKind.wrap .i64 (x18.1 + 1), ()))) (
  HM.pure (.inr (x18.1, ())))) (0, ())) fun (x17 : Int × Unit) =>
  HM.bind (α := Bool × Unit) (HM.bind (α := Addr) (HM.nonnil (some ⟨x2, 0, none⟩)) fun (x30 : Addr) =>
  HM.bind (α := Bool) (HM.load1 .bool (Addr.add x30 2)) fun (x31 : Bool) =>
  HM.ite x31 (
  HM.pure (true, ())) (
  HM.bind (α := Addr) (HM.nonnil (some ⟨x2, 0, none⟩)) fun (x32 : Addr) =>
  HM.bind (α := Int) (HM.load1 (.int .i64) (Addr.add x32 1)) fun (x33 : Int) =>
  HM.ite (decide (x33 < (((ByteArray.size p0 : Nat) : Int) : Int))) (
  HM.pure (true, ())) (
  HM.bind (α := Int × Int × Slc × Slc × Unit) (HM.loadN [.int .i64, .int .i64, .slc, .slc] ⟨x4, 0, none⟩) fun (x34 : Int × Int × Slc × Slc × Unit) =>
  HM.bind (α := Bool) (HM.call1 Tryd.prog (.one .bool) 49 #[.agg #[.int .i64 x34.1, .int .i64 x34.2.1, .slice x34.2.2.1.a x34.2.2.1.len x34.2.2.1.cap, .slice x34.2.2.2.1.a x34.2.2.2.1.len x34.2.2.2.1.cap]]) fun (x35 : Bool) =>
  HM.pure (!x35, ())))) fun (x36 : Bool × Unit) =>
  HM.ite x36.1 (
  HM.bind (α := Unit) (HM.storeN ⟨x1, 0, none⟩ [.int .i64 0, .int .i64 0, .slice none 0 0, .slice none 0 0]) fun (_ : Unit) =>
  HM.bind (α := Int × Int × Slc × Slc × Unit) (HM.loadN [.int .i64, .int .i64, .slc, .slc] ⟨x1, 0, none⟩) fun (x37 : Int × Int × Slc × Slc × Unit) =>
  HM.pure ((x37.1, x37.2.1, x37.2.2.1, x37.2.2.2.1, ()), 129, ())) (
  HM.bind (α := Int × Int × Slc × Slc × Unit) (HM.loadN [.int .i64, .int .i64, .slc, .slc] ⟨x4, 0, none⟩) fun (x38 : Int × Int × Slc × Slc × Unit) =>
  HM.bind (α := Unit) (HM.storeN ⟨x1, 0, none⟩ [.int .i64 x38.1, .int .i64 x38.2.1, .slice x38.2.2.1.a x38.2.2.1.len x38.2.2.1.cap, .slice x38.2.2.2.1.a x38.2.2.2.1.len x38.2.2.2.1.cap]) fun (_ : Unit) =>
  HM.bind (α := Int × Int × Slc × Slc × Unit) (HM.loadN [.int .i64, .int .i64, .slc, .slc] ⟨x1, 0, none⟩) fun (x39 : Int × Int × Slc × Slc × Unit) =>
  HM.pure ((x39.1, x39.2.1, x39.2.2.1, x39.2.2.2.1, ()), 0, ()))

theorem advert_Get_den (p0 : ByteArray) : denFn Tryd.prog [59, 60, 49] 88 [0, 2, 3, 4, 5, 6, 7, 23, 24, 25, 35, 36, 37, 85] [0, 2, 4, 5, 6, 7, 23, 24, 25, 35, 36, 37, 85] Tryd.f25.results.toList [.agg [.int .i64, .int .i64, .slc, .slc], .one (.int .u8)] (bodyOf Tryd.f25) [Kind.val (.one .str) p0] = advert_Get p0 := by kernel_rfl
theorem advert_Get_calls (p0 : ByteArray) (h : Heap) (Q : Value → Heap → Prop) (hh : advert_Get p0 h fun x h' => Q (.tuple #[.agg #[.int .i64 x.1.1, .int .i64 x.1.2.1, .slice x.1.2.2.1.a x.1.2.2.1.len x.1.2.2.1.cap, .slice x.1.2.2.2.1.a x.1.2.2.2.1.len x.1.2.2.2.1.cap], .int .u8 x.2.1]) h') :
    HCalls Tryd.prog 25 #[.string p0] h Q := by
  rw [← advert_Get_den] at hh
  exact calls_of_den Tryd.func25 (by kernel_rfl) Tryd.ntmps25 (by kernel_rfl) (fun f hf => by
      rcases List.mem_cons.1 hf with rfl | hf
      · exact Tryd.call59
      rcases List.mem_cons.1 hf with rfl | hf
      · exact Tryd.call60
      rcases List.mem_cons.1 hf with rfl | hf
      · exact Tryd.call49
      cases hf) orders hh

/-- aqueduct/aqueductref21.Get -/
def ref21_Get (p0 : ByteArray) : HM ((Int × Int × Slc × Slc × Unit) × Int × Unit) :=
  HM.bind (α := Nat) (HM.new (.cells #[.int .i64 0, .int .i64 0, .slice none 0 0, .slice none 0 0] 57)) fun (x1 : Nat) =>
  HM.bind (α := Nat) (HM.new (.cells #[.string p0, .int .i64 0, .bool false] 148)) fun (x2 : Nat) =>
  HM.bind (α := Int) (HM.call1 Tryd.prog (.one (.int .i64)) 61 #[.pointer (some ⟨x2, 0, none⟩), .int .i64 1]) fun (x3 : Int) =>
  HM.bind (α := Int) (HM.call1 Tryd.prog (.one (.int .i64)) 61 #[.pointer (some ⟨x2, 0, none⟩), .int .i64 4]) fun (x4 : Int) =>
  HM.bind (α := Int) (HM.call1 Tryd.prog (.one (.int .i64)) 61 #[.pointer (some ⟨x2, 0, none⟩), .int .i64 4]) fun (x5 : Int) =>
  HM.bind (α := Nat) (HM.new (.cells #[.int .i64 0, .int .i64 0, .slice none 0 0, .slice none 0 0] 57)) fun (x6 : Nat) =>
  HM.bind (α := Unit) (HM.storeN ⟨x6, 0, none⟩ [.int .i64 x3, .int .i64 (IntKind.wrap .i64 ((IntKind.wrap .i64 (x4 * 4294967296)) + x5)), .slice none 0 0, .slice none 0 0]) fun (_ : Unit) =>
  HM.bind (α := Int) (HM.call1 Tryd.prog (.one (.int .i64)) 61 #[.pointer (some ⟨x2, 0, none⟩), .int .i64 1]) fun (x7 : Int) =>
  HM.bind (α := Int × Unit) (HM.loop (σ := Int × Unit) (τ := Int × Unit) (fun (x9 : Int × Unit) =>
  HM.ite (decide (x9.1 < (x7 : Int))) (
  HM.bind (α := ByteArray) (HM.call1 Tryd.prog (.one .str) 62 #[.pointer (some ⟨x2, 0, none⟩)]) fun (x10 : ByteArray) =>
  HM.bind (α := Slc) (HM.load1 .slc (Addr.add ⟨x6, 0, none⟩ 2)) fun (x11 : Slc) =>
  HM.bind (α := Nat) (HM.new (.cells #[.string x10] 9)) fun (x12 : Nat) =>
  HM.bind (α := Slc) (HM.append 9 1 16 #[.string (ByteArray.mk #[])] x11 1 (srcSlc 1 (⟨some ⟨x12, 0, none⟩, 1, 1⟩))) fun (x13 : Slc) =>
  HM.bind (α := Unit) (HM.store1 (Addr.add ⟨x6, 0, none⟩ 2) (.slice x13.a x13.len x13.cap)) fun (_ : Unit) =>
  HM.pure (.inl (IntKind.wrap .i64 (x9.1 + 1), ()))) (
  HM.pure (.inr (x9.1, ())))) (0, ())) fun (x8 : Int × Unit) =>
  HM.bind (α := Int) (HM.call1 Tryd.prog (.one (.int .i64)) 61 #[.pointer (some ⟨x2, 0, none⟩), .int .i64 1]) fun (x14 : Int) =>
  HM.bind (α := Int × Unit) (HM.loop (σ := Int × Unit) (τ := Int × Unit) (fun (x16 : Int × Unit) =>
  HM.ite (decide (x16.1 < (x14 : Int))) (
  HM.bind (α := Int) (HM.call1 Tryd.prog (.one (.int .i64)) 61 #[.pointer (some ⟨x2, 0, none⟩), .int .i64 1]) fun (x17 : Int) =>
  HM.bind (α := Int) (HM.call1 Tryd.prog (.one (.int .i64)) 61 #[.pointer (some ⟨x2, 0, none⟩), .int .i64 1]) fun (x18 : Int) =>
  HM.bind (α := Int) (HM.call1 Tryd.prog (.one (.int .i64)) 61 #[.pointer (some ⟨x2, 0, none⟩), .int .i64 1]) fun (x19 : Int) =>
  HM.bind (α := ByteArray) (HM.call1 Tryd.prog (.one .str) 62 #[.pointer (some ⟨x2, 0, none⟩)]) fun (x20 : ByteArray) =>
  HM.bind (α := ByteArray) (HM.call1 Tryd.prog (.one .str) 62 #[.pointer (some ⟨x2, 0, none⟩)]) fun (x21 : ByteArray) =>
  HM.bind (α := ByteArray) (HM.call1 Tryd.prog (.one .str) 62 #[.pointer (some ⟨x2, 0, none⟩)]) fun (x22 : ByteArray) =>
  HM.bind (α := Slc) (HM.load1 .slc (Addr.add ⟨x6, 0, none⟩ 3)) fun (x23 : Slc) =>
  HM.bind (α := Nat) (HM.new (.cells #[.int .i64 x17, .string x20, .int .i64 x18, .int .i64 x19, .string x21, .string x22] 124)) fun (x24 : Nat) =>
  HM.bind (α := Slc) (HM.append 124 6 72 #[.int .i64 0, .string (ByteArray.mk #[]), .int .i64 0, .int .i64 0, .string (ByteArray.mk #[]), .string (ByteArray.mk #[])] x23 1 (srcSlc 6 (⟨some ⟨x24, 0, none⟩, 1, 1⟩))) fun (x25 : Slc) =>
  HM.bind (α := Unit) (HM.store1 (Addr.add ⟨x6, 0, none⟩ 3) (.slice x25.a x25.len x25.cap)) fun (_ : Unit) =>
  HM.pure (.inl (IntKind.wrap .i64 (x16.1 + 1), ()))) (
  HM.pure (.inr (x16.1, ())))) (0, ())) fun (x15 : Int × Unit) =>
  HM.bind (α := Int × Int × Slc × Slc × Unit) (HM.loadN [.int .i64, .int .i64, .slc, .slc] ⟨x6, 0, none⟩) fun (x26 : Int × Int × Slc × Slc × Unit) =>
  HM.bind (α := Bool) (HM.call1 Tryd.prog (.one .bool) 56 #[.agg #[.int .i64 x26.1, .int .i64 x26.2.1, .slice x26.2.2.1.a x26.2.2.1.len x26.2.2.1.cap, .slice x26.2.2.2.1.a x26.2.2.2.1.len x26.2.2.2.1.cap]]) fun (x27 : Bool) =>
  HM.bind (α := Bool × Unit) (HM.bind (α := Addr) (HM.nonnil (some ⟨x2, 0, none⟩)) fun (x28 : Addr) =>
  HM.bind (α := Bool) (HM.load1 .bool (Addr.add x28 2)) fun (x29 : Bool) =>
  HM.ite x29 (
  HM.pure (true, ())) (
  HM.bind (α := Addr) (HM.nonnil (some ⟨x2, 0, none⟩)) fun (x30 : Addr) =>
  HM.bind (α := Int) (HM.load1 (.int .i64) (Addr.add x30 1)) fun (x31 : Int) =>
  HM.ite (decide (x31 < (((ByteArray.size p0 : Nat) : Int) : Int))) (
  HM.pure (true, ())) (
  HM.pure (!x27, ())))) fun (x32 : Bool × Unit) =>
  HM.ite x32.1 (
  HM.bind (α := Unit) (HM.storeN ⟨x1, 0, none⟩ [.int .i64 0, .int .i64 0, .slice none 0 0, .slice none 0 0]) fun (_ : Unit) =>
  HM.bind (α := Int × Int × Slc × Slc × Unit) (HM.loadN [.int .i64, .int .i64, .slc, .slc] ⟨x1, 0, none⟩) fun (x33 : Int × Int × Slc × Slc × Unit) =>
  HM.pure ((x33.1, x33.2.1, x33.2.2.1, x33.2.2.2.1, ()), 129, ())) (
  HM.bind (α := Int × Int × Slc × Slc × Unit) (HM.loadN [.int .i64, .int .i64, .slc, .slc] ⟨x6, 0, none⟩) fun (x34 : Int × Int × Slc × Slc × Unit) =>
  HM.bind (α := Unit) (HM.storeN ⟨x1, 0, none⟩ [.int .i64 x34.1, .int .i64 x34.2.1, .slice x34.2.2.1.a x34.2.2.1.len x34.2.2.1.cap, .slice x34.2.2.2.1.a x34.2.2.2.1.len x34.2.2.2.1.cap]) fun (_ : Unit) =>
  HM.bind (α := Int × Int × Slc × Slc × Unit) (HM.loadN [.int .i64, .int .i64, .slc, .slc] ⟨x1, 0, none⟩) fun (x35 : Int × Int × Slc × Slc × Unit) =>
  HM.pure ((x35.1, x35.2.1, x35.2.2.1, x35.2.2.2.1, ()), 0, ()))

theorem ref21_Get_den (p0 : ByteArray) : denFn Tryd.prog [61, 62, 56] 104 [0, 2, 3, 4, 5, 6, 7, 8, 9, 10, 11, 12, 13, 14, 15, 16, 17, 18, 19, 20, 40, 55, 101] [0, 2, 4, 5, 6, 7, 8, 9, 10, 11, 12, 13, 14, 15, 16, 17, 18, 19, 20, 40, 55, 101] Tryd.f26.results.toList [.agg [.int .i64, .int .i64, .slc, .slc], .one (.int .i64)] (bodyOf Tryd.f26) [Kind.val (.one .str) p0] = ref21_Get p0 := by kernel_rfl
theorem ref21_Get_calls (p0 : ByteArray) (h : Heap) (Q : Value → Heap → Prop) (hh : ref21_Get p0 h fun x h' => Q (.tuple #[.agg #[.int .i64 x.1.1, .int .i64 x.1.2.1, .slice x.1.2.2.1.a x.1.2.2.1.len x.1.2.2.1.cap, .slice x.1.2.2.2.1.a x.1.2.2.2.1.len x.1.2.2.2.1.cap], .int .i64 x.2.1]) h') :
    HCalls Tryd.prog 26 #[.string p0] h Q := by
  rw [← ref21_Get_den] at hh
  exact calls_of_den Tryd.func26 (by kernel_rfl) Tryd.ntmps26 (by kernel_rfl) (fun f hf => by
      rcases List.mem_cons.1 hf with rfl | hf
      · exact Tryd.call61
      rcases List.mem_cons.1 hf with rfl | hf
      · exact Tryd.call62
      rcases List.mem_cons.1 hf with rfl | hf
      · exact Tryd.call56
      cases hf) orders hh

/-- aqueduct/aqueductlaw21.wakes -/
def law21_wakes : HM (Bool × Unit) :=
  HM.bind (α := Nat) (HM.new (.cells #[.string (ByteArray.mk #[97])] 9)) fun (x1 : Nat) =>
  HM.bind (α := ByteArray × Int × Unit) (HM.callN Tryd.prog [.one .str, .one (.int .u8)] 23 #[.agg #[.int .i64 2, .int .i64 7, .slice (some ⟨x1, 0, none⟩) 1 1, .slice none 0 0]]) fun (x2 : ByteArray × Int × Unit) =>
  HM.bind (α := Bool × Unit) (HM.ite (x2.2.1 == 0) (
  HM.pure (decide (x2.1 = (ByteArray.mk #[2, 0, 0, 0, 0, 0, 0, 0, 7, 1, 0, 1, 97, 0])), ())) (
  HM.pure (false, ()))) fun (x3 : Bool × Unit) =>
  HM.pure (x3.1, ())

theorem law21_wakes_den : denFn Tryd.prog [23] 15 [0, 1, 2] [1, 2] Tryd.f27.results.toList [.one .bool] (bodyOf Tryd.f27) [] = law21_wakes := by kernel_rfl
theorem law21_wakes_calls (h : Heap) (Q : Value → Heap → Prop) (hh : law21_wakes h fun x h' => Q (.bool x.1) h') :
    HCalls Tryd.prog 27 #[] h Q := by
  rw [← law21_wakes_den] at hh
  exact calls_of_den Tryd.func27 (by kernel_rfl) Tryd.ntmps27 (by kernel_rfl) (fun f hf => by
      rcases List.mem_cons.1 hf with rfl | hf
      · exact Tryd.call23
      cases hf) orders hh

/-- aqueduct/aqueductlaw21.same -/
def law21_same (p0 : Int × Int × Slc × Slc × Unit) (p1 : Int × Int × Slc × Slc × Unit) : HM (Bool × Unit) :=
  HM.bind (α := Nat) (HM.new (.cells #[.int .i64 p0.1, .int .i64 p0.2.1, .slice p0.2.2.1.a p0.2.2.1.len p0.2.2.1.cap, .slice p0.2.2.2.1.a p0.2.2.2.1.len p0.2.2.2.1.cap] 54)) fun (x1 : Nat) =>
  HM.bind (α := Nat) (HM.new (.cells #[.int .i64 p1.1, .int .i64 p1.2.1, .slice p1.2.2.1.a p1.2.2.1.len p1.2.2.1.cap, .slice p1.2.2.2.1.a p1.2.2.2.1.len p1.2.2.2.1.cap] 57)) fun (x2 : Nat) =>
  HM.bind (α := Bool × Unit) (HM.bind (α := Int) (HM.load1 (.int .i64) (Addr.add ⟨x1, 0, none⟩ 0)) fun (x3 : Int) =>
  HM.bind (α := Int) (HM.load1 (.int .i64) (Addr.add ⟨x2, 0, none⟩ 0)) fun (x4 : Int) =>
  HM.ite (!(x3 == x4)) (
  HM.pure (true, ())) (
  HM.bind (α := Int) (HM.load1 (.int .i64) (Addr.add ⟨x1, 0, none⟩ 1)) fun (x5 : Int) =>
  HM.bind (α := Int) (HM.load1 (.int .i64) (Addr.add ⟨x2, 0, none⟩ 1)) fun (x6 : Int) =>
  HM.ite (!(x5 == x6)) (
  HM.pure (true, ())) (
  HM.bind (α := Slc) (HM.load1 .slc (Addr.add ⟨x1, 0, none⟩ 2)) fun (x7 : Slc) =>
  HM.bind (α := Slc) (HM.load1 .slc (Addr.add ⟨x2, 0, none⟩ 2)) fun (x8 : Slc) =>
  HM.ite (!(((x7.len : Nat) : Int) == ((x8.len : Nat) : Int))) (
  HM.pure (true, ())) (
  HM.bind (α := Slc) (HM.load1 .slc (Addr.add ⟨x1, 0, none⟩ 3)) fun (x9 : Slc) =>
  HM.bind (α := Slc) (HM.load1 .slc (Addr.add ⟨x2, 0, none⟩ 3)) fun (x10 : Slc) =>
  HM.pure (!(((x9.len : Nat) : Int) == ((x10.len : Nat) : Int)), ()))))) fun (x11 : Bool × Unit) =>
  HM.ite x11.1 (
  HM.pure (false, ())) (
  HM.bind (α := Slc) (HM.load1 .slc (Addr.add ⟨x1, 0, none⟩ 2)) fun (x12 : Slc) =>
  HM.bind (α := (Int × Unit) ⊕ (Bool × Unit)) (HM.loop (σ := Int × Unit) (τ := (Int × Unit) ⊕ (Bool × Unit)) (fun (x14 : Int × Unit) =>
  HM.ite (decide (x14.1 < (((x12.len : Nat) : Int) : Int))) (
  HM.bind (α := Slc) (HM.load1 .slc (Addr.add ⟨x1, 0, none⟩ 2)) fun (x15 : Slc) =>
  HM.bind (α := Addr) (HM.idx x15.a x15.len x14.1 1) fun (x16 : Addr) =>
  HM.bind (α := ByteArray) (HM.load1 .str x16) fun (x17 : ByteArray) =>
  HM.bind (α := Slc) (HM.load1 .slc (Addr.add ⟨x2, 0, none⟩ 2)) fun (x18 : Slc) =>
  HM.bind (α := Addr) (HM.idx x18.a x18.len x14.1 1) fun (x19 : Addr) =>
  HM.bind (α := ByteArray) (HM.load1 .str x19) fun (x20 : ByteArray) =>
  HM.ite (!(decide (x17 = x20))) (
  HM.pure (.inr (.inr (false, ())))) (
  HM.pure (.inl (IntKind.wrap .i64 (x14.1 + 1), ())))) (
  HM.pure (.inr (.inl (x14.1, ()))))) (0, ())) (Sum.elim (fun (x13 : Int × Unit) =>
  HM.bind (α := Slc) (HM.load1 .slc (Addr.add ⟨x1, 0, none⟩ 3)) fun (x21 : Slc) =>
  HM.bind (α := (Int × Unit) ⊕ (Bool × Unit)) (HM.loop (σ := Int × Unit) (τ := (Int × Unit) ⊕ (Bool × Unit)) (fun (x23 : Int × Unit) =>
  HM.ite (decide (x23.1 < (((x21.len : Nat) : Int) : Int))) (
  HM.bind (α := Slc) (HM.load1 .slc (Addr.add ⟨x1, 0, none⟩ 3)) fun (x24 : Slc) =>
  HM.bind (α := Addr) (HM.idx x24.a x24.len x23.1 6) fun (x25 : Addr) =>
  HM.bind (α := Int × ByteArray × Int × Int × ByteArray × ByteArray × Unit) (HM.loadN [.int .i64, .str, .int .i64, .int .i64, .str, .str] x25) fun (x26 : Int × ByteArray × Int × Int × ByteArray × ByteArray × Unit) =>
  HM.bind (α := Slc) (HM.load1 .slc (Addr.add ⟨x2, 0, none⟩ 3)) fun (x27 : Slc) =>
  HM.bind (α := Addr) (HM.idx x27.a x27.len x23.1 6) fun (x28 : Addr) =>
  HM.bind (α := Int × ByteArray × Int × Int × ByteArray × ByteArray × Unit) (HM.loadN [.int .i64, .str, .int .i64, .int .i64, .str, .str] x28) fun (x29 : Int × ByteArray × Int × Int × ByteArray × ByteArray × Unit) =>
  HM.both (
  HM.bind (α := Nat) (HM.new (.cells #[.int .i64 0, .string (ByteArray.mk #[]), .int .i64 0, .int .i64 0, .string (ByteArray.mk #[]), .string (ByteArray.mk #[])] 96)) fun (x30 : Nat) =>
  HM.bind (α := Int × ByteArray × Int × Int × ByteArray × ByteArray × Unit) (HM.loadN [.int .i64, .str, .int .i64, .int .i64, .str, .str] x28) fun (x31 : Int × ByteArray × Int × Int × ByteArray × ByteArray × Unit) =>
  HM.req ((.agg #[.int .i64 x31.1, .string x31.2.1, .int .i64 x31.2.2.1, .int .i64 x31.2.2.2.1, .string x31.2.2.2.2.1, .string x31.2.2.2.2.2.1] : Value) = .agg #[.int .i64 x29.1, .string x29.2.1, .int .i64 x29.2.2.1, .int .i64 x29.2.2.2.1, .string x29.2.2.2.2.1, .string x29.2.2.2.2.2.1]) <|
  HM.bind (α := Slc) (HM.load1 .slc (Addr.add ⟨x2, 0, none⟩ 3)) fun (x32 : Slc) =>
  HM.req ((.slice x32.a x32.len x32.cap : Value) = .slice x27.a x27.len x27.cap) <|
  HM.bind (α := Int × ByteArray × Int × Int × ByteArray × ByteArray × Unit) (HM.loadN [.int .i64, .str, .int .i64, .int .i64, .str, .str] x25) fun (x33 : Int × ByteArray × Int × Int × ByteArray × ByteArray × Unit) =>
  HM.req ((.agg #[.int .i64 x33.1, .string x33.2.1, .int .i64 x33.2.2.1, .int .i64 x33.2.2.2.1, .string x33.2.2.2.2.1, .string x33.2.2.2.2.2.1] : Value) = .agg #[.int .i64 x26.1, .string x26.2.1, .int .i64 x26.2.2.1, .int .i64 x26.2.2.2.1, .string x26.2.2.2.2.1, .string x26.2.2.2.2.2.1]) <|
  HM.bind (α := Slc) (HM.load1 .slc (Addr.add ⟨x1, 0, none⟩ 3)) fun (x34 : Slc) =>
  HM.req ((.slice x34.a x34.len x34.cap : Value) = .slice x24.a x24.len x24.cap) <|
  HM.bind (α := Nat) (HM.new (.cells #[.int .i64 0, .string (ByteArray.mk #[]), .int .i64 0, .int .i64 0, .string (ByteArray.mk #[]), .string (ByteArray.mk #[])] 124)) fun (x35 : Nat) =>
  HM.bind (α := Int × ByteArray × Int × Int × ByteArray × ByteArray × Unit) (HM.loadN [.int .i64, .str, .int .i64, .int .i64, .str, .str] x28) fun (x36 : Int × ByteArray × Int × Int × ByteArray × ByteArray × Unit) =>
  HM.req ((.agg #[.int .i64 x36.1, .string x36.2.1, .int .i64 x36.2.2.1, .int .i64 x36.2.2.2.1, .string x36.2.2.2.2.1, .string x36.2.2.2.2.2.1] : Value) = .agg #[.int .i64 x29.1, .string x29.2.1, .int .i64 x29.2.2.1, .int .i64 x29.2.2.2.1, .string x29.2.2.2.2.1, .string x29.2.2.2.2.2.1]) <|
  HM.bind (α := Slc) (HM.load1 .slc (Addr.add ⟨x2, 0, none⟩ 3)) fun (x37 : Slc) =>
  HM.req ((.slice x37.a x37.len x37.cap : Value) = .slice x27.a x27.len x27.cap) <|
  HM.bind (α := Int × ByteArray × Int × Int × ByteArray × ByteArray × Unit) (HM.loadN [.int .i64, .str, .int .i64, .int .i64, .str, .str] x25) fun (x38 : Int × ByteArray × Int × Int × ByteArray × ByteArray × Unit) =>
  HM.req ((.agg #[.int .i64 x38.1, .string x38.2.1, .int .i64 x38.2.2.1, .int .i64 x38.2.2.2.1, .string x38.2.2.2.2.1, .string x38.2.2.2.2.2.1] : Value) = .agg #[.int .i64 x26.1, .string x26.2.1, .int .i64 x26.2.2.1, .int .i64 x26.2.2.2.1, .string x26.2.2.2.2.1, .string x26.2.2.2.2.2.1]) <|
  HM.bind (α := Slc) (HM.load1 .slc (Addr.add ⟨x1, 0, none⟩ 3)) fun (x39 : Slc) =>
  HM.req ((.slice x39.a x39.len x39.cap : Value) = .slice x24.a x24.len x24.cap) <|
  HM.bind (α := Unit) (HM.storeN ⟨x30, 0, none⟩ [.int .i64 x26.1, .string x26.2.1, .int .i64 x26.2.2.1, .int .i64 x26.2.2.2.1, .string x26.2.2.2.2.1, .string x26.2.2.2.2.2.1]) fun (_ : Unit) =>
  HM.bind (α := Int × ByteArray × Int × Int × ByteArray × ByteArray × Unit) (HM.loadN [.int .i64, .str, .int .i64, .int .i64, .str, .str] x28) fun (x40 : Int × ByteArray × Int × Int × ByteArray × ByteArray × Unit) =>
  HM.req ((.agg #[.int .i64 x40.1, .string x40.2.1, .int .i64 x40.2.2.1, .int .i64 x40.2.2.2.1, .string x40.2.2.2.2.1, .string x40.2.2.2.2.2.1] : Value) = .agg #[.int .i64 x29.1, .string x29.2.1, .int .i64 x29.2.2.1, .int .i64 x29.2.2.2.1, .string x29.2.2.2.2.1, .string x29.2.2.2.2.2.1]) <|
  HM.bind (α := Slc) (HM.load1 .slc (Addr.add ⟨x2, 0, none⟩ 3)) fun (x41 : Slc) =>
  HM.req ((.slice x41.a x41.len x41.cap : Value) = .slice x27.a x27.len x27.cap) <|
  HM.bind (α := Unit) (HM.storeN ⟨x35, 0, none⟩ [.int .i64 x29.1, .string x29.2.1, .int .i64 x29.2.2.1, .int .i64 x29.2.2.2.1, .string x29.2.2.2.2.1, .string x29.2.2.2.2.2.1]) fun (_ : Unit) =>
  HM.bind (α := Bool × Unit) (HM.bind (α := Int) (HM.load1 (.int .i64) (Addr.add ⟨x30, 0, none⟩ 0)) fun (x42 : Int) =>
  HM.bind (α := Int) (HM.load1 (.int .i64) (Addr.add ⟨x35, 0, none⟩ 0)) fun (x43 : Int) =>
  HM.ite (!(x42 == x43)) (
  HM.pure (true, ())) (
  HM.bind (α := ByteArray) (HM.load1 .str (Addr.add (Addr.add ⟨x30, 0, none⟩ 1) 0)) fun (x44 : ByteArray) =>
  HM.bind (α := ByteArray) (HM.load1 .str (Addr.add (Addr.add ⟨x35, 0, none⟩ 1) 0)) fun (x45 : ByteArray) =>
  HM.ite (!(decide (x44 = x45))) (
  HM.pure (true, ())) (
  HM.bind (α := Int) (HM.load1 (.int .i64) (Addr.add (Addr.add ⟨x30, 0, none⟩ 1) 1)) fun (x46 : Int) =>
  HM.bind (α := Int) (HM.load1 (.int .i64) (Addr.add (Addr.add ⟨x35, 0, none⟩ 1) 1)) fun (x47 : Int) =>
  HM.ite (!(x46 == x47)) (
  HM.pure (true, ())) (
  HM.bind (α := Int) (HM.load1 (.int .i64) (Addr.add (Addr.add ⟨x30, 0, none⟩ 1) 2)) fun (x48 : Int) =>
  HM.bind (α := Int) (HM.load1 (.int .i64) (Addr.add (Addr.add ⟨x35, 0, none⟩ 1) 2)) fun (x49 : Int) =>
  HM.ite (!(x48 == x49)) (
  HM.pure (true, ())) (
  HM.bind (α := ByteArray) (HM.load1 .str (Addr.add (Addr.add ⟨x30, 0, none⟩ 1) 3)) fun (x50 : ByteArray) =>
  HM.bind (α := ByteArray) (HM.load1 .str (Addr.add (Addr.add ⟨x35, 0, none⟩ 1) 3)) fun (x51 : ByteArray) =>
  HM.ite (!(decide (x50 = x51))) (
  HM.pure (true, ())) (
  HM.bind (α := ByteArray) (HM.load1 .str (Addr.add (Addr.add ⟨x30, 0, none⟩ 1) 4)) fun (x52 : ByteArray) =>
  HM.bind (α := ByteArray) (HM.load1 .str (Addr.add (Addr.add ⟨x35, 0, none⟩ 1) 4)) fun (x53 : ByteArray) =>
  HM.pure (!(decide (x52 = x53)), ()))))))) fun (x54 : Bool × Unit) =>
  HM.ite x54.1 (
  HM.pure (.inr (.inr (false, ())))) (
  HM.pure (.inl (IntKind.wrap .i64 (x23.1 + 1), ())))) (
  HM.bind (α := Nat) (HM.new (.cells #[.int .i64 0, .string (ByteArray.mk #[]), .int .i64 0, .int .i64 0, .string (ByteArray.mk #[]), .string (ByteArray.mk #[])] 124)) fun (x55 : Nat) =>
  HM.bind (α := Int × ByteArray × Int × Int × ByteArray × ByteArray × Unit) (HM.loadN [.int .i64, .str, .int .i64, .int .i64, .str, .str] x28) fun (x56 : Int × ByteArray × Int × Int × ByteArray × ByteArray × Unit) =>
  HM.req ((.agg #[.int .i64 x56.1, .string x56.2.1, .int .i64 x56.2.2.1, .int .i64 x56.2.2.2.1, .string x56.2.2.2.2.1, .string x56.2.2.2.2.2.1] : Value) = .agg #[.int .i64 x29.1, .string x29.2.1, .int .i64 x29.2.2.1, .int .i64 x29.2.2.2.1, .string x29.2.2.2.2.1, .string x29.2.2.2.2.2.1]) <|
  HM.bind (α := Slc) (HM.load1 .slc (Addr.add ⟨x2, 0, none⟩ 3)) fun (x57 : Slc) =>
  HM.req ((.slice x57.a x57.len x57.cap : Value) = .slice x27.a x27.len x27.cap) <|
  HM.bind (α := Int × ByteArray × Int × Int × ByteArray × ByteArray × Unit) (HM.loadN [.int .i64, .str, .int .i64, .int .i64, .str, .str] x25) fun (x58 : Int × ByteArray × Int × Int × ByteArray × ByteArray × Unit) =>
  HM.req ((.agg #[.int .i64 x58.1, .string x58.2.1, .int .i64 x58.2.2.1, .int .i64 x58.2.2.2.1, .string x58.2.2.2.2.1, .string x58.2.2.2.2.2.1] : Value) = .agg #[.int .i64 x26.1, .string x26.2.1, .int .i64 x26.2.2.1, .int .i64 x26.2.2.2.1, .string x26.2.2.2.2.1, .string x26.2.2.2.2.2.1]) <|
  HM.bind (α := Slc) (HM.load1 .slc (Addr.add ⟨x1, 0, none⟩ 3)) fun (x59 : Slc) =>
  HM.req ((.slice x59.a x59.len x59.cap : Value) = .slice x24.a x24.len x24.cap) <|
  HM.bind (α := Nat) (HM.new (.cells #[.int .i64 0, .string (ByteArray.mk #[]), .int .i64 0, .int .i64 0, .string (ByteArray.mk #[]), .string (ByteArray.mk #[])] 96)) fun (x60 : Nat) =>
  HM.bind (α := Int × ByteArray × Int × Int × ByteArray × ByteArray × Unit) (HM.loadN [.int .i64, .str, .int .i64, .int .i64, .str, .str] x28) fun (x61 : Int × ByteArray × Int × Int × ByteArray × ByteArray × Unit) =>
  HM.req ((.agg #[.int .i64 x61.1, .string x61.2.1, .int .i64 x61.2.2.1, .int .i64 x61.2.2.2.1, .string x61.2.2.2.2.1, .string x61.2.2.2.2.2.1] : Value) = .agg #[.int .i64 x29.1, .string x29.2.1, .int .i64 x29.2.2.1, .int .i64 x29.2.2.2.1, .string x29.2.2.2.2.1, .string x29.2.2.2.2.2.1]) <|
  HM.bind (α := Slc) (HM.load1 .slc (Addr.add ⟨x2, 0, none⟩ 3)) fun (x62 : Slc) =>
  HM.req ((.slice x62.a x62.len x62.cap : Value) = .slice x27.a x27.len x27.cap) <|
  HM.bind (α := Int × ByteArray × Int × Int × ByteArray × ByteArray × Unit) (HM.loadN [.int .i64, .str, .int .i64, .int .i64, .str, .str] x25) fun (x63 : Int × ByteArray × Int × Int × ByteArray × ByteArray × Unit) =>
  HM.req ((.agg #[.int .i64 x63.1, .string x63.2.1, .int .i64 x63.2.2.1, .int .i64 x63.2.2.2.1, .string x63.2.2.2.2.1, .string x63.2.2.2.2.2.1] : Value) = .agg #[.int .i64 x26.1, .string x26.2.1, .int .i64 x26.2.2.1, .int .i64 x26.2.2.2.1, .string x26.2.2.2.2.1, .string x26.2.2.2.2.2.1]) <|
  HM.bind (α := Slc) (HM.load1 .slc (Addr.add ⟨x1, 0, none⟩ 3)) fun (x64 : Slc) =>
  HM.req ((.slice x64.a x64.len x64.cap : Value) = .slice x24.a x24.len x24.cap) <|
  HM.bind (α := Unit) (HM.storeN ⟨x60, 0, none⟩ [.int .i64 x26.1, .string x26.2.1, .int .i64 x26.2.2.1, .int .i64 x26.2.2.2.1, .string x26.2.2.2.2.1, .string x26.2.2.2.2.2.1]) fun (_ : Unit) =>
  HM.bind (α := Int × ByteArray × Int × Int × ByteArray × ByteArray × Unit) (HM.loadN [.int .i64, .str, .int .i64, .int .i64, .str, .str] x28) fun (x65 : Int × ByteArray × Int × Int × ByteArray × ByteArray × Unit) =>
  HM.req ((.agg #[.int .i64 x65.1, .string x65.2.1, .int .i64 x65.2.2.1, .int .i64 x65.2.2.2.1, .string x65.2.2.2.2.1, .string x65.2.2.2.2.2.1] : Value) = .agg #[.int .i64 x29.1, .string x29.2.1, .int .i64 x29.2.2.1, .int .i64 x29.2.2.2.1, .string x29.2.2.2.2.1, .string x29.2.2.2.2.2.1]) <|
  HM.bind (α := Slc) (HM.load1 .slc (Addr.add ⟨x2, 0, none⟩ 3)) fun (x66 : Slc) =>
  HM.req ((.slice x66.a x66.len x66.cap : Value) = .slice x27.a x27.len x27.cap) <|
  HM.bind (α := Unit) (HM.storeN ⟨x55, 0, none⟩ [.int .i64 x29.1, .string x29.2.1, .int .i64 x29.2.2.1, .int .i64 x29.2.2.2.1, .string x29.2.2.2.2.1, .string x29.2.2.2.2.2.1]) fun (_ : Unit) =>
  HM.bind (α := Bool × Unit) (HM.bind (α := Int) (HM.load1 (.int .i64) (Addr.add ⟨x60, 0, none⟩ 0)) fun (x67 : Int) =>
  HM.bind (α := Int) (HM.load1 (.int .i64) (Addr.add ⟨x55, 0, none⟩ 0)) fun (x68 : Int) =>
  HM.ite (!(x67 == x68)) (
  HM.pure (true, ())) (
  HM.bind (α := ByteArray) (HM.load1 .str (Addr.add (Addr.add ⟨x60, 0, none⟩ 1) 0)) fun (x69 : ByteArray) =>
  HM.bind (α := ByteArray) (HM.load1 .str (Addr.add (Addr.add ⟨x55, 0, none⟩ 1) 0)) fun (x70 : ByteArray) =>
  HM.ite (!(decide (x69 = x70))) (
  HM.pure (true, ())) (
  HM.bind (α := Int) (HM.load1 (.int .i64) (Addr.add (Addr.add ⟨x60, 0, none⟩ 1) 1)) fun (x71 : Int) =>
  HM.bind (α := Int) (HM.load1 (.int .i64) (Addr.add (Addr.add ⟨x55, 0, none⟩ 1) 1)) fun (x72 : Int) =>
  HM.ite (!(x71 == x72)) (
  HM.pure (true, ())) (
  HM.bind (α := Int) (HM.load1 (.int .i64) (Addr.add (Addr.add ⟨x60, 0, none⟩ 1) 2)) fun (x73 : Int) =>
  HM.bind (α := Int) (HM.load1 (.int .i64) (Addr.add (Addr.add ⟨x55, 0, none⟩ 1) 2)) fun (x74 : Int) =>
  HM.ite (!(x73 == x74)) (
  HM.pure (true, ())) (
  HM.bind (α := ByteArray) (HM.load1 .str (Addr.add (Addr.add ⟨x60, 0, none⟩ 1) 3)) fun (x75 : ByteArray) =>
  HM.bind (α := ByteArray) (HM.load1 .str (Addr.add (Addr.add ⟨x55, 0, none⟩ 1) 3)) fun (x76 : ByteArray) =>
  HM.ite (!(decide (x75 = x76))) (
  HM.pure (true, ())) (
  HM.bind (α := ByteArray) (HM.load1 .str (Addr.add (Addr.add ⟨x60, 0, none⟩ 1) 4)) fun (x77 : ByteArray) =>
  HM.bind (α := ByteArray) (HM.load1 .str (Addr.add (Addr.add ⟨x55, 0, none⟩ 1) 4)) fun (x78 : ByteArray) =>
  HM.pure (!(decide (x77 = x78)), ()))))))) fun (x79 : Bool × Unit) =>
  HM.ite x79.1 (
  HM.pure (.inr (.inr (false, ())))) (
  HM.pure (.inl (IntKind.wrap .i64 (x23.1 + 1), ()))))) (
  HM.pure (.inr (.inl (x23.1, ()))))) (0, ())) (Sum.elim (fun (x22 : Int × Unit) =>
  HM.pure (true, ())) HM.pure)) HM.pure))

theorem law21_same_den (p0 : Int × Int × Slc × Slc × Unit) (p1 : Int × Int × Slc × Slc × Unit) : denFn Tryd.prog [] 124 [0, 1, 2, 3, 4, 5, 6, 7, 8, 38, 41, 42, 43, 55, 59, 60, 61, 122] [0, 1, 2, 3, 5, 6, 7, 8, 38, 41, 42, 43, 55, 59, 60, 61, 122] Tryd.f28.results.toList [.one .bool] (bodyOf Tryd.f28) [Kind.val (.agg [.int .i64, .int .i64, .slc, .slc]) p0, Kind.val (.agg [.int .i64, .int .i64, .slc, .slc]) p1] = law21_same p0 p1 := by kernel_rfl
theorem law21_same_calls (p0 : Int × Int × Slc × Slc × Unit) (p1 : Int × Int × Slc × Slc × Unit) (h : Heap) (Q : Value → Heap → Prop) (hh : law21_same p0 p1 h fun x h' => Q (.bool x.1) h') :
    HCalls Tryd.prog 28 #[.agg #[.int .i64 p0.1, .int .i64 p0.2.1, .slice p0.2.2.1.a p0.2.2.1.len p0.2.2.1.cap, .slice p0.2.2.2.1.a p0.2.2.2.1.len p0.2.2.2.1.cap], .agg #[.int .i64 p1.1, .int .i64 p1.2.1, .slice p1.2.2.1.a p1.2.2.1.len p1.2.2.1.cap, .slice p1.2.2.2.1.a p1.2.2.2.1.len p1.2.2.2.1.cap]] h Q := by
  rw [← law21_same_den] at hh
  exact calls_of_den Tryd.func28 (by kernel_rfl) Tryd.ntmps28 (by kernel_rfl) (fun f hf => by cases hf) orders hh

/-- aqueduct/advert.New -/
def advert_New : HM (Option Addr × Unit) :=
  HM.bind (α := Nat) (HM.new (.map #[] 0)) fun (x1 : Nat) =>
  HM.bind (α := Nat) (HM.new (.cells #[.map (some x1)] 153)) fun (x2 : Nat) =>
  HM.pure (some ⟨x2, 0, none⟩, ())

theorem advert_New_den : denFn Tryd.prog [] 4 [0] [] Tryd.f29.results.toList [.one .ptr] (bodyOf Tryd.f29) [] = advert_New := by kernel_rfl
theorem advert_New_calls (h : Heap) (Q : Value → Heap → Prop) (hh : advert_New h fun x h' => Q (.pointer x.1) h') :
    HCalls Tryd.prog 29 #[] h Q := by
  rw [← advert_New_den] at hh
  exact calls_of_den Tryd.func29 (by kernel_rfl) Tryd.ntmps29 (by kernel_rfl) (fun f hf => by cases hf) orders hh

/-- (*aqueduct/advert.Base).Learn -/
def advert_Base_Learn (p0 : Option Addr) (p1 : Int × Int × Slc × Slc × Unit) : HM (Bool × Int × Unit) :=
  HM.bind (α := Nat) (HM.new (.cells #[.int .i64 p1.1, .int .i64 p1.2.1, .slice p1.2.2.1.a p1.2.2.1.len p1.2.2.1.cap, .slice p1.2.2.2.1.a p1.2.2.2.1.len p1.2.2.2.1.cap] 54)) fun (x1 : Nat) =>
  HM.ite (Option.isNone p0) (
  HM.pure (false, 128, ())) (
  HM.bind (α := Int × Int × Slc × Slc × Unit) (HM.loadN [.int .i64, .int .i64, .slc, .slc] ⟨x1, 0, none⟩) fun (x2 : Int × Int × Slc × Slc × Unit) =>
  HM.bind (α := Bool) (HM.call1 Tryd.prog (.one .bool) 49 #[.agg #[.int .i64 x2.1, .int .i64 x2.2.1, .slice x2.2.2.1.a x2.2.2.1.len x2.2.2.1.cap, .slice x2.2.2.2.1.a x2.2.2.2.1.len x2.2.2.2.1.cap]]) fun (x3 : Bool) =>
  HM.ite (!x3) (
  HM.pure (false, 129, ())) (
  HM.bind (α := Addr) (HM.nonnil p0) fun (x4 : Addr) =>
  HM.bind (α := Option Nat) (HM.load1 .map (Addr.add x4 0)) fun (x5 : Option Nat) =>
  HM.bind (α := Int) (HM.load1 (.int .i64) (Addr.add ⟨x1, 0, none⟩ 0)) fun (x6 : Int) =>
  HM.bind (α := (Int × Int × Slc × Slc × Unit) × Bool) (HM.lookup (Instr.sameNow (.int .i64)) (.agg #[.int .i64 0, .int .i64 0, .slice none 0 0, .slice none 0 0]) (.agg [.int .i64, .int .i64, .slc, .slc]) x5 (.int .i64 x6)) fun (x7 : (Int × Int × Slc × Slc × Unit) × Bool) =>
  HM.bind (α := Int) (HM.load1 (.int .i64) (Addr.add ⟨x1, 0, none⟩ 1)) fun (x8 : Int) =>
  HM.ite (decide (x8 ≤ (x7.1.2.1 : Int))) (
  HM.pure (false, 0, ())) (
  HM.bind (α := Addr) (HM.nonnil p0) fun (x9 : Addr) =>
  HM.bind (α := Option Nat) (HM.load1 .map (Addr.add x9 0)) fun (x10 : Option Nat) =>
  HM.bind (α := Int) (HM.load1 (.int .i64) (Addr.add ⟨x1, 0, none⟩ 0)) fun (x11 : Int) =>
  HM.bind (α := Int × Int × Slc × Slc × Unit) (HM.loadN [.int .i64, .int .i64, .slc, .slc] ⟨x1, 0, none⟩) fun (x12 : Int × Int × Slc × Slc × Unit) =>
  HM.bind (α := Int × Int × Slc × Slc × Unit) (HM.call1 Tryd.prog (.agg [.int .i64, .int .i64, .slc, .slc]) 63 #[.agg #[.int .i64 x12.1, .int .i64 x12.2.1, .slice x12.2.2.1.a x12.2.2.1.len x12.2.2.1.cap, .slice x12.2.2.2.1.a x12.2.2.2.1.len x12.2.2.2.1.cap]]) fun (x13 : Int × Int × Slc × Slc × Unit) =>
  HM.bind (α := Int) (HM.load1 (.int .i64) (Addr.add ⟨x1, 0, none⟩ 0)) fun (x14 : Int) =>
  HM.req ((.int .i64 x14 : Value) = .int .i64 x11) <|
  HM.bind (α := Option Nat) (HM.load1 .map (Addr.add x9 0)) fun (x15 : Option Nat) =>
  HM.req ((.map x15 : Value) = .map x10) <|
  HM.bind (α := Unit) (HM.mapSet (Instr.sameNow (.int .i64)) x10 (.int .i64 x11) (.agg #[.int .i64 x13.1, .int .i64 x13.2.1, .slice x13.2.2.1.a x13.2.2.1.len x13.2.2.1.cap, .slice x13.2.2.2.1.a x13.2.2.2.1.len x13.2.2.2.1.cap])) fun (_ : Unit) =>
  HM.pure (true, 0, ()))))

theorem advert_Base_Learn_den (p0 : Option Addr) (p1 : Int × Int × Slc × Slc × Unit) : denFn Tryd.prog [49, 63] 33 [0, 1, 3, 4, 5, 6, 9, 13] [0, 1, 3, 6, 9, 13] Tryd.f30.results.toList [.one .bool, .one (.int .u8)] (bodyOf Tryd.f30) [Kind.val (.one .ptr) p0, Kind.val (.agg [.int .i64, .int .i64, .slc, .slc]) p1] = advert_Base_Learn p0 p1 := by kernel_rfl
theorem advert_Base_Learn_calls (p0 : Option Addr) (p1 : Int × Int × Slc × Slc × Unit) (h : Heap) (Q : Value → Heap → Prop) (hh : advert_Base_Learn p0 p1 h fun x h' => Q (.tuple #[.bool x.1, .int .u8 x.2.1]) h') :
    HCalls Tryd.prog 30 #[.pointer p0, .agg #[.int .i64 p1.1, .int .i64 p1.2.1, .slice p1.2.2.1.a p1.2.2.1.len p1.2.2.1.cap, .slice p1.2.2.2.1.a p1.2.2.2.1.len p1.2.2.2.1.cap]] h Q := by
  rw [← advert_Base_Learn_den] at hh
  exact calls_of_den Tryd.func30 (by kernel_rfl) Tryd.ntmps30 (by kernel_rfl) (fun f hf => by
      rcases List.mem_cons.1 hf with rfl | hf
      · exact Tryd.call49
      rcases List.mem_cons.1 hf with rfl | hf
      · exact Tryd.call63
      cases hf) orders hh

/-- (*aqueduct/advert.Base).List -/
def advert_Base_List (p0 : Option Addr) : HM (Slc × Unit) :=
  HM.ite (Option.isNone p0) (
  HM.pure (⟨none, 0, 0⟩, ())) (
  HM.bind (α := Addr) (HM.nonnil p0) fun (x1 : Addr) =>
  HM.bind (α := Option Nat) (HM.load1 .map (Addr.add x1 0)) fun (x2 : Option Nat) =>
  HM.bind (α := Value) (HM.call1 Tryd.prog (.one .any) 65 #[.map x2]) fun (x3 : Value) =>
  HM.bind (α := Slc) (HM.call1 Tryd.prog (.one .slc) 64 #[x3]) fun (x4 : Slc) =>
  HM.bind (α := Slc × Int × Unit) (HM.loop (σ := Slc × Int × Unit) (τ := Slc × Int × Unit) (fun (x6 : Slc × Int × Unit) =>
  HM.ite (decide (x6.2.1 < (((x4.len : Nat) : Int) : Int))) (
  HM.bind (α := Addr) (HM.idx x4.a x4.len x6.2.1 1) fun (x7 : Addr) =>
  HM.bind (α := Int) (HM.load1 (.int .i64) x7) fun (x8 : Int) =>
  HM.bind (α := Addr) (HM.nonnil p0) fun (x9 : Addr) =>
  HM.bind (α := Option Nat) (HM.load1 .map (Addr.add x9 0)) fun (x10 : Option Nat) =>
  HM.bind (α := (Int × Int × Slc × Slc × Unit) × Bool) (HM.lookup (Instr.sameNow (.int .i64)) (.agg #[.int .i64 0, .int .i64 0, .slice none 0 0, .slice none 0 0]) (.agg [.int .i64, .int .i64, .slc, .slc]) x10 (.int .i64 x8)) fun (x11 : (Int × Int × Slc × Slc × Unit) × Bool) =>
  HM.bind (α := Int × Int × Slc × Slc × Unit) (HM.call1 Tryd.prog (.agg [.int .i64, .int .i64, .slc, .slc]) 63 #[.agg #[.int .i64 x11.1.1, .int .i64 x11.1.2.1, .slice x11.1.2.2.1.a x11.1.2.2.1.len x11.1.2.2.1.cap, .slice x11.1.2.2.2.1.a x11.1.2.2.2.1.len x11.1.2.2.2.1.cap]]) fun (x12 : Int × Int × Slc × Slc × Unit) =>
  HM.bind (α := Nat) (HM.new (.cells #[.int .i64 x12.1, .int .i64 x12.2.1, .slice x12.2.2.1.a x12.2.2.1.len x12.2.2.1.cap, .slice x12.2.2.2.1.a x12.2.2.2.1.len x12.2.2.2.1.cap] 54)) fun (x13 : Nat) =>
  HM.bind (α := Slc) (HM.append 54 4 64 #[.int .i64 0, .int .i64 0, .slice none 0 0, .slice none 0 0] x6.1 1 (srcSlc 4 (⟨some ⟨x13, 0, none⟩, 1, 1⟩))) fun (x14 : Slc) =>
  HM.pure (.inl (x14, IntKind.wrap .i64 (x6.2.1 + 1), ()))) (
  HM.pure (.inr (x6.1, x6.2.1, ())))) (⟨none, 0, 0⟩, 0, ())) fun (x5 : Slc × Int × Unit) =>
  HM.pure (x5.1, ()))

theorem advert_Base_List_den (p0 : Option Addr) : denFn Tryd.prog [65, 64, 63] 31 [0, 2, 3, 5, 7, 13, 14, 15, 16] [0, 3, 5, 7, 13, 14, 15, 16] Tryd.f31.results.toList [.one .slc] (bodyOf Tryd.f31) [Kind.val (.one .ptr) p0] = advert_Base_List p0 := by kernel_rfl
theorem advert_Base_List_calls (p0 : Option Addr) (h : Heap) (Q : Value → Heap → Prop) (hh : advert_Base_List p0 h fun x h' => Q (.slice x.1.a x.1.len x.1.cap) h') :
    HCalls Tryd.prog 31 #[.pointer p0] h Q := by
  rw [← advert_Base_List_den] at hh
  exact calls_of_den Tryd.func31 (by kernel_rfl) Tryd.ntmps31 (by kernel_rfl) (fun f hf => by
      rcases List.mem_cons.1 hf with rfl | hf
      · exact Tryd.call65
      rcases List.mem_cons.1 hf with rfl | hf
      · exact Tryd.call64
      rcases List.mem_cons.1 hf with rfl | hf
      · exact Tryd.call63
      cases hf) orders hh

/-- aqueduct/aqueductref21.Learn -/
def ref21_Learn (p0 : Option Addr) (p1 : Int × Int × Slc × Slc × Unit) : HM (Bool × Int × Unit) :=
  HM.bind (α := Nat) (HM.new (.cells #[.int .i64 p1.1, .int .i64 p1.2.1, .slice p1.2.2.1.a p1.2.2.1.len p1.2.2.1.cap, .slice p1.2.2.2.1.a p1.2.2.2.1.len p1.2.2.2.1.cap] 57)) fun (x1 : Nat) =>
  HM.bind (α := Int × Int × Slc × Slc × Unit) (HM.loadN [.int .i64, .int .i64, .slc, .slc] ⟨x1, 0, none⟩) fun (x2 : Int × Int × Slc × Slc × Unit) =>
  HM.bind (α := Bool) (HM.call1 Tryd.prog (.one .bool) 56 #[.agg #[.int .i64 x2.1, .int .i64 x2.2.1, .slice x2.2.2.1.a x2.2.2.1.len x2.2.2.1.cap, .slice x2.2.2.2.1.a x2.2.2.2.1.len x2.2.2.2.1.cap]]) fun (x3 : Bool) =>
  HM.ite (!x3) (
  HM.pure (false, 129, ())) (
  HM.bind (α := Int) (HM.load1 (.int .i64) (Addr.add ⟨x1, 0, none⟩ 0)) fun (x4 : Int) =>
  HM.bind (α := (Int × Int × Slc × Slc × Unit) × Bool × Unit) (HM.callN Tryd.prog [.agg [.int .i64, .int .i64, .slc, .slc], .one .bool] 34 #[.pointer p0, .int .i64 x4]) fun (x5 : (Int × Int × Slc × Slc × Unit) × Bool × Unit) =>
  HM.bind (α := Nat) (HM.new (.cells #[.int .i64 0, .int .i64 0, .slice none 0 0, .slice none 0 0] 57)) fun (x6 : Nat) =>
  HM.bind (α := Unit) (HM.storeN ⟨x6, 0, none⟩ [.int .i64 x5.1.1, .int .i64 x5.1.2.1, .slice x5.1.2.2.1.a x5.1.2.2.1.len x5.1.2.2.1.cap, .slice x5.1.2.2.2.1.a x5.1.2.2.2.1.len x5.1.2.2.2.1.cap]) fun (_ : Unit) =>
  HM.bind (α := Bool × Unit) (HM.ite x5.2.1 (
  HM.bind (α := Int) (HM.load1 (.int .i64) (Addr.add ⟨x6, 0, none⟩ 1)) fun (x7 : Int) =>
  HM.bind (α := Int) (HM.load1 (.int .i64) (Addr.add ⟨x1, 0, none⟩ 1)) fun (x8 : Int) =>
  HM.pure (decide (x8 ≤ (x7 : Int)), ())) (
  HM.pure (false, ()))) fun (x9 : Bool × Unit) =>
  HM.ite x9.1 (
  HM.pure (false, 0, ())) (
  HM.bind (α := Bool × Slc × Int × Unit) (HM.loop (σ := Bool × Slc × Int × Unit) (τ := Bool × Slc × Int × Unit) (fun (x11 : Bool × Slc × Int × Unit) =>
  HM.bind (α := Addr) (HM.nonnil p0) fun (x12 : Addr) =>
  HM.bind (α := Slc) (HM.load1 .slc (Addr.add x12 0)) fun (x13 : Slc) =>
  HM.ite (decide (x11.2.2.1 < (((x13.len : Nat) : Int) : Int))) (
  HM.bind (α := Addr) (HM.nonnil p0) fun (x14 : Addr) =>
  HM.bind (α := Slc) (HM.load1 .slc (Addr.add x14 0)) fun (x15 : Slc) =>
  HM.bind (α := Addr) (HM.idx x15.a x15.len x11.2.2.1 4) fun (x16 : Addr) =>
  HM.bind (α := Int × Int × Slc × Slc × Unit) (HM.loadN [.int .i64, .int .i64, .slc, .slc] x16) fun (x17 : Int × Int × Slc × Slc × Unit) =>
  HM.bind (α := Nat) (HM.new (.cells #[.int .i64 0, .int .i64 0, .slice none 0 0, .slice none 0 0] 57)) fun (x18 : Nat) =>
  HM.bind (α := Unit) (HM.storeN ⟨x18, 0, none⟩ [.int .i64 x17.1, .int .i64 x17.2.1, .slice x17.2.2.1.a x17.2.2.1.len x17.2.2.1.cap, .slice x17.2.2.2.1.a x17.2.2.2.1.len x17.2.2.2.1.cap]) fun (_ : Unit) =>
  HM.bind (α := Bool × Unit) (HM.ite (!x11.1) (
  HM.bind (α := Int) (HM.load1 (.int .i64) (Addr.add ⟨x1, 0, none⟩ 0)) fun (x19 : Int) =>
  HM.bind (α := Int) (HM.load1 (.int .i64) (Addr.add ⟨x18, 0, none⟩ 0)) fun (x20 : Int) =>
  HM.pure (decide (x19 ≤ (x20 : Int)), ())) (
  HM.pure (false, ()))) fun (x21 : Bool × Unit) =>
  HM.bind (α := Slc × Bool × Unit) (HM.ite x21.1 (
  HM.bind (α := Int × Int × Slc × Slc × Unit) (HM.loadN [.int .i64, .int .i64, .slc, .slc] ⟨x1, 0, none⟩) fun (x23 : Int × Int × Slc × Slc × Unit) =>
  HM.bind (α := Nat) (HM.new (.cells #[.int .i64 x23.1, .int .i64 x23.2.1, .slice x23.2.2.1.a x23.2.2.1.len x23.2.2.1.cap, .slice x23.2.2.2.1.a x23.2.2.2.1.len x23.2.2.2.1.cap] 57)) fun (x24 : Nat) =>
  HM.bind (α := Slc) (HM.append 57 4 64 #[.int .i64 0, .int .i64 0, .slice none 0 0, .slice none 0 0] x11.2.1 1 (srcSlc 4 (⟨some ⟨x24, 0, none⟩, 1, 1⟩))) fun (x25 : Slc) =>
  HM.pure (x25, true, ())) (
  HM.pure (x11.2.1, x11.1, ()))) fun (x22 : Slc × Bool × Unit) =>
  HM.bind (α := Int) (HM.load1 (.int .i64) (Addr.add ⟨x18, 0, none⟩ 0)) fun (x26 : Int) =>
  HM.bind (α := Int) (HM.load1 (.int .i64) (Addr.add ⟨x1, 0, none⟩ 0)) fun (x27 : Int) =>
  HM.bind (α := Slc × Unit) (HM.ite (!(x26 == x27)) (
  HM.bind (α := Int × Int × Slc × Slc × Unit) (HM.loadN [.int .i64, .int .i64, .slc, .slc] ⟨x18, 0, none⟩) fun (x29 : Int × Int × Slc × Slc × Unit) =>
  HM.bind (α := Nat) (HM.new (.cells #[.int .i64 x29.1, .int .i64 x29.2.1, .slice x29.2.2.1.a x29.2.2.1.len x29.2.2.1.cap, .slice x29.2.2.2.1.a x29.2.2.2.1.len x29.2.2.2.1.cap] 57)) fun (x30 : Nat) =>
  HM.bind (α := Slc) (HM.append 57 4 64 #[.int .i64 0, .int .i64 0, .slice none 0 0, .slice none 0 0] x22.1 1 (srcSlc 4 (⟨some ⟨x30, 0, none⟩, 1, 1⟩))) fun (x31 : Slc) =>
  HM.pure (x31, ())) (
  HM.pure (x22.1, ()))) fun (x28 : Slc × Unit) =>
  HM.pure (.inl (x22.2.1, x28.1, IntKind.wrap .i64 (x11.2.2.1 + 1), ()))) (
  HM.pure (.inr (x11.1, x11.2.1, x11.2.2.1, ())))) (false, ⟨none, 0, 0⟩, 0, ())) fun (x10 : Bool × Slc × Int × Unit) =>
  HM.bind (α := Slc × Unit) (HM.ite (!x10.1) (
  HM.bind (α := Int × Int × Slc × Slc × Unit) (HM.loadN [.int .i64, .int .i64, .slc, .slc] ⟨x1, 0, none⟩) fun (x33 : Int × Int × Slc × Slc × Unit) =>
  HM.bind (α := Nat) (HM.new (.cells #[.int .i64 x33.1, .int .i64 x33.2.1, .slice x33.2.2.1.a x33.2.2.1.len x33.2.2.1.cap, .slice x33.2.2.2.1.a x33.2.2.2.1.len x33.2.2.2.1.cap] 57)) fun (x34 : Nat) =>
  HM.bind (α := Slc) (HM.append 57 4 64 #[.int .i64 0, .int .i64 0, .slice none 0 0, .slice none 0 0] x10.2.1 1 (srcSlc 4 (⟨some ⟨x34, 0, none⟩, 1, 1⟩))) fun (x35 : Slc) =>
  HM.pure (x35, ())) (
  HM.pure (x10.2.1, ()))) fun (x32 : Slc × Unit) =>
  HM.bind (α := Addr) (HM.nonnil p0) fun (x36 : Addr) =>
  HM.bind (α := Unit) (HM.store1 (Addr.add x36 0) (.slice x32.1.a x32.1.len x32.1.cap)) fun (_ : Unit) =>
  HM.pure (true, 0, ())))

theorem ref21_Learn_den (p0 : Option Addr) (p1 : Int × Int × Slc × Slc × Unit) : denFn Tryd.prog [56, 34] 80 [0, 1, 3, 4, 5, 6, 7, 8, 9, 10, 11, 12, 16, 31, 38, 56, 65, 71] [0, 1, 3, 6, 7, 8, 9, 10, 11, 12, 16, 31, 38, 56, 65, 71] Tryd.f32.results.toList [.one .bool, .one (.int .i64)] (bodyOf Tryd.f32) [Kind.val (.one .ptr) p0, Kind.val (.agg [.int .i64, .int .i64, .slc, .slc]) p1] = ref21_Learn p0 p1 := by kernel_rfl
theorem ref21_Learn_calls (p0 : Option Addr) (p1 : Int × Int × Slc × Slc × Unit) (h : Heap) (Q : Value → Heap → Prop) (hh : ref21_Learn p0 p1 h fun x h' => Q (.tuple #[.bool x.1, .int .i64 x.2.1]) h') :
    HCalls Tryd.prog 32 #[.pointer p0, .agg #[.int .i64 p1.1, .int .i64 p1.2.1, .slice p1.2.2.1.a p1.2.2.1.len p1.2.2.1.cap, .slice p1.2.2.2.1.a p1.2.2.2.1.len p1.2.2.2.1.cap]] h Q := by
  rw [← ref21_Learn_den] at hh
  exact calls_of_den Tryd.func32 (by kernel_rfl) Tryd.ntmps32 (by kernel_rfl) (fun f hf => by
      rcases List.mem_cons.1 hf with rfl | hf
      · exact Tryd.call56
      rcases List.mem_cons.1 hf with rfl | hf
      · exact Tryd.call34
      cases hf) orders hh

/-- (*aqueduct/advert.Base).Of -/
def advert_Base_Of (p0 : Option Addr) (p1 : Int) : HM ((Int × Int × Slc × Slc × Unit) × Bool × Unit) :=
  HM.bind (α := Nat) (HM.new (.cells #[.int .i64 0, .int .i64 0, .slice none 0 0, .slice none 0 0] 54)) fun (x1 : Nat) =>
  HM.ite (Option.isNone p0) (
  HM.bind (α := Unit) (HM.storeN ⟨x1, 0, none⟩ [.int .i64 0, .int .i64 0, .slice none 0 0, .slice none 0 0]) fun (_ : Unit) =>
  HM.bind (α := Int × Int × Slc × Slc × Unit) (HM.loadN [.int .i64, .int .i64, .slc, .slc] ⟨x1, 0, none⟩) fun (x2 : Int × Int × Slc × Slc × Unit) =>
  HM.pure ((x2.1, x2.2.1, x2.2.2.1, x2.2.2.2.1, ()), false, ())) (
  HM.bind (α := Addr) (HM.nonnil p0) fun (x3 : Addr) =>
  HM.bind (α := Option Nat) (HM.load1 .map (Addr.add x3 0)) fun (x4 : Option Nat) =>
  HM.bind (α := (Int × Int × Slc × Slc × Unit) × Bool) (HM.lookup (Instr.sameNow (.int .i64)) (.agg #[.int .i64 0, .int .i64 0, .slice none 0 0, .slice none 0 0]) (.agg [.int .i64, .int .i64, .slc, .slc]) x4 (.int .i64 p1)) fun (x5 : (Int × Int × Slc × Slc × Unit) × Bool) =>
  HM.bind (α := Nat) (HM.new (.cells #[.int .i64 0, .int .i64 0, .slice none 0 0, .slice none 0 0] 54)) fun (x6 : Nat) =>
  HM.bind (α := Unit) (HM.storeN ⟨x6, 0, none⟩ [.int .i64 x5.1.1, .int .i64 x5.1.2.1, .slice x5.1.2.2.1.a x5.1.2.2.1.len x5.1.2.2.1.cap, .slice x5.1.2.2.2.1.a x5.1.2.2.2.1.len x5.1.2.2.2.1.cap]) fun (_ : Unit) =>
  HM.bind (α := Int × Int × Slc × Slc × Unit) (HM.loadN [.int .i64, .int .i64, .slc, .slc] ⟨x6, 0, none⟩) fun (x7 : Int × Int × Slc × Slc × Unit) =>
  HM.bind (α := Int × Int × Slc × Slc × Unit) (HM.call1 Tryd.prog (.agg [.int .i64, .int .i64, .slc, .slc]) 63 #[.agg #[.int .i64 x7.1, .int .i64 x7.2.1, .slice x7.2.2.1.a x7.2.2.1.len x7.2.2.1.cap, .slice x7.2.2.2.1.a x7.2.2.2.1.len x7.2.2.2.1.cap]]) fun (x8 : Int × Int × Slc × Slc × Unit) =>
  HM.bind (α := Unit) (HM.storeN ⟨x1, 0, none⟩ [.int .i64 x8.1, .int .i64 x8.2.1, .slice x8.2.2.1.a x8.2.2.1.len x8.2.2.1.cap, .slice x8.2.2.2.1.a x8.2.2.2.1.len x8.2.2.2.1.cap]) fun (_ : Unit) =>
  HM.bind (α := Int × Int × Slc × Slc × Unit) (HM.loadN [.int .i64, .int .i64, .slc, .slc] ⟨x1, 0, none⟩) fun (x9 : Int × Int × Slc × Slc × Unit) =>
  HM.pure ((x9.1, x9.2.1, x9.2.2.1, x9.2.2.2.1, ()), x5.2, ()))

theorem advert_Base_Of_den (p0 : Option Addr) (p1 : Int) : denFn Tryd.prog [63] 23 [0, 1, 4, 5, 6, 7, 9] [0, 1, 4, 6, 7, 9] Tryd.f33.results.toList [.agg [.int .i64, .int .i64, .slc, .slc], .one .bool] (bodyOf Tryd.f33) [Kind.val (.one .ptr) p0, Kind.val (.one (.int .i64)) p1] = advert_Base_Of p0 p1 := by kernel_rfl
theorem advert_Base_Of_calls (p0 : Option Addr) (p1 : Int) (h : Heap) (Q : Value → Heap → Prop) (hh : advert_Base_Of p0 p1 h fun x h' => Q (.tuple #[.agg #[.int .i64 x.1.1, .int .i64 x.1.2.1, .slice x.1.2.2.1.a x.1.2.2.1.len x.1.2.2.1.cap, .slice x.1.2.2.2.1.a x.1.2.2.2.1.len x.1.2.2.2.1.cap], .bool x.2.1]) h') :
    HCalls Tryd.prog 33 #[.pointer p0, .int .i64 p1] h Q := by
  rw [← advert_Base_Of_den] at hh
  exact calls_of_den Tryd.func33 (by kernel_rfl) Tryd.ntmps33 (by kernel_rfl) (fun f hf => by
      rcases List.mem_cons.1 hf with rfl | hf
      · exact Tryd.call63
      cases hf) orders hh

/-- aqueduct/aqueductref21.Of -/
def ref21_Of (p0 : Option Addr) (p1 : Int) : HM ((Int × Int × Slc × Slc × Unit) × Bool × Unit) :=
  HM.bind (α := Nat) (HM.new (.cells #[.int .i64 0, .int .i64 0, .slice none 0 0, .slice none 0 0] 57)) fun (x1 : Nat) =>
  HM.bind (α := (Int × Unit) ⊕ ((Int × Int × Slc × Slc × Unit) × Bool × Unit)) (HM.loop (σ := Int × Unit) (τ := (Int × Unit) ⊕ ((Int × Int × Slc × Slc × Unit) × Bool × Unit)) (fun (x3 : Int × Unit) =>
  HM.bind (α := Addr) (HM.nonnil p0) fun (x4 : Addr) =>
  HM.bind (α := Slc) (HM.load1 .slc (Addr.add x4 0)) fun (x5 : Slc) =>
  HM.ite (decide (x3.1 < (((x5.len : Nat) : Int) : Int))) (
  HM.bind (α := Addr) (HM.nonnil p0) fun (x6 : Addr) =>
  HM.bind (α := Slc) (HM.load1 .slc (Addr.add x6 0)) fun (x7 : Slc) =>
  HM.bind (α := Addr) (HM.idx x7.a x7.len x3.1 4) fun (x8 : Addr) =>
  HM.bind (α := Int) (HM.load1 (.int .i64) (Addr.add x8 0)) fun (x9 : Int) =>
  HM.ite (x9 == p1) (
  HM.bind (α := Addr) (HM.nonnil p0) fun (x10 : Addr) =>
  HM.bind (α := Slc) (HM.load1 .slc (Addr.add x10 0)) fun (x11 : Slc) =>
  HM.bind (α := Addr) (HM.idx x11.a x11.len x3.1 4) fun (x12 : Addr) =>
  HM.bind (α := Int × Int × Slc × Slc × Unit) (HM.loadN [.int .i64, .int .i64, .slc, .slc] x12) fun (x13 : Int × Int × Slc × Slc × Unit) =>
  HM.bind (α := Unit) (HM.storeN ⟨x1, 0, none⟩ [.int .i64 x13.1, .int .i64 x13.2.1, .slice x13.2.2.1.a x13.2.2.1.len x13.2.2.1.cap, .slice x13.2.2.2.1.a x13.2.2.2.1.len x13.2.2.2.1.cap]) fun (_ : Unit) =>
  HM.bind (α := Int × Int × Slc × Slc × Unit) (HM.loadN [.int .i64, .int .i64, .slc, .slc] ⟨x1, 0, none⟩) fun (x14 : Int × Int × Slc × Slc × Unit) =>
  HM.pure (.inr (.inr ((x14.1, x14.2.1, x14.2.2.1, x14.2.2.2.1, ()), true, ())))) (
  HM.pure (.inl (IntKind.wrap .i64 (x3.1 + 1), ())))) (
  HM.pure (.inr (.inl (x3.1, ()))))) (0, ())) (Sum.elim (fun (x2 : Int × Unit) =>
  HM.bind (α := Unit) (HM.storeN ⟨x1, 0, none⟩ [.int .i64 0, .int .i64 0, .slice none 0 0, .slice none 0 0]) fun (_ : Unit) =>
  HM.bind (α := Int × Int × Slc × Slc × Unit) (HM.loadN [.int .i64, .int .i64, .slc, .slc] ⟨x1, 0, none⟩) fun (x15 : Int × Int × Slc × Slc × Unit) =>
  HM.pure ((x15.1, x15.2.1, x15.2.2.1, x15.2.2.2.1, ()), false, ())) HM.pure)

theorem ref21_Of_den (p0 : Option Addr) (p1 : Int) : denFn Tryd.prog [] 34 [0, 1, 4, 5, 6, 13, 25] [0, 1, 4, 6, 13, 25] Tryd.f34.results.toList [.agg [.int .i64, .int .i64, .slc, .slc], .one .bool] (bodyOf Tryd.f34) [Kind.val (.one .ptr) p0, Kind.val (.one (.int .i64)) p1] = ref21_Of p0 p1 := by kernel_rfl
theorem ref21_Of_calls (p0 : Option Addr) (p1 : Int) (h : Heap) (Q : Value → Heap → Prop) (hh : ref21_Of p0 p1 h fun x h' => Q (.tuple #[.agg #[.int .i64 x.1.1, .int .i64 x.1.2.1, .slice x.1.2.2.1.a x.1.2.2.1.len x.1.2.2.1.cap, .slice x.1.2.2.2.1.a x.1.2.2.2.1.len x.1.2.2.2.1.cap], .bool x.2.1]) h') :
    HCalls Tryd.prog 34 #[.pointer p0, .int .i64 p1] h Q := by
  rw [← ref21_Of_den] at hh
  exact calls_of_den Tryd.func34 (by kernel_rfl) Tryd.ntmps34 (by kernel_rfl) (fun f hf => by cases hf) orders hh

/-- aqueduct/bridge.Delay -/
def bridge_Delay (p0 : Int) (p1 : Int) (p2 : Int) (p3 : Int) : HM (Int × Unit) :=
  HM.bind (α := Int × Int × Unit) (HM.loop (σ := Int × Int × Unit) (τ := Int × Int × Unit) (fun (x2 : Int × Int × Unit) =>
  HM.bind (α := Bool × Unit) (HM.ite (decide (0 < (x2.2.1 : Int))) (
  HM.pure (decide (x2.1 < ((if (if 1 < ((if 1048576 < (p1 : Int) then 1048576 else p1) : Int) then (if 1048576 < (p1 : Int) then 1048576 else p1) else 1) < ((if 1048576 < (p2 : Int) then 1048576 else p2) : Int) then (if 1048576 < (p2 : Int) then 1048576 else p2) else (if 1 < ((if 1048576 < (p1 : Int) then 1048576 else p1) : Int) then (if 1048576 < (p1 : Int) then 1048576 else p1) else 1)) : Int)), ())) (
  HM.pure (false, ()))) fun (x3 : Bool × Unit) =>
  HM.ite x3.1 (
  HM.pure (.inl (IntKind.wrap .i64 (x2.1 * 2), IntKind.wrap .i64 (x2.2.1 - 1), ()))) (
  HM.pure (.inr (x2.1, x2.2.1, ())))) (if 1 < ((if 1048576 < (p1 : Int) then 1048576 else p1) : Int) then (if 1048576 < (p1 : Int) then 1048576 else p1) else 1, p0, ())) fun (x1 : Int × Int × Unit) =>
  HM.req (2 ≠ (0 : Int)) <|
  HM.req ((IntKind.wrap .u64 (IntKind.wrap .i64 ((IntKind.wrap .i64 (Int.tdiv (if (if (if 1 < ((if 1048576 < (p1 : Int) then 1048576 else p1) : Int) then (if 1048576 < (p1 : Int) then 1048576 else p1) else 1) < ((if 1048576 < (p2 : Int) then 1048576 else p2) : Int) then (if 1048576 < (p2 : Int) then 1048576 else p2) else (if 1 < ((if 1048576 < (p1 : Int) then 1048576 else p1) : Int) then (if 1048576 < (p1 : Int) then 1048576 else p1) else 1)) < (x1.1 : Int) then (if (if 1 < ((if 1048576 < (p1 : Int) then 1048576 else p1) : Int) then (if 1048576 < (p1 : Int) then 1048576 else p1) else 1) < ((if 1048576 < (p2 : Int) then 1048576 else p2) : Int) then (if 1048576 < (p2 : Int) then 1048576 else p2) else (if 1 < ((if 1048576 < (p1 : Int) then 1048576 else p1) : Int) then (if 1048576 < (p1 : Int) then 1048576 else p1) else 1)) else x1.1) 2)) + 1))) ≠ (0 : Int)) <|
  HM.pure (IntKind.wrap .i64 ((if (if (if 1 < ((if 1048576 < (p1 : Int) then 1048576 else p1) : Int) then (if 1048576 < (p1 : Int) then 1048576 else p1) else 1) < ((if 1048576 < (p2 : Int) then 1048576 else p2) : Int) then (if 1048576 < (p2 : Int) then 1048576 else p2) else (if 1 < ((if 1048576 < (p1 : Int) then 1048576 else p1) : Int) then (if 1048576 < (p1 : Int) then 1048576 else p1) else 1)) < (x1.1 : Int) then (if (if 1 < ((if 1048576 < (p1 : Int) then 1048576 else p1) : Int) then (if 1048576 < (p1 : Int) then 1048576 else p1) else 1) < ((if 1048576 < (p2 : Int) then 1048576 else p2) : Int) then (if 1048576 < (p2 : Int) then 1048576 else p2) else (if 1 < ((if 1048576 < (p1 : Int) then 1048576 else p1) : Int) then (if 1048576 < (p1 : Int) then 1048576 else p1) else 1)) else x1.1) + (IntKind.wrap .i64 (Int.tmod p3 (IntKind.wrap .u64 (IntKind.wrap .i64 ((IntKind.wrap .i64 (Int.tdiv (if (if (if 1 < ((if 1048576 < (p1 : Int) then 1048576 else p1) : Int) then (if 1048576 < (p1 : Int) then 1048576 else p1) else 1) < ((if 1048576 < (p2 : Int) then 1048576 else p2) : Int) then (if 1048576 < (p2 : Int) then 1048576 else p2) else (if 1 < ((if 1048576 < (p1 : Int) then 1048576 else p1) : Int) then (if 1048576 < (p1 : Int) then 1048576 else p1) else 1)) < (x1.1 : Int) then (if (if 1 < ((if 1048576 < (p1 : Int) then 1048576 else p1) : Int) then (if 1048576 < (p1 : Int) then 1048576 else p1) else 1) < ((if 1048576 < (p2 : Int) then 1048576 else p2) : Int) then (if 1048576 < (p2 : Int) then 1048576 else p2) else (if 1 < ((if 1048576 < (p1 : Int) then 1048576 else p1) : Int) then (if 1048576 < (p1 : Int) then 1048576 else p1) else 1)) else x1.1) 2)) + 1)))))), ())

theorem bridge_Delay_den (p0 : Int) (p1 : Int) (p2 : Int) (p3 : Int) : denFn Tryd.prog [] 40 [0, 1, 2, 3, 8, 9, 23] [0, 1, 2, 3, 9, 23] Tryd.f35.results.toList [.one (.int .i64)] (bodyOf Tryd.f35) [Kind.val (.one (.int .i64)) p0, Kind.val (.one (.int .i64)) p1, Kind.val (.one (.int .i64)) p2, Kind.val (.one (.int .u64)) p3] = bridge_Delay p0 p1 p2 p3 := by kernel_rfl
theorem bridge_Delay_calls (p0 : Int) (p1 : Int) (p2 : Int) (p3 : Int) (h : Heap) (Q : Value → Heap → Prop) (hh : bridge_Delay p0 p1 p2 p3 h fun x h' => Q (.int .i64 x.1) h') :
    HCalls Tryd.prog 35 #[.int .i64 p0, .int .i64 p1, .int .i64 p2, .int .u64 p3] h Q := by
  rw [← bridge_Delay_den] at hh
  exact calls_of_den Tryd.func35 (by kernel_rfl) Tryd.ntmps35 (by kernel_rfl) (fun f hf => by cases hf) orders hh

/-- aqueduct/aqueductlaw23.wakes -/
def law23_wakes : HM (Bool × Unit) :=
  HM.bind (α := Nat) (HM.new (.cells #[.string (ByteArray.mk #[35]), .int .i64 0, .int .i64 1, .string (ByteArray.mk #[]), .string (ByteArray.mk #[120, 47])] 94)) fun (x1 : Nat) =>
  HM.bind (α := Option Addr × Int × Unit) (HM.callN Tryd.prog [.one .ptr, .one (.int .u8)] 66 #[.slice (some ⟨x1, 0, none⟩) 1 1]) fun (x2 : Option Addr × Int × Unit) =>
  HM.bind (α := Slc) (HM.call1 Tryd.prog (.one .slc) 67 #[.pointer x2.1, .agg #[.int .i64 0, .int .i64 5, .int .i64 0, .int .i64 2], .agg #[.string (ByteArray.mk #[97]), .string (ByteArray.mk #[112]), .int .i64 0, .bool false, .string (ByteArray.mk #[])]]) fun (x3 : Slc) =>
  HM.bind (α := Bool × Unit) (HM.ite (x2.2.1 == 0) (
  HM.ite (((x3.len : Nat) : Int) == 1) (
  HM.bind (α := Addr) (HM.idx x3.a x3.len 0 5) fun (x4 : Addr) =>
  HM.bind (α := ByteArray × ByteArray × Int × Bool × ByteArray × Unit) (HM.loadN [.str, .str, .int .i64, .bool, .str] x4) fun (x5 : ByteArray × ByteArray × Int × Bool × ByteArray × Unit) =>
  HM.ite ((decide (x5.1 = (ByteArray.mk #[120, 47, 97]))) && ((decide (x5.2.1 = (ByteArray.mk #[112]))) && ((x5.2.2.1 == 1) && ((x5.2.2.2.1 == false) && ((decide (x5.2.2.2.2.1 = (ByteArray.mk #[48, 46, 53, 46, 49, 46, 49]))) && true))))) (
  HM.bind (α := Int) (HM.call1 Tryd.prog (.one (.int .i64)) 35 #[.int .i64 2, .int .i64 10, .int .i64 100, .int .u64 7]) fun (x6 : Int) =>
  HM.pure (x6 == 47, ())) (
  HM.pure (false, ()))) (
  HM.pure (false, ()))) (
  HM.pure (false, ()))) fun (x7 : Bool × Unit) =>
  HM.pure (x7.1, ())

theorem law23_wakes_den : denFn Tryd.prog [66, 67, 35] 33 [0, 1, 2, 3] [1, 2, 3] Tryd.f36.results.toList [.one .bool] (bodyOf Tryd.f36) [] = law23_wakes := by kernel_rfl
theorem law23_wakes_calls (h : Heap) (Q : Value → Heap → Prop) (hh : law23_wakes h fun x h' => Q (.bool x.1) h') :
    HCalls Tryd.prog 36 #[] h Q := by
  rw [← law23_wakes_den] at hh
  exact calls_of_den Tryd.func36 (by kernel_rfl) Tryd.ntmps36 (by kernel_rfl) (fun f hf => by
      rcases List.mem_cons.1 hf with rfl | hf
      · exact Tryd.call66
      rcases List.mem_cons.1 hf with rfl | hf
      · exact Tryd.call67
      rcases List.mem_cons.1 hf with rfl | hf
      · exact Tryd.call35
      cases hf) orders hh

/-- aqueduct/aqueductref23.Delay -/
def ref23_Delay (p0 : Int) (p1 : Int) (p2 : Int) (p3 : Int) : HM (Int × Unit) :=
  HM.bind (α := Int) (HM.call1 Tryd.prog (.one (.int .i64)) 68 #[.int .i64 p1, .int .i64 1, .int .i64 1048576]) fun (x1 : Int) =>
  HM.bind (α := Int) (HM.call1 Tryd.prog (.one (.int .i64)) 68 #[.int .i64 p2, .int .i64 x1, .int .i64 1048576]) fun (x2 : Int) =>
  HM.bind (α := Int × Int × Unit) (HM.loop (σ := Int × Int × Unit) (τ := Int × Int × Unit) (fun (x4 : Int × Int × Unit) =>
  HM.bind (α := Bool × Unit) (HM.ite (decide (x4.2.1 < (p0 : Int))) (
  HM.pure (decide (x4.1 < (x2 : Int)), ())) (
  HM.pure (false, ()))) fun (x5 : Bool × Unit) =>
  HM.ite x5.1 (
  HM.bind (α := Int) (HM.call1 Tryd.prog (.one (.int .i64)) 68 #[.int .i64 (IntKind.wrap .i64 (2 * x4.1)), .int .i64 1, .int .i64 x2]) fun (x6 : Int) =>
  HM.pure (.inl (x6, IntKind.wrap .i64 (x4.2.1 + 1), ()))) (
  HM.pure (.inr (x4.1, x4.2.1, ())))) (x1, 0, ())) fun (x3 : Int × Int × Unit) =>
  HM.req (2 ≠ (0 : Int)) <|
  HM.req ((IntKind.wrap .u64 (IntKind.wrap .i64 ((IntKind.wrap .i64 (Int.tdiv x3.1 2)) + 1))) ≠ (0 : Int)) <|
  HM.pure (IntKind.wrap .i64 (x3.1 + (IntKind.wrap .i64 (Int.tmod p3 (IntKind.wrap .u64 (IntKind.wrap .i64 ((IntKind.wrap .i64 (Int.tdiv x3.1 2)) + 1)))))), ())

theorem ref23_Delay_den (p0 : Int) (p1 : Int) (p2 : Int) (p3 : Int) : denFn Tryd.prog [68] 40 [0, 1, 2, 3, 8, 9, 10, 11, 24] [0, 1, 2, 3, 9, 10, 11, 24] Tryd.f37.results.toList [.one (.int .i64)] (bodyOf Tryd.f37) [Kind.val (.one (.int .i64)) p0, Kind.val (.one (.int .i64)) p1, Kind.val (.one (.int .i64)) p2, Kind.val (.one (.int .u64)) p3] = ref23_Delay p0 p1 p2 p3 := by kernel_rfl
theorem ref23_Delay_calls (p0 : Int) (p1 : Int) (p2 : Int) (p3 : Int) (h : Heap) (Q : Value → Heap → Prop) (hh : ref23_Delay p0 p1 p2 p3 h fun x h' => Q (.int .i64 x.1) h') :
    HCalls Tryd.prog 37 #[.int .i64 p0, .int .i64 p1, .int .i64 p2, .int .u64 p3] h Q := by
  rw [← ref23_Delay_den] at hh
  exact calls_of_den Tryd.func37 (by kernel_rfl) Tryd.ntmps37 (by kernel_rfl) (fun f hf => by
      rcases List.mem_cons.1 hf with rfl | hf
      · exact Tryd.call68
      cases hf) orders hh

/-- aqueduct/aqueductlaw21.rule -/
def law21_rule (p0 : ByteArray × Int × Int × ByteArray × ByteArray × Unit) : HM ((ByteArray × Int × Int × ByteArray × ByteArray × Unit) × (ByteArray × Int × Int × ByteArray × ByteArray × Unit) × Unit) :=
  HM.bind (α := Nat) (HM.new (.cells #[.string p0.1, .int .i64 p0.2.1, .int .i64 p0.2.2.1, .string p0.2.2.2.1, .string p0.2.2.2.2.1] 117)) fun (x1 : Nat) =>
  HM.bind (α := Nat) (HM.new (.cells #[.string (ByteArray.mk #[]), .int .i64 0, .int .i64 0, .string (ByteArray.mk #[]), .string (ByteArray.mk #[])] 94)) fun (x2 : Nat) =>
  HM.bind (α := Nat) (HM.new (.cells #[.string (ByteArray.mk #[]), .int .i64 0, .int .i64 0, .string (ByteArray.mk #[]), .string (ByteArray.mk #[])] 120)) fun (x3 : Nat) =>
  HM.bind (α := ByteArray) (HM.load1 .str (Addr.add ⟨x1, 0, none⟩ 0)) fun (x4 : ByteArray) =>
  HM.bind (α := Int) (HM.load1 (.int .i64) (Addr.add ⟨x1, 0, none⟩ 1)) fun (x5 : Int) =>
  HM.bind (α := Int) (HM.load1 (.int .i64) (Addr.add ⟨x1, 0, none⟩ 2)) fun (x6 : Int) =>
  HM.bind (α := ByteArray) (HM.load1 .str (Addr.add ⟨x1, 0, none⟩ 3)) fun (x7 : ByteArray) =>
  HM.bind (α := ByteArray) (HM.load1 .str (Addr.add ⟨x1, 0, none⟩ 4)) fun (x8 : ByteArray) =>
  HM.bind (α := ByteArray × Int × Int × ByteArray × ByteArray × Unit) (HM.loadN [.str, .int .i64, .int .i64, .str, .str] ⟨x1, 0, none⟩) fun (x9 : ByteArray × Int × Int × ByteArray × ByteArray × Unit) =>
  HM.bind (α := Unit) (HM.storeN ⟨x2, 0, none⟩ [.string x4, .int .i64 x5, .int .i64 x6, .string x7, .string x8]) fun (_ : Unit) =>
  HM.bind (α := ByteArray × Int × Int × ByteArray × ByteArray × Unit) (HM.loadN [.str, .int .i64, .int .i64, .str, .str] ⟨x1, 0, none⟩) fun (x10 : ByteArray × Int × Int × ByteArray × ByteArray × Unit) =>
  HM.req ((.agg #[.string x10.1, .int .i64 x10.2.1, .int .i64 x10.2.2.1, .string x10.2.2.2.1, .string x10.2.2.2.2.1] : Value) = .agg #[.string x9.1, .int .i64 x9.2.1, .int .i64 x9.2.2.1, .string x9.2.2.2.1, .string x9.2.2.2.2.1]) <|
  HM.bind (α := Unit) (HM.storeN ⟨x3, 0, none⟩ [.string x9.1, .int .i64 x9.2.1, .int .i64 x9.2.2.1, .string x9.2.2.2.1, .string x9.2.2.2.2.1]) fun (_ : Unit) =>
  HM.bind (α := ByteArray × Int × Int × ByteArray × ByteArray × Unit) (HM.loadN [.str, .int .i64, .int .i64, .str, .str] ⟨x2, 0, none⟩) fun (x11 : ByteArray × Int × Int × ByteArray × ByteArray × Unit) =>
  HM.bind (α := ByteArray × Int × Int × ByteArray × ByteArray × Unit) (HM.loadN [.str, .int .i64, .int .i64, .str, .str] ⟨x3, 0, none⟩) fun (x12 : ByteArray × Int × Int × ByteArray × ByteArray × Unit) =>
  HM.pure ((x11.1, x11.2.1, x11.2.2.1, x11.2.2.2.1, x11.2.2.2.2.1, ()), (x12.1, x12.2.1, x12.2.2.1, x12.2.2.2.1, x12.2.2.2.2.1, ()), ())

theorem law21_rule_den (p0 : ByteArray × Int × Int × ByteArray × ByteArray × Unit) : denFn Tryd.prog [] 16 [0, 1, 2, 3] [0, 1, 2, 3] Tryd.f48.results.toList [.agg [.str, .int .i64, .int .i64, .str, .str], .agg [.str, .int .i64, .int .i64, .str, .str]] (bodyOf Tryd.f48) [Kind.val (.agg [.str, .int .i64, .int .i64, .str, .str]) p0] = law21_rule p0 := by kernel_rfl
theorem law21_rule_calls (p0 : ByteArray × Int × Int × ByteArray × ByteArray × Unit) (h : Heap) (Q : Value → Heap → Prop) (hh : law21_rule p0 h fun x h' => Q (.tuple #[.agg #[.string x.1.1, .int .i64 x.1.2.1, .int .i64 x.1.2.2.1, .string x.1.2.2.2.1, .string x.1.2.2.2.2.1], .agg #[.string x.2.1.1, .int .i64 x.2.1.2.1, .int .i64 x.2.1.2.2.1, .string x.2.1.2.2.2.1, .string x.2.1.2.2.2.2.1]]) h') :
    HCalls Tryd.prog 48 #[.agg #[.string p0.1, .int .i64 p0.2.1, .int .i64 p0.2.2.1, .string p0.2.2.2.1, .string p0.2.2.2.2.1]] h Q := by
  rw [← law21_rule_den] at hh
  exact calls_of_den Tryd.func48 (by kernel_rfl) Tryd.ntmps48 (by kernel_rfl) (fun f hf => by cases hf) orders hh

/-- (aqueduct/advert.Advert).good -/
def advert_Advert_good (p0 : Int × Int × Slc × Slc × Unit) : HM (Bool × Unit) :=
  HM.bind (α := Nat) (HM.new (.cells #[.int .i64 p0.1, .int .i64 p0.2.1, .slice p0.2.2.1.a p0.2.2.1.len p0.2.2.1.cap, .slice p0.2.2.2.1.a p0.2.2.2.1.len p0.2.2.2.1.cap] 54)) fun (x1 : Nat) =>
  HM.bind (α := Bool × Unit) (HM.bind (α := Int) (HM.load1 (.int .i64) (Addr.add ⟨x1, 0, none⟩ 0)) fun (x2 : Int) =>
  HM.bind (α := Bool) (HM.call1 Tryd.prog (.one .bool) 79 #[.int .i64 x2]) fun (x3 : Bool) =>
  HM.ite (!x3) (
  HM.pure (true, ())) (
  HM.bind (α := Int) (HM.load1 (.int .i64) (Addr.add ⟨x1, 0, none⟩ 1)) fun (x4 : Int) =>
  HM.ite (decide (x4 < (1 : Int))) (
  HM.pure (true, ())) (
  HM.bind (α := Int) (HM.load1 (.int .i64) (Addr.add ⟨x1, 0, none⟩ 1)) fun (x5 : Int) =>
  HM.ite (decide (9007199254740992 < (x5 : Int))) (
  HM.pure (true, ())) (
  HM.bind (α := Slc) (HM.load1 .slc (Addr.add ⟨x1, 0, none⟩ 2)) fun (x6 : Slc) =>
  HM.ite (decide (64 < (((x6.len : Nat) : Int) : Int))) (
  HM.pure (true, ())) (
  HM.bind (α := Slc) (HM.load1 .slc (Addr.add ⟨x1, 0, none⟩ 3)) fun (x7 : Slc) =>
  HM.pure (decide (16 < (((x7.len : Nat) : Int) : Int)), ())))))) fun (x8 : Bool × Unit) =>
  HM.ite x8.1 (
  HM.pure (false, ())) (
  HM.bind (α := Slc) (HM.load1 .slc (Addr.add ⟨x1, 0, none⟩ 2)) fun (x9 : Slc) =>
  HM.bind (α := Bool) (HM.call1 Tryd.prog (.one .bool) 80 #[.slice x9.a x9.len x9.cap, .func (.func 81) #[] #[]]) fun (x10 : Bool) =>
  HM.bind (α := Bool × Unit) (HM.ite (!x10) (
  HM.bind (α := Slc) (HM.load1 .slc (Addr.add ⟨x1, 0, none⟩ 3)) fun (x11 : Slc) =>
  HM.bind (α := Bool) (HM.call1 Tryd.prog (.one .bool) 82 #[.slice x11.a x11.len x11.cap, .func (.func 83) #[] #[.pointer (some ⟨x1, 0, none⟩)]]) fun (x12 : Bool) =>
  HM.pure (!x12, ())) (
  HM.pure (false, ()))) fun (x13 : Bool × Unit) =>
  HM.pure (x13.1, ()))

theorem advert_Advert_good_den (p0 : Int × Int × Slc × Slc × Unit) : denFn Tryd.prog [79, 80, 82] 42 [0, 1, 2, 3, 29] [0, 1, 3, 29] Tryd.f49.results.toList [.one .bool] (bodyOf Tryd.f49) [Kind.val (.agg [.int .i64, .int .i64, .slc, .slc]) p0] = advert_Advert_good p0 := by kernel_rfl
theorem advert_Advert_good_calls (p0 : Int × Int × Slc × Slc × Unit) (h : Heap) (Q : Value → Heap → Prop) (hh : advert_Advert_good p0 h fun x h' => Q (.bool x.1) h') :
    HCalls Tryd.prog 49 #[.agg #[.int .i64 p0.1, .int .i64 p0.2.1, .slice p0.2.2.1.a p0.2.2.1.len p0.2.2.1.cap, .slice p0.2.2.2.1.a p0.2.2.2.1.len p0.2.2.2.1.cap]] h Q := by
  rw [← advert_Advert_good_den] at hh
  exact calls_of_den Tryd.func49 (by kernel_rfl) Tryd.ntmps49 (by kernel_rfl) (fun f hf => by
      rcases List.mem_cons.1 hf with rfl | hf
      · exact Tryd.call79
      rcases List.mem_cons.1 hf with rfl | hf
      · exact Tryd.call80
      rcases List.mem_cons.1 hf with rfl | hf
      · exact Tryd.call82
      cases hf) orders hh

/-- aqueduct/advert.Put$1 -/
def advert_Put_f1 (p0 : Int) (p1 : Int) (p2 : Addr) : HM (Unit) :=
  HM.bind (α := ByteArray × Int × Unit) (HM.callN Tryd.prog [.one .str, .one (.int .u8)] 51 #[.int .i64 p0, .int .i64 p1]) fun (x1 : ByteArray × Int × Unit) =>
  HM.bind (α := Int × Value × Unit) (HM.callN Tryd.prog [.one (.int .i64), .one .any] 52 #[.pointer (some p2), .string x1.1]) fun (x2 : Int × Value × Unit) =>
  HM.pure ()

theorem advert_Put_f1_den (p0 : Int) (p1 : Int) (p2 : Addr) : denFn Tryd.prog [51, 52] 15 [0, 1, 2, 5] [0, 1, 2, 5] Tryd.f50.results.toList [] (bodyOf Tryd.f50) [Kind.val (.one (.int .i64)) p0, Kind.val (.one (.int .i64)) p1, Value.pointer (some p2)] = advert_Put_f1 p0 p1 p2 := by kernel_rfl
theorem advert_Put_f1_calls (p0 : Int) (p1 : Int) (p2 : Addr) (h : Heap) (Q : Value → Heap → Prop) (hh : advert_Put_f1 p0 p1 p2 h fun x h' => Q (.tuple #[]) h') :
    HCalls Tryd.prog 50 #[.int .i64 p0, .int .i64 p1, .pointer (some p2)] h Q := by
  rw [← advert_Put_f1_den] at hh
  exact calls_of_den Tryd.func50 (by kernel_rfl) Tryd.ntmps50 (by kernel_rfl) (fun f hf => by
      rcases List.mem_cons.1 hf with rfl | hf
      · exact Tryd.call51
      rcases List.mem_cons.1 hf with rfl | hf
      · exact Tryd.call52
      cases hf) orders hh

/-- aqueduct/varint.Fixed -/
def varint_Fixed (p0 : Int) (p1 : Int) : HM (ByteArray × Int × Unit) :=
  HM.bind (α := Bool) (HM.call1 Tryd.prog (.one .bool) 85 #[.int .i64 p0]) fun (x1 : Bool) =>
  HM.ite (!x1) (
  HM.pure (ByteArray.mk #[], 128, ())) (
  HM.bind (α := Bool × Unit) (HM.ite (decide (p1 < (0 : Int))) (
  HM.pure (true, ())) (
  HM.req ((0 : Int) ≤ (IntKind.wrap .i64 (8 * p0))) <|
  HM.pure (decide ((IntKind.wrap .i64 (1 * 2 ^ (min (Int.toNat (IntKind.wrap .i64 (8 * p0))) (IntKind.bits .i64)))) ≤ (p1 : Int)), ()))) fun (x2 : Bool × Unit) =>
  HM.ite x2.1 (
  HM.pure (ByteArray.mk #[], 129, ())) (
  HM.bind (α := Slc × Int × Unit) (HM.loop (σ := Slc × Int × Unit) (τ := Slc × Int × Unit) (fun (x4 : Slc × Int × Unit) =>
  HM.ite (decide (0 ≤ (x4.2.1 : Int))) (
  HM.req ((0 : Int) ≤ (IntKind.wrap .i64 (8 * x4.2.1))) <|
  HM.bind (α := Nat) (HM.new (.cells #[.int .u8 (IntKind.wrap .u8 (Int.fdiv p1 (2 ^ (min (Int.toNat (IntKind.wrap .i64 (8 * x4.2.1))) (IntKind.bits .i64)))))] 5)) fun (x5 : Nat) =>
  HM.bind (α := Slc) (HM.append 5 1 1 #[.int .u8 0] x4.1 1 (srcSlc 1 (⟨some ⟨x5, 0, none⟩, 1, 1⟩))) fun (x6 : Slc) =>
  HM.pure (.inl (x6, IntKind.wrap .i64 (x4.2.1 - 1), ()))) (
  HM.pure (.inr (x4.1, x4.2.1, ())))) (⟨none, 0, 0⟩, IntKind.wrap .i64 (p0 - 1), ())) fun (x3 : Slc × Int × Unit) =>
  HM.bind (α := ByteArray) (HM.strOf x3.1) fun (x7 : ByteArray) =>
  HM.pure (x7, 0, ())))

theorem varint_Fixed_den (p0 : Int) (p1 : Int) : denFn Tryd.prog [85] 38 [0, 1, 4, 5, 6, 7, 8, 12, 25] [0, 1, 6, 7, 8, 12, 25] Tryd.f51.results.toList [.one .str, .one (.int .u8)] (bodyOf Tryd.f51) [Kind.val (.one (.int .i64)) p0, Kind.val (.one (.int .i64)) p1] = varint_Fixed p0 p1 := by kernel_rfl
theorem varint_Fixed_calls (p0 : Int) (p1 : Int) (h : Heap) (Q : Value → Heap → Prop) (hh : varint_Fixed p0 p1 h fun x h' => Q (.tuple #[.string x.1, .int .u8 x.2.1]) h') :
    HCalls Tryd.prog 51 #[.int .i64 p0, .int .i64 p1] h Q := by
  rw [← varint_Fixed_den] at hh
  exact calls_of_den Tryd.func51 (by kernel_rfl) Tryd.ntmps51 (by kernel_rfl) (fun f hf => by
      rcases List.mem_cons.1 hf with rfl | hf
      · exact Tryd.call85
      cases hf) orders hh

/-- aqueduct/advert.Put$2 -/
def advert_Put_f2 (p0 : Slc) (p1 : Addr) : HM (Unit) :=
  HM.bind (α := Int × Unit) (HM.loop (σ := Int × Unit) (τ := Int × Unit) (fun (x2 : Int × Unit) =>
  HM.ite (decide (x2.1 < (((p0.len : Nat) : Int) : Int))) (
  HM.bind (α := Addr) (HM.idx p0.a p0.len x2.1 1) fun (x3 : Addr) =>
  HM.bind (α := ByteArray) (HM.load1 .str x3) fun (x4 : ByteArray) =>
  HM.bind (α := ByteArray × Int × Unit) (HM.callN Tryd.prog [.one .str, .one (.int .u8)] 54 #[.string x4]) fun (x5 : ByteArray × Int × Unit) =>
  HM.bind (α := Int × Value × Unit) (HM.callN Tryd.prog [.one (.int .i64), .one .any] 52 #[.pointer (some p1), .string x5.1]) fun (x6 : Int × Value × Unit) =>
  HM.pure (.inl (IntKind.wrap .i64 (x2.1 + 1), ()))) (
  HM.pure (.inr (x2.1, ())))) (0, ())) fun (x1 : Int × Unit) =>
  HM.pure ()

theorem advert_Put_f2_den (p0 : Slc) (p1 : Addr) : denFn Tryd.prog [54, 52] 21 [0, 1, 4, 5, 7, 8, 9, 10] [0, 1, 4, 5, 7, 8, 9, 10] Tryd.f53.results.toList [] (bodyOf Tryd.f53) [Kind.val (.one .slc) p0, Value.pointer (some p1)] = advert_Put_f2 p0 p1 := by kernel_rfl
theorem advert_Put_f2_calls (p0 : Slc) (p1 : Addr) (h : Heap) (Q : Value → Heap → Prop) (hh : advert_Put_f2 p0 p1 h fun x h' => Q (.tuple #[]) h') :
    HCalls Tryd.prog 53 #[.slice p0.a p0.len p0.cap, .pointer (some p1)] h Q := by
  rw [← advert_Put_f2_den] at hh
  exact calls_of_den Tryd.func53 (by kernel_rfl) Tryd.ntmps53 (by kernel_rfl) (fun f hf => by
      rcases List.mem_cons.1 hf with rfl | hf
      · exact Tryd.call54
      rcases List.mem_cons.1 hf with rfl | hf
      · exact Tryd.call52
      cases hf) orders hh

/-- aqueduct/varint.Data -/
def varint_Data (p0 : ByteArray) : HM (ByteArray × Int × Unit) :=
  HM.ite (decide (65535 < (((ByteArray.size p0 : Nat) : Int) : Int))) (
  HM.pure (ByteArray.mk #[], 149, ())) (
  HM.bind (α := ByteArray × Int × Unit) (HM.callN Tryd.prog [.one .str, .one (.int .u8)] 51 #[.int .i64 2, .int .i64 ((ByteArray.size p0 : Nat) : Int)]) fun (x1 : ByteArray × Int × Unit) =>
  HM.req (ByteArray.size x1.1 + ByteArray.size p0 ≤ 9223372036854775807) <|
  HM.pure (x1.1 ++ p0, 0, ()))

theorem varint_Data_den (p0 : ByteArray) : denFn Tryd.prog [51] 18 [0, 2, 3, 4, 8] [0, 4, 8] Tryd.f54.results.toList [.one .str, .one (.int .u8)] (bodyOf Tryd.f54) [Kind.val (.one .str) p0] = varint_Data p0 := by kernel_rfl
theorem varint_Data_calls (p0 : ByteArray) (h : Heap) (Q : Value → Heap → Prop) (hh : varint_Data p0 h fun x h' => Q (.tuple #[.string x.1, .int .u8 x.2.1]) h') :
    HCalls Tryd.prog 54 #[.string p0] h Q := by
  rw [← varint_Data_den] at hh
  exact calls_of_den Tryd.func54 (by kernel_rfl) Tryd.ntmps54 (by kernel_rfl) (fun f hf => by
      rcases List.mem_cons.1 hf with rfl | hf
      · exact Tryd.call51
      cases hf) orders hh

/-- aqueduct/aqueductref21.Good -/
def ref21_Good (p0 : Int × Int × Slc × Slc × Unit) : HM (Bool × Unit) :=
  HM.bind (α := Nat) (HM.new (.cells #[.int .i64 p0.1, .int .i64 p0.2.1, .slice p0.2.2.1.a p0.2.2.1.len p0.2.2.1.cap, .slice p0.2.2.2.1.a p0.2.2.2.1.len p0.2.2.2.1.cap] 57)) fun (x1 : Nat) =>
  HM.bind (α := Bool × Unit) (HM.bind (α := Int) (HM.load1 (.int .i64) (Addr.add ⟨x1, 0, none⟩ 0)) fun (x2 : Int) =>
  HM.ite (decide (x2 < (0 : Int))) (
  HM.pure (true, ())) (
  HM.bind (α := Int) (HM.load1 (.int .i64) (Addr.add ⟨x1, 0, none⟩ 0)) fun (x3 : Int) =>
  HM.ite (decide (8 ≤ (x3 : Int))) (
  HM.pure (true, ())) (
  HM.bind (α := Int) (HM.load1 (.int .i64) (Addr.add ⟨x1, 0, none⟩ 1)) fun (x4 : Int) =>
  HM.ite (decide (x4 < (1 : Int))) (
  HM.pure (true, ())) (
  HM.bind (α := Int) (HM.load1 (.int .i64) (Addr.add ⟨x1, 0, none⟩ 1)) fun (x5 : Int) =>
  HM.ite (decide (9007199254740992 < (x5 : Int))) (
  HM.pure (true, ())) (
  HM.bind (α := Slc) (HM.load1 .slc (Addr.add ⟨x1, 0, none⟩ 2)) fun (x6 : Slc) =>
  HM.ite (decide (64 < (((x6.len : Nat) : Int) : Int))) (
  HM.pure (true, ())) (
  HM.bind (α := Slc) (HM.load1 .slc (Addr.add ⟨x1, 0, none⟩ 3)) fun (x7 : Slc) =>
  HM.pure (decide (16 < (((x7.len : Nat) : Int) : Int)), ()))))))) fun (x8 : Bool × Unit) =>
  HM.ite x8.1 (
  HM.pure (false, ())) (
  HM.bind (α := (Int × Unit) ⊕ (Bool × Unit)) (HM.loop (σ := Int × Unit) (τ := (Int × Unit) ⊕ (Bool × Unit)) (fun (x10 : Int × Unit) =>
  HM.bind (α := Slc) (HM.load1 .slc (Addr.add ⟨x1, 0, none⟩ 2)) fun (x11 : Slc) =>
  HM.ite (decide (x10.1 < (((x11.len : Nat) : Int) : Int))) (
  HM.bind (α := Slc) (HM.load1 .slc (Addr.add ⟨x1, 0, none⟩ 2)) fun (x12 : Slc) =>
  HM.bind (α := Addr) (HM.idx x12.a x12.len x10.1 1) fun (x13 : Addr) =>
  HM.bind (α := ByteArray) (HM.load1 .str x13) fun (x14 : ByteArray) =>
  HM.bind (α := Int) (HM.call1 Tryd.prog (.one (.int .i64)) 76 #[.string x14]) fun (x15 : Int) =>
  HM.ite (!(x15 == 0)) (
  HM.pure (.inr (.inr (false, ())))) (
  HM.pure (.inl (IntKind.wrap .i64 (x10.1 + 1), ())))) (
  HM.pure (.inr (.inl (x10.1, ()))))) (0, ())) (Sum.elim (fun (x9 : Int × Unit) =>
  HM.bind (α := (Int × Unit) ⊕ (Bool × Unit)) (HM.loop (σ := Int × Unit) (τ := (Int × Unit) ⊕ (Bool × Unit)) (fun (x17 : Int × Unit) =>
  HM.bind (α := Slc) (HM.load1 .slc (Addr.add ⟨x1, 0, none⟩ 3)) fun (x18 : Slc) =>
  HM.ite (decide (x17.1 < (((x18.len : Nat) : Int) : Int))) (
  HM.bind (α := Slc) (HM.load1 .slc (Addr.add ⟨x1, 0, none⟩ 3)) fun (x19 : Slc) =>
  HM.bind (α := Addr) (HM.idx x19.a x19.len x17.1 6) fun (x20 : Addr) =>
  HM.bind (α := Int × ByteArray × Int × Int × ByteArray × ByteArray × Unit) (HM.loadN [.int .i64, .str, .int .i64, .int .i64, .str, .str] x20) fun (x21 : Int × ByteArray × Int × Int × ByteArray × ByteArray × Unit) =>
  HM.bind (α := Nat) (HM.new (.cells #[.int .i64 0, .string (ByteArray.mk #[]), .int .i64 0, .int .i64 0, .string (ByteArray.mk #[]), .string (ByteArray.mk #[])] 124)) fun (x22 : Nat) =>
  HM.bind (α := Unit) (HM.storeN ⟨x22, 0, none⟩ [.int .i64 x21.1, .string x21.2.1, .int .i64 x21.2.2.1, .int .i64 x21.2.2.2.1, .string x21.2.2.2.2.1, .string x21.2.2.2.2.2.1]) fun (_ : Unit) =>
  HM.bind (α := ByteArray × Int × Int × ByteArray × ByteArray × Unit) (HM.loadN [.str, .int .i64, .int .i64, .str, .str] (Addr.add ⟨x22, 0, none⟩ 1)) fun (x23 : ByteArray × Int × Int × ByteArray × ByteArray × Unit) =>
  HM.bind (α := Int) (HM.call1 Tryd.prog (.one (.int .i64)) 87 #[.agg #[.string x23.1, .int .i64 x23.2.1, .int .i64 x23.2.2.1, .string x23.2.2.2.1, .string x23.2.2.2.2.1]]) fun (x24 : Int) =>
  HM.bind (α := Bool × Unit) (HM.bind (α := Int) (HM.load1 (.int .i64) (Addr.add ⟨x22, 0, none⟩ 0)) fun (x25 : Int) =>
  HM.ite (decide (x25 < (0 : Int))) (
  HM.pure (true, ())) (
  HM.bind (α := Int) (HM.load1 (.int .i64) (Addr.add ⟨x22, 0, none⟩ 0)) fun (x26 : Int) =>
  HM.ite (decide (8 ≤ (x26 : Int))) (
  HM.pure (true, ())) (
  HM.bind (α := Int) (HM.load1 (.int .i64) (Addr.add ⟨x22, 0, none⟩ 0)) fun (x27 : Int) =>
  HM.bind (α := Int) (HM.load1 (.int .i64) (Addr.add ⟨x1, 0, none⟩ 0)) fun (x28 : Int) =>
  HM.ite (x27 == x28) (
  HM.pure (true, ())) (
  HM.pure (!(x24 == 0), ()))))) fun (x29 : Bool × Unit) =>
  HM.ite x29.1 (
  HM.pure (.inr (.inr (false, ())))) (
  HM.pure (.inl (IntKind.wrap .i64 (x17.1 + 1), ())))) (
  HM.pure (.inr (.inl (x17.1, ()))))) (0, ())) (Sum.elim (fun (x16 : Int × Unit) =>
  HM.pure (true, ())) HM.pure)) HM.pure))

theorem ref21_Good_den (p0 : Int × Int × Slc × Slc × Unit) : denFn Tryd.prog [76, 87] 87 [0, 1, 2, 3, 4, 5, 6, 7, 37, 42, 52, 57, 86] [0, 1, 3, 4, 5, 6, 7, 37, 42, 52, 57, 86] Tryd.f56.results.toList [.one .bool] (bodyOf Tryd.f56) [Kind.val (.agg [.int .i64, .int .i64, .slc, .slc]) p0] = ref21_Good p0 := by kernel_rfl
theorem ref21_Good_calls (p0 : Int × Int × Slc × Slc × Unit) (h : Heap) (Q : Value → Heap → Prop) (hh : ref21_Good p0 h fun x h' => Q (.bool x.1) h') :
    HCalls Tryd.prog 56 #[.agg #[.int .i64 p0.1, .int .i64 p0.2.1, .slice p0.2.2.1.a p0.2.2.1.len p0.2.2.1.cap, .slice p0.2.2.2.1.a p0.2.2.2.1.len p0.2.2.2.1.cap]] h Q := by
  rw [← ref21_Good_den] at hh
  exact calls_of_den Tryd.func56 (by kernel_rfl) Tryd.ntmps56 (by kernel_rfl) (fun f hf => by
      rcases List.mem_cons.1 hf with rfl | hf
      · exact Tryd.call76
      rcases List.mem_cons.1 hf with rfl | hf
      · exact Tryd.call87
      cases hf) orders hh

/-- aqueduct/aqueductref21.number -/
def ref21_number (p0 : Int) (p1 : Int) : HM (ByteArray × Unit) :=
  HM.bind (α := ByteArray × Int × Unit) (HM.callN Tryd.prog [.one .str, .one (.int .i64)] 88 #[.int .i64 p0, .int .i64 p1]) fun (x1 : ByteArray × Int × Unit) =>
  HM.pure (x1.1, ())

theorem ref21_number_den (p0 : Int) (p1 : Int) : denFn Tryd.prog [88] 14 [0, 1, 4, 5] [0, 1, 5] Tryd.f57.results.toList [.one .str] (bodyOf Tryd.f57) [Kind.val (.one (.int .i64)) p0, Kind.val (.one (.int .i64)) p1] = ref21_number p0 p1 := by kernel_rfl
theorem ref21_number_calls (p0 : Int) (p1 : Int) (h : Heap) (Q : Value → Heap → Prop) (hh : ref21_number p0 p1 h fun x h' => Q (.string x.1) h') :
    HCalls Tryd.prog 57 #[.int .i64 p0, .int .i64 p1] h Q := by
  rw [← ref21_number_den] at hh
  exact calls_of_den Tryd.func57 (by kernel_rfl) Tryd.ntmps57 (by kernel_rfl) (fun f hf => by
      rcases List.mem_cons.1 hf with rfl | hf
      · exact Tryd.call88
      cases hf) orders hh

/-- aqueduct/aqueductref21.data -/
def ref21_data (p0 : ByteArray) : HM (ByteArray × Unit) :=
  HM.bind (α := ByteArray × Int × Unit) (HM.callN Tryd.prog [.one .str, .one (.int .i64)] 89 #[.string p0]) fun (x1 : ByteArray × Int × Unit) =>
  HM.pure (x1.1, ())

theorem ref21_data_den (p0 : ByteArray) : denFn Tryd.prog [89] 11 [0, 2, 3] [0, 3] Tryd.f58.results.toList [.one .str] (bodyOf Tryd.f58) [Kind.val (.one .str) p0] = ref21_data p0 := by kernel_rfl
theorem ref21_data_calls (p0 : ByteArray) (h : Heap) (Q : Value → Heap → Prop) (hh : ref21_data p0 h fun x h' => Q (.string x.1) h') :
    HCalls Tryd.prog 58 #[.string p0] h Q := by
  rw [← ref21_data_den] at hh
  exact calls_of_den Tryd.func58 (by kernel_rfl) Tryd.ntmps58 (by kernel_rfl) (fun f hf => by
      rcases List.mem_cons.1 hf with rfl | hf
      · exact Tryd.call89
      cases hf) orders hh

/-- (*aqueduct/advert.reader).number -/
def advert_reader_number (p0 : Option Addr) (p1 : Int) : HM (Int × Unit) :=
  HM.bind (α := Addr) (HM.nonnil p0) fun (x1 : Addr) =>
  HM.bind (α := ByteArray) (HM.load1 .str (Addr.add x1 0)) fun (x2 : ByteArray) =>
  HM.bind (α := Addr) (HM.nonnil p0) fun (x3 : Addr) =>
  HM.bind (α := Int) (HM.load1 (.int .i64) (Addr.add x3 1)) fun (x4 : Int) =>
  HM.bind (α := Int × Int × Int × Unit) (HM.callN Tryd.prog [.one (.int .i64), .one (.int .i64), .one (.int .u8)] 90 #[.string x2, .int .i64 x4, .int .i64 p1]) fun (x5 : Int × Int × Int × Unit) =>
  HM.bind (α := Unit) (HM.bind (α := Addr) (HM.nonnil p0) fun (x6 : Addr) =>
  HM.bind (α := Bool) (HM.load1 .bool (Addr.add x6 2)) fun (x7 : Bool) =>
  HM.ite x7 (
  HM.bind (α := Addr) (HM.nonnil p0) fun (x8 : Addr) =>
  HM.bind (α := Unit) (HM.store1 (Addr.add x8 2) (.bool true)) fun (_ : Unit) =>
  HM.pure ()) (
  HM.bind (α := Addr) (HM.nonnil p0) fun (x9 : Addr) =>
  HM.bind (α := Unit) (HM.store1 (Addr.add x9 2) (.bool (!(x5.2.2.1 == 0)))) fun (_ : Unit) =>
  HM.pure ())) fun (x10 : Unit) =>
  HM.bind (α := Addr) (HM.nonnil p0) fun (x11 : Addr) =>
  HM.bind (α := Bool) (HM.load1 .bool (Addr.add x11 2)) fun (x12 : Bool) =>
  HM.ite x12 (
  HM.pure (0, ())) (
  HM.bind (α := Addr) (HM.nonnil p0) fun (x13 : Addr) =>
  HM.bind (α := Unit) (HM.store1 (Addr.add x13 1) (.int .i64 x5.2.1)) fun (_ : Unit) =>
  HM.pure (x5.1, ()))

theorem advert_reader_number_den (p0 : Option Addr) (p1 : Int) : denFn Tryd.prog [90] 42 [0, 1, 4, 5, 6, 7, 36] [0, 1, 5, 6, 7, 36] Tryd.f59.results.toList [.one (.int .i64)] (bodyOf Tryd.f59) [Kind.val (.one .ptr) p0, Kind.val (.one (.int .i64)) p1] = advert_reader_number p0 p1 := by kernel_rfl
theorem advert_reader_number_calls (p0 : Option Addr) (p1 : Int) (h : Heap) (Q : Value → Heap → Prop) (hh : advert_reader_number p0 p1 h fun x h' => Q (.int .i64 x.1) h') :
    HCalls Tryd.prog 59 #[.pointer p0, .int .i64 p1] h Q := by
  rw [← advert_reader_number_den] at hh
  exact calls_of_den Tryd.func59 (by kernel_rfl) Tryd.ntmps59 (by kernel_rfl) (fun f hf => by
      rcases List.mem_cons.1 hf with rfl | hf
      · exact Tryd.call90
      cases hf) orders hh

/-- (*aqueduct/advert.reader).data -/
def advert_reader_data (p0 : Option Addr) : HM (ByteArray × Unit) :=
  HM.bind (α := Addr) (HM.nonnil p0) fun (x1 : Addr) =>
  HM.bind (α := ByteArray) (HM.load1 .str (Addr.add x1 0)) fun (x2 : ByteArray) =>
  HM.bind (α := Addr) (HM.nonnil p0) fun (x3 : Addr) =>
  HM.bind (α := Int) (HM.load1 (.int .i64) (Addr.add x3 1)) fun (x4 : Int) =>
  HM.bind (α := ByteArray × Int × Int × Unit) (HM.callN Tryd.prog [.one .str, .one (.int .i64), .one (.int .u8)] 91 #[.string x2, .int .i64 x4]) fun (x5 : ByteArray × Int × Int × Unit) =>
  HM.bind (α := Unit) (HM.bind (α := Addr) (HM.nonnil p0) fun (x6 : Addr) =>
  HM.bind (α := Bool) (HM.load1 .bool (Addr.add x6 2)) fun (x7 : Bool) =>
  HM.ite x7 (
  HM.bind (α := Addr) (HM.nonnil p0) fun (x8 : Addr) =>
  HM.bind (α := Unit) (HM.store1 (Addr.add x8 2) (.bool true)) fun (_ : Unit) =>
  HM.pure ()) (
  HM.bind (α := Addr) (HM.nonnil p0) fun (x9 : Addr) =>
  HM.bind (α := Unit) (HM.store1 (Addr.add x9 2) (.bool (!(x5.2.2.1 == 0)))) fun (_ : Unit) =>
  HM.pure ())) fun (x10 : Unit) =>
  HM.bind (α := Addr) (HM.nonnil p0) fun (x11 : Addr) =>
  HM.bind (α := Bool) (HM.load1 .bool (Addr.add x11 2)) fun (x12 : Bool) =>
  HM.ite x12 (
  HM.pure (ByteArray.mk #[], ())) (
  HM.bind (α := Addr) (HM.nonnil p0) fun (x13 : Addr) =>
  HM.bind (α := Unit) (HM.store1 (Addr.add x13 1) (.int .i64 x5.2.1)) fun (_ : Unit) =>
  HM.pure (x5.1, ()))

theorem advert_reader_data_den (p0 : Option Addr) : denFn Tryd.prog [91] 39 [0, 2, 3, 4, 5, 33] [0, 3, 4, 5, 33] Tryd.f60.results.toList [.one .str] (bodyOf Tryd.f60) [Kind.val (.one .ptr) p0] = advert_reader_data p0 := by kernel_rfl
theorem advert_reader_data_calls (p0 : Option Addr) (h : Heap) (Q : Value → Heap → Prop) (hh : advert_reader_data p0 h fun x h' => Q (.string x.1) h') :
    HCalls Tryd.prog 60 #[.pointer p0] h Q := by
  rw [← advert_reader_data_den] at hh
  exact calls_of_den Tryd.func60 (by kernel_rfl) Tryd.ntmps60 (by kernel_rfl) (fun f hf => by
      rcases List.mem_cons.1 hf with rfl | hf
      · exact Tryd.call91
      cases hf) orders hh

/-- aqueduct/aqueductref21.readNumber -/
def ref21_readNumber (p0 : Option Addr) (p1 : Int) : HM (Int × Unit) :=
  HM.bind (α := Addr) (HM.nonnil p0) fun (x1 : Addr) =>
  HM.bind (α := ByteArray) (HM.load1 .str (Addr.add x1 0)) fun (x2 : ByteArray) =>
  HM.bind (α := Addr) (HM.nonnil p0) fun (x3 : Addr) =>
  HM.bind (α := Int) (HM.load1 (.int .i64) (Addr.add x3 1)) fun (x4 : Int) =>
  HM.bind (α := Int × Int × Int × Unit) (HM.callN Tryd.prog [.one (.int .i64), .one (.int .i64), .one (.int .i64)] 92 #[.string x2, .int .i64 x4, .int .i64 p1]) fun (x5 : Int × Int × Int × Unit) =>
  HM.bind (α := Bool × Unit) (HM.ite (!(x5.2.2.1 == 0)) (
  HM.pure (true, ())) (
  HM.bind (α := Addr) (HM.nonnil p0) fun (x6 : Addr) =>
  HM.bind (α := Bool) (HM.load1 .bool (Addr.add x6 2)) fun (x7 : Bool) =>
  HM.pure (x7, ()))) fun (x8 : Bool × Unit) =>
  HM.ite x8.1 (
  HM.bind (α := Addr) (HM.nonnil p0) fun (x9 : Addr) =>
  HM.bind (α := Unit) (HM.store1 (Addr.add x9 2) (.bool true)) fun (_ : Unit) =>
  HM.pure (0, ())) (
  HM.bind (α := Addr) (HM.nonnil p0) fun (x10 : Addr) =>
  HM.bind (α := Unit) (HM.store1 (Addr.add x10 1) (.int .i64 x5.2.1)) fun (_ : Unit) =>
  HM.pure (x5.1, ()))

theorem ref21_readNumber_den (p0 : Option Addr) (p1 : Int) : denFn Tryd.prog [92] 38 [0, 1, 4, 5, 6, 7, 29] [0, 1, 5, 6, 7, 29] Tryd.f61.results.toList [.one (.int .i64)] (bodyOf Tryd.f61) [Kind.val (.one .ptr) p0, Kind.val (.one (.int .i64)) p1] = ref21_readNumber p0 p1 := by kernel_rfl
theorem ref21_readNumber_calls (p0 : Option Addr) (p1 : Int) (h : Heap) (Q : Value → Heap → Prop) (hh : ref21_readNumber p0 p1 h fun x h' => Q (.int .i64 x.1) h') :
    HCalls Tryd.prog 61 #[.pointer p0, .int .i64 p1] h Q := by
  rw [← ref21_readNumber_den] at hh
  exact calls_of_den Tryd.func61 (by kernel_rfl) Tryd.ntmps61 (by kernel_rfl) (fun f hf => by
      rcases List.mem_cons.1 hf with rfl | hf
      · exact Tryd.call92
      cases hf) orders hh

/-- aqueduct/aqueductref21.readData -/
def ref21_readData (p0 : Option Addr) : HM (ByteArray × Unit) :=
  HM.bind (α := Addr) (HM.nonnil p0) fun (x1 : Addr) =>
  HM.bind (α := ByteArray) (HM.load1 .str (Addr.add x1 0)) fun (x2 : ByteArray) =>
  HM.bind (α := Addr) (HM.nonnil p0) fun (x3 : Addr) =>
  HM.bind (α := Int) (HM.load1 (.int .i64) (Addr.add x3 1)) fun (x4 : Int) =>
  HM.bind (α := ByteArray × Int × Int × Unit) (HM.callN Tryd.prog [.one .str, .one (.int .i64), .one (.int .i64)] 93 #[.string x2, .int .i64 x4]) fun (x5 : ByteArray × Int × Int × Unit) =>
  HM.bind (α := Bool × Unit) (HM.ite (!(x5.2.2.1 == 0)) (
  HM.pure (true, ())) (
  HM.bind (α := Addr) (HM.nonnil p0) fun (x6 : Addr) =>
  HM.bind (α := Bool) (HM.load1 .bool (Addr.add x6 2)) fun (x7 : Bool) =>
  HM.pure (x7, ()))) fun (x8 : Bool × Unit) =>
  HM.ite x8.1 (
  HM.bind (α := Addr) (HM.nonnil p0) fun (x9 : Addr) =>
  HM.bind (α := Unit) (HM.store1 (Addr.add x9 2) (.bool true)) fun (_ : Unit) =>
  HM.pure (ByteArray.mk #[], ())) (
  HM.bind (α := Addr) (HM.nonnil p0) fun (x10 : Addr) =>
  HM.bind (α := Unit) (HM.store1 (Addr.add x10 1) (.int .i64 x5.2.1)) fun (_ : Unit) =>
  HM.pure (x5.1, ()))

theorem ref21_readData_den (p0 : Option Addr) : denFn Tryd.prog [93] 35 [0, 2, 3, 4, 5, 26] [0, 3, 4, 5, 26] Tryd.f62.results.toList [.one .str] (bodyOf Tryd.f62) [Kind.val (.one .ptr) p0] = ref21_readData p0 := by kernel_rfl
theorem ref21_readData_calls (p0 : Option Addr) (h : Heap) (Q : Value → Heap → Prop) (hh : ref21_readData p0 h fun x h' => Q (.string x.1) h') :
    HCalls Tryd.prog 62 #[.pointer p0] h Q := by
  rw [← ref21_readData_den] at hh
  exact calls_of_den Tryd.func62 (by kernel_rfl) Tryd.ntmps62 (by kernel_rfl) (fun f hf => by
      rcases List.mem_cons.1 hf with rfl | hf
      · exact Tryd.call93
      cases hf) orders hh

/-- (aqueduct/advert.Advert).clone -/
def advert_Advert_clone (p0 : Int × Int × Slc × Slc × Unit) : HM ((Int × Int × Slc × Slc × Unit) × Unit) :=
  HM.bind (α := Nat) (HM.new (.cells #[.int .i64 p0.1, .int .i64 p0.2.1, .slice p0.2.2.1.a p0.2.2.1.len p0.2.2.1.cap, .slice p0.2.2.2.1.a p0.2.2.2.1.len p0.2.2.2.1.cap] 54)) fun (x1 : Nat) =>
  HM.bind (α := Nat) (HM.new (.cells #[.int .i64 0, .int .i64 0, .slice none 0 0, .slice none 0 0] 54)) fun (x2 : Nat) =>
  HM.bind (α := Slc) (HM.load1 .slc (Addr.add ⟨x1, 0, none⟩ 2)) fun (x3 : Slc) =>
  HM.bind (α := Slc) (HM.load1 .slc (Addr.add ⟨x1, 0, none⟩ 3)) fun (x4 : Slc) =>
  HM.bind (α := Slc) (HM.call1 Tryd.prog (.one .slc) 94 #[.slice x3.a x3.len x3.cap]) fun (x5 : Slc) =>
  HM.bind (α := Slc) (HM.load1 .slc (Addr.add ⟨x1, 0, none⟩ 3)) fun (x6 : Slc) =>
  HM.req ((.slice x6.a x6.len x6.cap : Value) = .slice x4.a x4.len x4.cap) <|
  HM.bind (α := Slc) (HM.call1 Tryd.prog (.one .slc) 95 #[.slice x4.a x4.len x4.cap]) fun (x7 : Slc) =>
  HM.bind (α := Unit) (HM.store1 (Addr.add ⟨x1, 0, none⟩ 2) (.slice x5.a x5.len x5.cap)) fun (_ : Unit) =>
  HM.bind (α := Unit) (HM.store1 (Addr.add ⟨x1, 0, none⟩ 3) (.slice x7.a x7.len x7.cap)) fun (_ : Unit) =>
  HM.bind (α := Int × Int × Slc × Slc × Unit) (HM.loadN [.int .i64, .int .i64, .slc, .slc] ⟨x1, 0, none⟩) fun (x8 : Int × Int × Slc × Slc × Unit) =>
  HM.bind (α := Unit) (HM.storeN ⟨x2, 0, none⟩ [.int .i64 x8.1, .int .i64 x8.2.1, .slice x8.2.2.1.a x8.2.2.1.len x8.2.2.1.cap, .slice x8.2.2.2.1.a x8.2.2.2.1.len x8.2.2.2.1.cap]) fun (_ : Unit) =>
  HM.bind (α := Int × Int × Slc × Slc × Unit) (HM.loadN [.int .i64, .int .i64, .slc, .slc] ⟨x2, 0, none⟩) fun (x9 : Int × Int × Slc × Slc × Unit) =>
  HM.pure ((x9.1, x9.2.1, x9.2.2.1, x9.2.2.2.1, ()), ())

theorem advert_Advert_clone_den (p0 : Int × Int × Slc × Slc × Unit) : denFn Tryd.prog [94, 95] 12 [0, 1, 2] [0, 1, 2] Tryd.f63.results.toList [.agg [.int .i64, .int .i64, .slc, .slc]] (bodyOf Tryd.f63) [Kind.val (.agg [.int .i64, .int .i64, .slc, .slc]) p0] = advert_Advert_clone p0 := by kernel_rfl
theorem advert_Advert_clone_calls (p0 : Int × Int × Slc × Slc × Unit) (h : Heap) (Q : Value → Heap → Prop) (hh : advert_Advert_clone p0 h fun x h' => Q (.agg #[.int .i64 x.1.1, .int .i64 x.1.2.1, .slice x.1.2.2.1.a x.1.2.2.1.len x.1.2.2.1.cap, .slice x.1.2.2.2.1.a x.1.2.2.2.1.len x.1.2.2.2.1.cap]) h') :
    HCalls Tryd.prog 63 #[.agg #[.int .i64 p0.1, .int .i64 p0.2.1, .slice p0.2.2.1.a p0.2.2.1.len p0.2.2.1.cap, .slice p0.2.2.2.1.a p0.2.2.2.1.len p0.2.2.2.1.cap]] h Q := by
  rw [← advert_Advert_clone_den] at hh
  exact calls_of_den Tryd.func63 (by kernel_rfl) Tryd.ntmps63 (by kernel_rfl) (fun f hf => by
      rcases List.mem_cons.1 hf with rfl | hf
      · exact Tryd.call94
      rcases List.mem_cons.1 hf with rfl | hf
      · exact Tryd.call95
      cases hf) orders hh

/-- aqueduct/bridge.New -/
def bridge_New (p0 : Slc) : HM (Option Addr × Int × Unit) :=
  HM.ite (decide (16 < (((p0.len : Nat) : Int) : Int))) (
  HM.pure (none, 149, ())) (
  HM.bind (α := (Int × Unit) ⊕ (Option Addr × Int × Unit)) (HM.loop (σ := Int × Unit) (τ := (Int × Unit) ⊕ (Option Addr × Int × Unit)) (fun (x2 : Int × Unit) =>
  HM.ite (decide (x2.1 < (((p0.len : Nat) : Int) : Int))) (
  HM.bind (α := Addr) (HM.idx p0.a p0.len x2.1 5) fun (x3 : Addr) =>
  HM.bind (α := ByteArray × Int × Int × ByteArray × ByteArray × Unit) (HM.loadN [.str, .int .i64, .int .i64, .str, .str] x3) fun (x4 : ByteArray × Int × Int × ByteArray × ByteArray × Unit) =>
  HM.bind (α := Nat) (HM.new (.cells #[.string (ByteArray.mk #[]), .int .i64 0, .int .i64 0, .string (ByteArray.mk #[]), .string (ByteArray.mk #[])] 94)) fun (x5 : Nat) =>
  HM.bind (α := Unit) (HM.storeN ⟨x5, 0, none⟩ [.string x4.1, .int .i64 x4.2.1, .int .i64 x4.2.2.1, .string x4.2.2.2.1, .string x4.2.2.2.2.1]) fun (_ : Unit) =>
  HM.bind (α := ByteArray × Int × Int × ByteArray × ByteArray × Unit) (HM.loadN [.str, .int .i64, .int .i64, .str, .str] ⟨x5, 0, none⟩) fun (x6 : ByteArray × Int × Int × ByteArray × ByteArray × Unit) =>
  HM.bind (α := Int) (HM.call1 Tryd.prog (.one (.int .u8)) 84 #[.agg #[.string x6.1, .int .i64 x6.2.1, .int .i64 x6.2.2.1, .string x6.2.2.2.1, .string x6.2.2.2.2.1]]) fun (x7 : Int) =>
  HM.ite (!(x7 == 0)) (
  HM.pure (.inr (.inr (none, x7, ())))) (
  HM.pure (.inl (IntKind.wrap .i64 (x2.1 + 1), ())))) (
  HM.pure (.inr (.inl (x2.1, ()))))) (0, ())) (Sum.elim (fun (x1 : Int × Unit) =>
  HM.bind (α := Slc) (HM.call1 Tryd.prog (.one .slc) 99 #[.slice p0.a p0.len p0.cap]) fun (x8 : Slc) =>
  HM.bind (α := Option Addr) (HM.call1 Tryd.prog (.one .ptr) 100 #[.int .i64 64]) fun (x9 : Option Addr) =>
  HM.bind (α := Nat) (HM.new (.cells #[.slice x8.a x8.len x8.cap, .pointer x9] 200)) fun (x10 : Nat) =>
  HM.pure (some ⟨x10, 0, none⟩, 0, ())) HM.pure))

theorem bridge_New_den (p0 : Slc) : denFn Tryd.prog [84, 99, 100] 27 [0, 2, 3, 5, 6, 9, 10, 11, 12, 13, 19] [0, 5, 6, 9, 10, 11, 12, 13, 19] Tryd.f66.results.toList [.one .ptr, .one (.int .u8)] (bodyOf Tryd.f66) [Kind.val (.one .slc) p0] = bridge_New p0 := by kernel_rfl
theorem bridge_New_calls (p0 : Slc) (h : Heap) (Q : Value → Heap → Prop) (hh : bridge_New p0 h fun x h' => Q (.tuple #[.pointer x.1, .int .u8 x.2.1]) h') :
    HCalls Tryd.prog 66 #[.slice p0.a p0.len p0.cap] h Q := by
  rw [← bridge_New_den] at hh
  exact calls_of_den Tryd.func66 (by kernel_rfl) Tryd.ntmps66 (by kernel_rfl) (fun f hf => by
      rcases List.mem_cons.1 hf with rfl | hf
      · exact Tryd.call84
      rcases List.mem_cons.1 hf with rfl | hf
      · exact Tryd.call99
      rcases List.mem_cons.1 hf with rfl | hf
      · exact Tryd.call100
      cases hf) orders hh

/-- (*aqueduct/bridge.Bridge).Route -/
def bridge_Bridge_Route (p0 : Option Addr) (p1 : Int × Int × Int × Int × Unit) (p2 : ByteArray × ByteArray × Int × Bool × ByteArray × Unit) : HM (Slc × Unit) :=
  HM.bind (α := Nat) (HM.new (.cells #[.int .i64 p1.1, .int .i64 p1.2.1, .int .i64 p1.2.2.1, .int .i64 p1.2.2.2.1] 167)) fun (x1 : Nat) =>
  HM.bind (α := Nat) (HM.new (.cells #[.string p2.1, .string p2.2.1, .int .i64 p2.2.2.1, .bool p2.2.2.2.1, .string p2.2.2.2.2.1] 169)) fun (x2 : Nat) =>
  HM.bind (α := Bool × Unit) (HM.ite (Option.isNone p0) (
  HM.pure (true, ())) (
  HM.bind (α := Int × Int × Int × Int × Unit) (HM.loadN [.int .i64, .int .i64, .int .i64, .int .i64] ⟨x1, 0, none⟩) fun (x3 : Int × Int × Int × Int × Unit) =>
  HM.bind (α := ByteArray) (HM.call1 Tryd.prog (.one .str) 101 #[.agg #[.int .i64 x3.1, .int .i64 x3.2.1, .int .i64 x3.2.2.1, .int .i64 x3.2.2.2.1]]) fun (x4 : ByteArray) =>
  HM.ite (decide (x4 = (ByteArray.mk #[]))) (
  HM.pure (true, ())) (
  HM.bind (α := Int) (HM.load1 (.int .i64) (Addr.add ⟨x1, 0, none⟩ 2)) fun (x5 : Int) =>
  HM.pure (decide (32 ≤ (x5 : Int)), ())))) fun (x6 : Bool × Unit) =>
  HM.ite x6.1 (
  HM.pure (⟨none, 0, 0⟩, ())) (
  HM.bind (α := Addr) (HM.nonnil p0) fun (x7 : Addr) =>
  HM.bind (α := Slc) (HM.load1 .slc (Addr.add x7 0)) fun (x8 : Slc) =>
  HM.bind (α := ByteArray) (HM.load1 .str (Addr.add ⟨x2, 0, none⟩ 0)) fun (x9 : ByteArray) =>
  HM.bind (α := Int) (HM.load1 (.int .i64) (Addr.add ⟨x1, 0, none⟩ 3)) fun (x10 : Int) =>
  HM.bind (α := Slc) (HM.call1 Tryd.prog (.one .slc) 102 #[.slice x8.a x8.len x8.cap, .string x9, .int .i64 x10]) fun (x11 : Slc) =>
  HM.bind (α := Slc × Int × Unit) (HM.loop (σ := Slc × Int × Unit) (τ := Slc × Int × Unit) (fun (x13 : Slc × Int × Unit) =>
  HM.ite (decide (x13.2.1 < (((x11.len : Nat) : Int) : Int))) (
  HM.bind (α := Addr) (HM.idx x11.a x11.len x13.2.1 3) fun (x14 : Addr) =>
  HM.bind (α := Int × ByteArray × Int × Unit) (HM.loadN [.int .i64, .str, .int .i64] x14) fun (x15 : Int × ByteArray × Int × Unit) =>
  HM.bind (α := Nat) (HM.new (.cells #[.int .i64 0, .string (ByteArray.mk #[]), .int .i64 0] 204)) fun (x16 : Nat) =>
  HM.bind (α := Unit) (HM.storeN ⟨x16, 0, none⟩ [.int .i64 x15.1, .string x15.2.1, .int .i64 x15.2.2.1]) fun (_ : Unit) =>
  HM.bind (α := Int × Int × Unit) (HM.loadN [.int .i64, .int .i64] (Addr.add ⟨x1, 0, none⟩ 0)) fun (x17 : Int × Int × Unit) =>
  HM.bind (α := Int) (HM.load1 (.int .i64) (Addr.add ⟨x1, 0, none⟩ 2)) fun (x18 : Int) =>
  HM.bind (α := Int) (HM.load1 (.int .i64) (Addr.add ⟨x16, 0, none⟩ 2)) fun (x19 : Int) =>
  HM.bind (α := Nat) (HM.new (.cells #[.int .i64 0, .int .i64 0, .int .i64 0, .int .i64 0] 167)) fun (x20 : Nat) =>
  HM.bind (α := Unit) (HM.storeN ⟨x20, 0, none⟩ [.int .i64 x17.1, .int .i64 x17.2.1, .int .i64 (IntKind.wrap .i64 (x18 + 1)), .int .i64 x19]) fun (_ : Unit) =>
  HM.bind (α := ByteArray) (HM.load1 .str (Addr.add ⟨x16, 0, none⟩ 1)) fun (x21 : ByteArray) =>
  HM.bind (α := ByteArray) (HM.load1 .str (Addr.add ⟨x2, 0, none⟩ 1)) fun (x22 : ByteArray) =>
  HM.bind (α := Bool) (HM.load1 .bool (Addr.add ⟨x2, 0, none⟩ 3)) fun (x23 : Bool) =>
  HM.bind (α := Int × Int × Int × Int × Unit) (HM.loadN [.int .i64, .int .i64, .int .i64, .int .i64] ⟨x20, 0, none⟩) fun (x24 : Int × Int × Int × Int × Unit) =>
  HM.bind (α := ByteArray) (HM.call1 Tryd.prog (.one .str) 101 #[.agg #[.int .i64 x24.1, .int .i64 x24.2.1, .int .i64 x24.2.2.1, .int .i64 x24.2.2.2.1]]) fun (x25 : ByteArray) =>
  HM.bind (α := Bool) (HM.load1 .bool (Addr.add ⟨x2, 0, none⟩ 3)) fun (x26 : Bool) =>
  HM.req ((.bool x26 : Value) = .bool x23) <|
  HM.bind (α := ByteArray) (HM.load1 .str (Addr.add ⟨x2, 0, none⟩ 1)) fun (x27 : ByteArray) =>
  HM.req ((.string x27 : Value) = .string x22) <|
  HM.bind (α := ByteArray) (HM.load1 .str (Addr.add ⟨x16, 0, none⟩ 1)) fun (x28 : ByteArray) =>
  HM.req ((.string x28 : Value) = .string x21) <|
  HM.bind (α := Nat) (HM.new (.cells #[.string x21, .string x22, .int .i64 1, .bool x23, .string x25] 169)) fun (x29 : Nat) =>
  HM.bind (α := Slc) (HM.append 169 5 64 #[.string (ByteArray.mk #[]), .string (ByteArray.mk #[]), .int .i64 0, .bool false, .string (ByteArray.mk #[])] x13.1 1 (srcSlc 5 (⟨some ⟨x29, 0, none⟩, 1, 1⟩))) fun (x30 : Slc) =>
  HM.pure (.inl (x30, IntKind.wrap .i64 (x13.2.1 + 1), ()))) (
  HM.pure (.inr (x13.1, x13.2.1, ())))) (⟨none, 0, 0⟩, 0, ())) fun (x12 : Slc × Int × Unit) =>
  HM.pure (x12.1, ()))

theorem bridge_Bridge_Route_den (p0 : Option Addr) (p1 : Int × Int × Int × Int × Unit) (p2 : ByteArray × ByteArray × Int × Bool × ByteArray × Unit) : denFn Tryd.prog [101, 102] 59 [0, 1, 2, 4, 5, 6, 7, 9, 10, 22, 31, 32, 33, 34] [0, 1, 2, 4, 5, 7, 9, 10, 22, 31, 32, 33, 34] Tryd.f67.results.toList [.one .slc] (bodyOf Tryd.f67) [Kind.val (.one .ptr) p0, Kind.val (.agg [.int .i64, .int .i64, .int .i64, .int .i64]) p1, Kind.val (.agg [.str, .str, .int .i64, .bool, .str]) p2] = bridge_Bridge_Route p0 p1 p2 := by kernel_rfl
theorem bridge_Bridge_Route_calls (p0 : Option Addr) (p1 : Int × Int × Int × Int × Unit) (p2 : ByteArray × ByteArray × Int × Bool × ByteArray × Unit) (h : Heap) (Q : Value → Heap → Prop) (hh : bridge_Bridge_Route p0 p1 p2 h fun x h' => Q (.slice x.1.a x.1.len x.1.cap) h') :
    HCalls Tryd.prog 67 #[.pointer p0, .agg #[.int .i64 p1.1, .int .i64 p1.2.1, .int .i64 p1.2.2.1, .int .i64 p1.2.2.2.1], .agg #[.string p2.1, .string p2.2.1, .int .i64 p2.2.2.1, .bool p2.2.2.2.1, .string p2.2.2.2.2.1]] h Q := by
  rw [← bridge_Bridge_Route_den] at hh
  exact calls_of_den Tryd.func67 (by kernel_rfl) Tryd.ntmps67 (by kernel_rfl) (fun f hf => by
      rcases List.mem_cons.1 hf with rfl | hf
      · exact Tryd.call101
      rcases List.mem_cons.1 hf with rfl | hf
      · exact Tryd.call102
      cases hf) orders hh

/-- aqueduct/aqueductref23.within -/
def ref23_within (p0 : Int) (p1 : Int) (p2 : Int) : HM (Int × Unit) :=
  HM.ite (decide (p0 < (p1 : Int))) (
  HM.pure (p1, ())) (
  HM.ite (decide (p2 < (p0 : Int))) (
  HM.pure (p2, ())) (
  HM.pure (p0, ())))

theorem ref23_within_den (p0 : Int) (p1 : Int) (p2 : Int) : denFn Tryd.prog [] 16 [0, 1, 2, 6, 9, 13] [0, 1, 2, 9, 13] Tryd.f68.results.toList [.one (.int .i64)] (bodyOf Tryd.f68) [Kind.val (.one (.int .i64)) p0, Kind.val (.one (.int .i64)) p1, Kind.val (.one (.int .i64)) p2] = ref23_within p0 p1 p2 := by kernel_rfl
theorem ref23_within_calls (p0 : Int) (p1 : Int) (p2 : Int) (h : Heap) (Q : Value → Heap → Prop) (hh : ref23_within p0 p1 p2 h fun x h' => Q (.int .i64 x.1) h') :
    HCalls Tryd.prog 68 #[.int .i64 p0, .int .i64 p1, .int .i64 p2] h Q := by
  rw [← ref23_within_den] at hh
  exact calls_of_den Tryd.func68 (by kernel_rfl) Tryd.ntmps68 (by kernel_rfl) (fun f hf => by cases hf) orders hh

/-- aqueduct/advert.node -/
def advert_node (p0 : Int) : HM (Bool × Unit) :=
  HM.bind (α := Bool × Unit) (HM.ite (decide (0 ≤ (p0 : Int))) (
  HM.pure (decide (p0 < (8 : Int)), ())) (
  HM.pure (false, ()))) fun (x1 : Bool × Unit) =>
  HM.pure (x1.1, ())

theorem advert_node_den (p0 : Int) : denFn Tryd.prog [] 9 [0, 2] [0] Tryd.f79.results.toList [.one .bool] (bodyOf Tryd.f79) [Kind.val (.one (.int .i64)) p0] = advert_node p0 := by kernel_rfl
theorem advert_node_calls (p0 : Int) (h : Heap) (Q : Value → Heap → Prop) (hh : advert_node p0 h fun x h' => Q (.bool x.1) h') :
    HCalls Tryd.prog 79 #[.int .i64 p0] h Q := by
  rw [← advert_node_den] at hh
  exact calls_of_den Tryd.func79 (by kernel_rfl) Tryd.ntmps79 (by kernel_rfl) (fun f hf => by cases hf) orders hh

/-- slices.ContainsFunc[[]string,string] -/
def slices_ContainsFunc_string (p0 : Slc) (p1 : Value) : HM (Bool × Unit) :=
  HM.bind (α := Int) (HM.call1 Tryd.prog (.one (.int .i64)) 111 #[.slice p0.a p0.len p0.cap, p1]) fun (x1 : Int) =>
  HM.pure (decide (0 ≤ (x1 : Int)), ())

theorem slices_ContainsFunc_string_den (p0 : Slc) (p1 : Value) : denFn Tryd.prog [111] 9 [0, 1, 4] [0, 1] Tryd.f80.results.toList [.one .bool] (bodyOf Tryd.f80) [Kind.val (.one .slc) p0, Kind.val (.one .any) p1] = slices_ContainsFunc_string p0 p1 := by kernel_rfl
theorem slices_ContainsFunc_string_calls (p0 : Slc) (p1 : Value) (h : Heap) (Q : Value → Heap → Prop) (hh : slices_ContainsFunc_string p0 p1 h fun x h' => Q (.bool x.1) h') :
    HCalls Tryd.prog 80 #[.slice p0.a p0.len p0.cap, p1] h Q := by
  rw [← slices_ContainsFunc_string_den] at hh
  exact calls_of_den Tryd.func80 (by kernel_rfl) Tryd.ntmps80 (by kernel_rfl) (fun f hf => by
      rcases List.mem_cons.1 hf with rfl | hf
      · exact Tryd.call111
      cases hf) orders hh

/-- (aqueduct/advert.Advert).good$1 -/
def advert_Advert_good_f1 (p0 : ByteArray) : HM (Bool × Unit) :=
  HM.bind (α := Int) (HM.call1 Tryd.prog (.one (.int .u8)) 44 #[.string p0]) fun (x1 : Int) =>
  HM.pure (!(x1 == 0), ())

theorem advert_Advert_good_f1_den (p0 : ByteArray) : denFn Tryd.prog [44] 6 [0, 2] [0] Tryd.f81.results.toList [.one .bool] (bodyOf Tryd.f81) [Kind.val (.one .str) p0] = advert_Advert_good_f1 p0 := by kernel_rfl
theorem advert_Advert_good_f1_calls (p0 : ByteArray) (h : Heap) (Q : Value → Heap → Prop) (hh : advert_Advert_good_f1 p0 h fun x h' => Q (.bool x.1) h') :
    HCalls Tryd.prog 81 #[.string p0] h Q := by
  rw [← advert_Advert_good_f1_den] at hh
  exact calls_of_den Tryd.func81 (by kernel_rfl) Tryd.ntmps81 (by kernel_rfl) (fun f hf => by
      rcases List.mem_cons.1 hf with rfl | hf
      · exact Tryd.call44
      cases hf) orders hh

/-- slices.ContainsFunc[[]aqueduct/advert.Link,aqueduct/advert.Link] -/
def slices_ContainsFunc_Link (p0 : Slc) (p1 : Value) : HM (Bool × Unit) :=
  HM.bind (α := Int) (HM.call1 Tryd.prog (.one (.int .i64)) 112 #[.slice p0.a p0.len p0.cap, p1]) fun (x1 : Int) =>
  HM.pure (decide (0 ≤ (x1 : Int)), ())

theorem slices_ContainsFunc_Link_den (p0 : Slc) (p1 : Value) : denFn Tryd.prog [112] 9 [0, 1, 4] [0, 1] Tryd.f82.results.toList [.one .bool] (bodyOf Tryd.f82) [Kind.val (.one .slc) p0, Kind.val (.one .any) p1] = slices_ContainsFunc_Link p0 p1 := by kernel_rfl
theorem slices_ContainsFunc_Link_calls (p0 : Slc) (p1 : Value) (h : Heap) (Q : Value → Heap → Prop) (hh : slices_ContainsFunc_Link p0 p1 h fun x h' => Q (.bool x.1) h') :
    HCalls Tryd.prog 82 #[.slice p0.a p0.len p0.cap, p1] h Q := by
  rw [← slices_ContainsFunc_Link_den] at hh
  exact calls_of_den Tryd.func82 (by kernel_rfl) Tryd.ntmps82 (by kernel_rfl) (fun f hf => by
      rcases List.mem_cons.1 hf with rfl | hf
      · exact Tryd.call112
      cases hf) orders hh

/-- (aqueduct/advert.Advert).good$2 -/
def advert_Advert_good_f2 (p0 : Int × ByteArray × Int × Int × ByteArray × ByteArray × Unit) (p1 : Addr) : HM (Bool × Unit) :=
  HM.bind (α := Nat) (HM.new (.cells #[.int .i64 p0.1, .string p0.2.1, .int .i64 p0.2.2.1, .int .i64 p0.2.2.2.1, .string p0.2.2.2.2.1, .string p0.2.2.2.2.2.1] 96)) fun (x1 : Nat) =>
  HM.bind (α := Bool × Unit) (HM.bind (α := Int) (HM.load1 (.int .i64) (Addr.add ⟨x1, 0, none⟩ 0)) fun (x2 : Int) =>
  HM.bind (α := Bool) (HM.call1 Tryd.prog (.one .bool) 79 #[.int .i64 x2]) fun (x3 : Bool) =>
  HM.ite (!x3) (
  HM.pure (true, ())) (
  HM.bind (α := Int) (HM.load1 (.int .i64) (Addr.add ⟨x1, 0, none⟩ 0)) fun (x4 : Int) =>
  HM.bind (α := Int) (HM.load1 (.int .i64) (Addr.add p1 0)) fun (x5 : Int) =>
  HM.ite (x4 == x5) (
  HM.pure (true, ())) (
  HM.bind (α := ByteArray × Int × Int × ByteArray × ByteArray × Unit) (HM.loadN [.str, .int .i64, .int .i64, .str, .str] (Addr.add ⟨x1, 0, none⟩ 1)) fun (x6 : ByteArray × Int × Int × ByteArray × ByteArray × Unit) =>
  HM.bind (α := Int) (HM.call1 Tryd.prog (.one (.int .u8)) 84 #[.agg #[.string x6.1, .int .i64 x6.2.1, .int .i64 x6.2.2.1, .string x6.2.2.2.1, .string x6.2.2.2.2.1]]) fun (x7 : Int) =>
  HM.pure (!(x7 == 0), ())))) fun (x8 : Bool × Unit) =>
  HM.pure (x8.1, ())

theorem advert_Advert_good_f2_den (p0 : Int × ByteArray × Int × Int × ByteArray × ByteArray × Unit) (p1 : Addr) : denFn Tryd.prog [79, 84] 21 [0, 1, 2, 3] [0, 1, 2] Tryd.f83.results.toList [.one .bool] (bodyOf Tryd.f83) [Kind.val (.agg [.int .i64, .str, .int .i64, .int .i64, .str, .str]) p0, Value.pointer (some p1)] = advert_Advert_good_f2 p0 p1 := by kernel_rfl
theorem advert_Advert_good_f2_calls (p0 : Int × ByteArray × Int × Int × ByteArray × ByteArray × Unit) (p1 : Addr) (h : Heap) (Q : Value → Heap → Prop) (hh : advert_Advert_good_f2 p0 p1 h fun x h' => Q (.bool x.1) h') :
    HCalls Tryd.prog 83 #[.agg #[.int .i64 p0.1, .string p0.2.1, .int .i64 p0.2.2.1, .int .i64 p0.2.2.2.1, .string p0.2.2.2.2.1, .string p0.2.2.2.2.2.1], .pointer (some p1)] h Q := by
  rw [← advert_Advert_good_f2_den] at hh
  exact calls_of_den Tryd.func83 (by kernel_rfl) Tryd.ntmps83 (by kernel_rfl) (fun f hf => by
      rcases List.mem_cons.1 hf with rfl | hf
      · exact Tryd.call79
      rcases List.mem_cons.1 hf with rfl | hf
      · exact Tryd.call84
      cases hf) orders hh

/-- (aqueduct/remap.Rule).Check -/
def remap_Rule_Check (p0 : ByteArray × Int × Int × ByteArray × ByteArray × Unit) : HM (Int × Unit) :=
  HM.bind (α := Nat) (HM.new (.cells #[.string p0.1, .int .i64 p0.2.1, .int .i64 p0.2.2.1, .string p0.2.2.2.1, .string p0.2.2.2.2.1] 94)) fun (x1 : Nat) =>
  HM.bind (α := ByteArray) (HM.load1 .str (Addr.add ⟨x1, 0, none⟩ 0)) fun (x2 : ByteArray) =>
  HM.bind (α := Int) (HM.call1 Tryd.prog (.one (.int .u8)) 44 #[.string x2]) fun (x3 : Int) =>
  HM.ite (!(x3 == 0)) (
  HM.pure (143, ())) (
  HM.bind (α := Bool × Unit) (HM.bind (α := ByteArray) (HM.load1 .str (Addr.add ⟨x1, 0, none⟩ 3)) fun (x4 : ByteArray) =>
  HM.bind (α := Bool) (HM.call1 Tryd.prog (.one .bool) 113 #[.string x4]) fun (x5 : Bool) =>
  HM.ite (!x5) (
  HM.pure (true, ())) (
  HM.bind (α := ByteArray) (HM.load1 .str (Addr.add ⟨x1, 0, none⟩ 4)) fun (x6 : ByteArray) =>
  HM.bind (α := Bool) (HM.call1 Tryd.prog (.one .bool) 113 #[.string x6]) fun (x7 : Bool) =>
  HM.pure (!x7, ()))) fun (x8 : Bool × Unit) =>
  HM.ite x8.1 (
  HM.pure (144, ())) (
  HM.bind (α := Bool × Unit) (HM.bind (α := Int) (HM.load1 (.int .i64) (Addr.add ⟨x1, 0, none⟩ 1)) fun (x9 : Int) =>
  HM.ite (decide (x9 < (0 : Int))) (
  HM.pure (true, ())) (
  HM.bind (α := Int) (HM.load1 (.int .i64) (Addr.add ⟨x1, 0, none⟩ 1)) fun (x10 : Int) =>
  HM.pure (decide (2 < (x10 : Int)), ()))) fun (x11 : Bool × Unit) =>
  HM.ite x11.1 (
  HM.pure (128, ())) (
  HM.bind (α := Bool × Unit) (HM.bind (α := Int) (HM.load1 (.int .i64) (Addr.add ⟨x1, 0, none⟩ 2)) fun (x12 : Int) =>
  HM.ite (decide (x12 < (0 : Int))) (
  HM.pure (true, ())) (
  HM.bind (α := Int) (HM.load1 (.int .i64) (Addr.add ⟨x1, 0, none⟩ 2)) fun (x13 : Int) =>
  HM.pure (decide (2 < (x13 : Int)), ()))) fun (x14 : Bool × Unit) =>
  HM.ite x14.1 (
  HM.pure (155, ())) (
  HM.pure (0, ())))))

theorem remap_Rule_Check_den (p0 : ByteArray × Int × Int × ByteArray × ByteArray × Unit) : denFn Tryd.prog [44, 113] 37 [0, 1, 2, 3, 8, 19, 28] [0, 1, 3, 8, 19, 28] Tryd.f84.results.toList [.one (.int .u8)] (bodyOf Tryd.f84) [Kind.val (.agg [.str, .int .i64, .int .i64, .str, .str]) p0] = remap_Rule_Check p0 := by kernel_rfl
theorem remap_Rule_Check_calls (p0 : ByteArray × Int × Int × ByteArray × ByteArray × Unit) (h : Heap) (Q : Value → Heap → Prop) (hh : remap_Rule_Check p0 h fun x h' => Q (.int .u8 x.1) h') :
    HCalls Tryd.prog 84 #[.agg #[.string p0.1, .int .i64 p0.2.1, .int .i64 p0.2.2.1, .string p0.2.2.2.1, .string p0.2.2.2.2.1]] h Q := by
  rw [← remap_Rule_Check_den] at hh
  exact calls_of_den Tryd.func84 (by kernel_rfl) Tryd.ntmps84 (by kernel_rfl) (fun f hf => by
      rcases List.mem_cons.1 hf with rfl | hf
      · exact Tryd.call44
      rcases List.mem_cons.1 hf with rfl | hf
      · exact Tryd.call113
      cases hf) orders hh

/-- aqueduct/varint.wide -/
def varint_wide (p0 : Int) : HM (Bool × Unit) :=
  HM.bind (α := Bool × Unit) (HM.ite (p0 == 1) (
  HM.pure (true, ())) (
  HM.ite (p0 == 2) (
  HM.pure (true, ())) (
  HM.pure (p0 == 4, ())))) fun (x1 : Bool × Unit) =>
  HM.pure (x1.1, ())

theorem varint_wide_den (p0 : Int) : denFn Tryd.prog [] 13 [0, 2] [0] Tryd.f85.results.toList [.one .bool] (bodyOf Tryd.f85) [Kind.val (.one (.int .i64)) p0] = varint_wide p0 := by kernel_rfl
theorem varint_wide_calls (p0 : Int) (h : Heap) (Q : Value → Heap → Prop) (hh : varint_wide p0 h fun x h' => Q (.bool x.1) h') :
    HCalls Tryd.prog 85 #[.int .i64 p0] h Q := by
  rw [← varint_wide_den] at hh
  exact calls_of_den Tryd.func85 (by kernel_rfl) Tryd.ntmps85 (by kernel_rfl) (fun f hf => by cases hf) orders hh

/-- aqueduct/aqueductref10.Check -/
def ref10_Check (p0 : ByteArray × Int × Int × ByteArray × ByteArray × Unit) : HM (Int × Unit) :=
  HM.bind (α := Nat) (HM.new (.cells #[.string p0.1, .int .i64 p0.2.1, .int .i64 p0.2.2.1, .string p0.2.2.2.1, .string p0.2.2.2.2.1] 120)) fun (x1 : Nat) =>
  HM.bind (α := ByteArray) (HM.load1 .str (Addr.add ⟨x1, 0, none⟩ 0)) fun (x2 : ByteArray) =>
  HM.bind (α := Int) (HM.call1 Tryd.prog (.one (.int .i64)) 76 #[.string x2]) fun (x3 : Int) =>
  HM.bind (α := ByteArray) (HM.load1 .str (Addr.add ⟨x1, 0, none⟩ 3)) fun (x4 : ByteArray) =>
  HM.bind (α := Int) (HM.call1 Tryd.prog (.one (.int .i64)) 39 #[.string x4]) fun (x5 : Int) =>
  HM.bind (α := ByteArray) (HM.load1 .str (Addr.add ⟨x1, 0, none⟩ 4)) fun (x6 : ByteArray) =>
  HM.bind (α := Int) (HM.call1 Tryd.prog (.one (.int .i64)) 39 #[.string x6]) fun (x7 : Int) =>
  HM.ite (!(x3 == 0)) (
  HM.pure (143, ())) (
  HM.bind (α := Bool × Unit) (HM.bind (α := ByteArray) (HM.load1 .str (Addr.add ⟨x1, 0, none⟩ 3)) fun (x8 : ByteArray) =>
  HM.ite (!(decide (x8 = (ByteArray.mk #[])))) (
  HM.ite (!(x5 == 0)) (
  HM.pure (true, ())) (
  HM.bind (α := ByteArray) (HM.load1 .str (Addr.add ⟨x1, 0, none⟩ 4)) fun (x9 : ByteArray) =>
  HM.ite (!(decide (x9 = (ByteArray.mk #[])))) (
  HM.pure (!(x7 == 0), ())) (
  HM.pure (false, ())))) (
  HM.bind (α := ByteArray) (HM.load1 .str (Addr.add ⟨x1, 0, none⟩ 4)) fun (x10 : ByteArray) =>
  HM.ite (!(decide (x10 = (ByteArray.mk #[])))) (
  HM.pure (!(x7 == 0), ())) (
  HM.pure (false, ())))) fun (x11 : Bool × Unit) =>
  HM.ite x11.1 (
  HM.pure (144, ())) (
  HM.bind (α := Bool × Unit) (HM.bind (α := Int) (HM.load1 (.int .i64) (Addr.add ⟨x1, 0, none⟩ 1)) fun (x12 : Int) =>
  HM.ite (decide (x12 < (0 : Int))) (
  HM.pure (true, ())) (
  HM.bind (α := Int) (HM.load1 (.int .i64) (Addr.add ⟨x1, 0, none⟩ 1)) fun (x13 : Int) =>
  HM.pure (decide (2 < (x13 : Int)), ()))) fun (x14 : Bool × Unit) =>
  HM.ite x14.1 (
  HM.pure (128, ())) (
  HM.bind (α := Bool × Unit) (HM.bind (α := Int) (HM.load1 (.int .i64) (Addr.add ⟨x1, 0, none⟩ 2)) fun (x15 : Int) =>
  HM.ite (decide (x15 < (0 : Int))) (
  HM.pure (true, ())) (
  HM.bind (α := Int) (HM.load1 (.int .i64) (Addr.add ⟨x1, 0, none⟩ 2)) fun (x16 : Int) =>
  HM.pure (decide (2 < (x16 : Int)), ()))) fun (x17 : Bool × Unit) =>
  HM.ite x17.1 (
  HM.pure (155, ())) (
  HM.pure (0, ())))))

theorem ref10_Check_den (p0 : ByteArray × Int × Int × ByteArray × ByteArray × Unit) : denFn Tryd.prog [76, 39] 49 [0, 1, 2, 3, 4, 5, 16, 32, 40, 48] [0, 1, 3, 4, 5, 16, 32, 40, 48] Tryd.f87.results.toList [.one (.int .i64)] (bodyOf Tryd.f87) [Kind.val (.agg [.str, .int .i64, .int .i64, .str, .str]) p0] = ref10_Check p0 := by kernel_rfl
theorem ref10_Check_calls (p0 : ByteArray × Int × Int × ByteArray × ByteArray × Unit) (h : Heap) (Q : Value → Heap → Prop) (hh : ref10_Check p0 h fun x h' => Q (.int .i64 x.1) h') :
    HCalls Tryd.prog 87 #[.agg #[.string p0.1, .int .i64 p0.2.1, .int .i64 p0.2.2.1, .string p0.2.2.2.1, .string p0.2.2.2.2.1]] h Q := by
  rw [← ref10_Check_den] at hh
  exact calls_of_den Tryd.func87 (by kernel_rfl) Tryd.ntmps87 (by kernel_rfl) (fun f hf => by
      rcases List.mem_cons.1 hf with rfl | hf
      · exact Tryd.call76
      rcases List.mem_cons.1 hf with rfl | hf
      · exact Tryd.call39
      cases hf) orders hh

/-- aqueduct/aqueductref01.Fixed -/
def ref01_Fixed (p0 : Int) (p1 : Int) : HM (ByteArray × Int × Unit) :=
  HM.bind (α := Int) (HM.call1 Tryd.prog (.one (.int .i64)) 115 #[.int .i64 p0]) fun (x1 : Int) =>
  HM.ite (x1 == 0) (
  HM.pure (ByteArray.mk #[], 128, ())) (
  HM.bind (α := Bool × Unit) (HM.ite (decide (p1 < (0 : Int))) (
  HM.pure (true, ())) (
  HM.pure (decide (x1 ≤ (p1 : Int)), ()))) fun (x2 : Bool × Unit) =>
  HM.ite x2.1 (
  HM.pure (ByteArray.mk #[], 129, ())) (
  HM.bind (α := ByteArray × Int × Int × Unit) (HM.loop (σ := ByteArray × Int × Int × Unit) (τ := ByteArray × Int × Int × Unit) (fun (x4 : ByteArray × Int × Int × Unit) =>
  HM.ite (decide (x4.2.2.1 < (p0 : Int))) (
  HM.req (256 ≠ (0 : Int)) <|
  HM.bind (α := Nat) (HM.new (.cells #[.int .u8 (IntKind.wrap .u8 (Int.tmod x4.2.1 256))] 5)) fun (x5 : Nat) =>
  HM.bind (α := ByteArray) (HM.strOf (⟨some ⟨x5, 0, none⟩, 1, 1⟩)) fun (x6 : ByteArray) =>
  HM.req (ByteArray.size x6 + ByteArray.size x4.1 ≤ 9223372036854775807) <|
  HM.req (256 ≠ (0 : Int)) <|
  HM.pure (.inl (x6 ++ x4.1, IntKind.wrap .i64 (Int.tdiv x4.2.1 256), IntKind.wrap .i64 (x4.2.2.1 + 1), ()))) (
  HM.pure (.inr (x4.1, x4.2.1, x4.2.2.1, ())))) (ByteArray.mk #[], p1, 0, ())) fun (x3 : ByteArray × Int × Int × Unit) =>
  HM.pure (x3.1, 0, ())))

theorem ref01_Fixed_den (p0 : Int) (p1 : Int) : denFn Tryd.prog [115] 35 [0, 1, 4, 5, 6, 7, 8, 12, 19, 22] [0, 1, 6, 7, 8, 12, 19, 22] Tryd.f88.results.toList [.one .str, .one (.int .i64)] (bodyOf Tryd.f88) [Kind.val (.one (.int .i64)) p0, Kind.val (.one (.int .i64)) p1] = ref01_Fixed p0 p1 := by kernel_rfl
theorem ref01_Fixed_calls (p0 : Int) (p1 : Int) (h : Heap) (Q : Value → Heap → Prop) (hh : ref01_Fixed p0 p1 h fun x h' => Q (.tuple #[.string x.1, .int .i64 x.2.1]) h') :
    HCalls Tryd.prog 88 #[.int .i64 p0, .int .i64 p1] h Q := by
  rw [← ref01_Fixed_den] at hh
  exact calls_of_den Tryd.func88 (by kernel_rfl) Tryd.ntmps88 (by kernel_rfl) (fun f hf => by
      rcases List.mem_cons.1 hf with rfl | hf
      · exact Tryd.call115
      cases hf) orders hh

/-- aqueduct/aqueductref01.Data -/
def ref01_Data (p0 : ByteArray) : HM (ByteArray × Int × Unit) :=
  HM.ite (decide (65535 < (((ByteArray.size p0 : Nat) : Int) : Int))) (
  HM.pure (ByteArray.mk #[], 149, ())) (
  HM.bind (α := ByteArray × Int × Unit) (HM.callN Tryd.prog [.one .str, .one (.int .i64)] 88 #[.int .i64 2, .int .i64 ((ByteArray.size p0 : Nat) : Int)]) fun (x1 : ByteArray × Int × Unit) =>
  HM.req (ByteArray.size x1.1 + ByteArray.size p0 ≤ 9223372036854775807) <|
  HM.pure (x1.1 ++ p0, 0, ()))

theorem ref01_Data_den (p0 : ByteArray) : denFn Tryd.prog [88] 18 [0, 2, 3, 4, 8] [0, 4, 8] Tryd.f89.results.toList [.one .str, .one (.int .i64)] (bodyOf Tryd.f89) [Kind.val (.one .str) p0] = ref01_Data p0 := by kernel_rfl
theorem ref01_Data_calls (p0 : ByteArray) (h : Heap) (Q : Value → Heap → Prop) (hh : ref01_Data p0 h fun x h' => Q (.tuple #[.string x.1, .int .i64 x.2.1]) h') :
    HCalls Tryd.prog 89 #[.string p0] h Q := by
  rw [← ref01_Data_den] at hh
  exact calls_of_den Tryd.func89 (by kernel_rfl) Tryd.ntmps89 (by kernel_rfl) (fun f hf => by
      rcases List.mem_cons.1 hf with rfl | hf
      · exact Tryd.call88
      cases hf) orders hh

/-- aqueduct/varint.GetFixed -/
def varint_GetFixed (p0 : ByteArray) (p1 : Int) (p2 : Int) : HM (Int × Int × Int × Unit) :=
  HM.bind (α := Bool × Unit) (HM.bind (α := Bool) (HM.call1 Tryd.prog (.one .bool) 85 #[.int .i64 p2]) fun (x1 : Bool) =>
  HM.ite (!x1) (
  HM.pure (true, ())) (
  HM.ite (decide (p1 < (0 : Int))) (
  HM.pure (true, ())) (
  HM.pure (decide (((ByteArray.size p0 : Nat) : Int) < (p1 : Int)), ())))) fun (x2 : Bool × Unit) =>
  HM.ite x2.1 (
  HM.pure (0, 0, 128, ())) (
  HM.ite (decide ((IntKind.wrap .i64 (((ByteArray.size p0 : Nat) : Int) - p1)) < (p2 : Int))) (
  HM.pure (0, 0, 242, ())) (
  HM.bind (α := Int × Int × Unit) (HM.loop (σ := Int × Int × Unit) (τ := Int × Int × Unit) (fun (x4 : Int × Int × Unit) =>
  HM.ite (decide (x4.2.1 < (p2 : Int))) (
  HM.req ((0 : Int) ≤ 8) <|
  HM.bind (α := Int) (HM.strIdx p0 (IntKind.wrap .i64 (p1 + x4.2.1))) fun (x5 : Int) =>
  HM.pure (.inl (bitOp .or .i64 (IntKind.wrap .i64 (x4.1 * 2 ^ (min (Int.toNat 8) (IntKind.bits .i64)))) (IntKind.wrap .i64 x5), IntKind.wrap .i64 (x4.2.1 + 1), ()))) (
  HM.pure (.inr (x4.1, x4.2.1, ())))) (0, 0, ())) fun (x3 : Int × Int × Unit) =>
  HM.pure (x3.1, IntKind.wrap .i64 (p1 + p2), 0, ())))

theorem varint_GetFixed_den (p0 : ByteArray) (p1 : Int) (p2 : Int) : denFn Tryd.prog [85] 50 [0, 1, 2, 6, 7, 8, 9, 10, 11, 25, 32, 33, 34] [0, 1, 2, 9, 10, 11, 25, 32, 33, 34] Tryd.f90.results.toList [.one (.int .i64), .one (.int .i64), .one (.int .u8)] (bodyOf Tryd.f90) [Kind.val (.one .str) p0, Kind.val (.one (.int .i64)) p1, Kind.val (.one (.int .i64)) p2] = varint_GetFixed p0 p1 p2 := by kernel_rfl
theorem varint_GetFixed_calls (p0 : ByteArray) (p1 : Int) (p2 : Int) (h : Heap) (Q : Value → Heap → Prop) (hh : varint_GetFixed p0 p1 p2 h fun x h' => Q (.tuple #[.int .i64 x.1, .int .i64 x.2.1, .int .u8 x.2.2.1]) h') :
    HCalls Tryd.prog 90 #[.string p0, .int .i64 p1, .int .i64 p2] h Q := by
  rw [← varint_GetFixed_den] at hh
  exact calls_of_den Tryd.func90 (by kernel_rfl) Tryd.ntmps90 (by kernel_rfl) (fun f hf => by
      rcases List.mem_cons.1 hf with rfl | hf
      · exact Tryd.call85
      cases hf) orders hh

/-- aqueduct/varint.GetData -/
def varint_GetData (p0 : ByteArray) (p1 : Int) : HM (ByteArray × Int × Int × Unit) :=
  HM.bind (α := Int × Int × Int × Unit) (HM.callN Tryd.prog [.one (.int .i64), .one (.int .i64), .one (.int .u8)] 90 #[.string p0, .int .i64 p1, .int .i64 2]) fun (x1 : Int × Int × Int × Unit) =>
  HM.ite (!(x1.2.2.1 == 0)) (
  HM.pure (ByteArray.mk #[], 0, x1.2.2.1, ())) (
  HM.ite (decide ((IntKind.wrap .i64 (((ByteArray.size p0 : Nat) : Int) - x1.2.1)) < (x1.1 : Int))) (
  HM.pure (ByteArray.mk #[], 0, 242, ())) (
  HM.bind (α := ByteArray) (HM.substr p0 (some x1.2.1) (some (IntKind.wrap .i64 (x1.2.1 + x1.1)))) fun (x2 : ByteArray) =>
  HM.pure (x2, IntKind.wrap .i64 (x1.2.1 + x1.1), 0, ())))

theorem varint_GetData_den (p0 : ByteArray) (p1 : Int) : denFn Tryd.prog [90] 37 [0, 1, 4, 5, 6, 7, 8, 9, 17, 21] [0, 1, 7, 8, 9, 17, 21] Tryd.f91.results.toList [.one .str, .one (.int .i64), .one (.int .u8)] (bodyOf Tryd.f91) [Kind.val (.one .str) p0, Kind.val (.one (.int .i64)) p1] = varint_GetData p0 p1 := by kernel_rfl
theorem varint_GetData_calls (p0 : ByteArray) (p1 : Int) (h : Heap) (Q : Value → Heap → Prop) (hh : varint_GetData p0 p1 h fun x h' => Q (.tuple #[.string x.1, .int .i64 x.2.1, .int .u8 x.2.2.1]) h') :
    HCalls Tryd.prog 91 #[.string p0, .int .i64 p1] h Q := by
  rw [← varint_GetData_den] at hh
  exact calls_of_den Tryd.func91 (by kernel_rfl) Tryd.ntmps91 (by kernel_rfl) (fun f hf => by
      rcases List.mem_cons.1 hf with rfl | hf
      · exact Tryd.call90
      cases hf) orders hh

/-- aqueduct/aqueductref01.GetFixed -/
def ref01_GetFixed (p0 : ByteArray) (p1 : Int) (p2 : Int) : HM (Int × Int × Int × Unit) :=
  HM.bind (α := Int) (HM.call1 Tryd.prog (.one (.int .i64)) 115 #[.int .i64 p2]) fun (x1 : Int) =>
  HM.bind (α := Bool × Unit) (HM.ite (x1 == 0) (
  HM.pure (true, ())) (
  HM.ite (decide (p1 < (0 : Int))) (
  HM.pure (true, ())) (
  HM.pure (decide (((ByteArray.size p0 : Nat) : Int) < (p1 : Int)), ())))) fun (x2 : Bool × Unit) =>
  HM.ite x2.1 (
  HM.pure (0, 0, 128, ())) (
  HM.ite (decide ((IntKind.wrap .i64 (((ByteArray.size p0 : Nat) : Int) - p1)) < (p2 : Int))) (
  HM.pure (0, 0, 242, ())) (
  HM.bind (α := Int × Int × Unit) (HM.loop (σ := Int × Int × Unit) (τ := Int × Int × Unit) (fun (x4 : Int × Int × Unit) =>
  HM.ite (decide (x4.2.1 < (p2 : Int))) (
  HM.bind (α := Int) (HM.strIdx p0 (IntKind.wrap .i64 (p1 + x4.2.1))) fun (x5 : Int) =>
  HM.pure (.inl (IntKind.wrap .i64 ((IntKind.wrap .i64 (x4.1 * 256)) + (IntKind.wrap .i64 x5)), IntKind.wrap .i64 (x4.2.1 + 1), ()))) (
  HM.pure (.inr (x4.1, x4.2.1, ())))) (0, 0, ())) fun (x3 : Int × Int × Unit) =>
  HM.pure (x3.1, IntKind.wrap .i64 (p1 + p2), 0, ())))

theorem ref01_GetFixed_den (p0 : ByteArray) (p1 : Int) (p2 : Int) : denFn Tryd.prog [115] 50 [0, 1, 2, 6, 7, 8, 9, 10, 11, 25, 31, 34] [0, 1, 2, 9, 10, 11, 25, 31, 34] Tryd.f92.results.toList [.one (.int .i64), .one (.int .i64), .one (.int .i64)] (bodyOf Tryd.f92) [Kind.val (.one .str) p0, Kind.val (.one (.int .i64)) p1, Kind.val (.one (.int .i64)) p2] = ref01_GetFixed p0 p1 p2 := by kernel_rfl
theorem ref01_GetFixed_calls (p0 : ByteArray) (p1 : Int) (p2 : Int) (h : Heap) (Q : Value → Heap → Prop) (hh : ref01_GetFixed p0 p1 p2 h fun x h' => Q (.tuple #[.int .i64 x.1, .int .i64 x.2.1, .int .i64 x.2.2.1]) h') :
    HCalls Tryd.prog 92 #[.string p0, .int .i64 p1, .int .i64 p2] h Q := by
  rw [← ref01_GetFixed_den] at hh
  exact calls_of_den Tryd.func92 (by kernel_rfl) Tryd.ntmps92 (by kernel_rfl) (fun f hf => by
      rcases List.mem_cons.1 hf with rfl | hf
      · exact Tryd.call115
      cases hf) orders hh

/-- aqueduct/aqueductref01.GetData -/
def ref01_GetData (p0 : ByteArray) (p1 : Int) : HM (ByteArray × Int × Int × Unit) :=
  HM.bind (α := Int × Int × Int × Unit) (HM.callN Tryd.prog [.one (.int .i64), .one (.int .i64), .one (.int .i64)] 92 #[.string p0, .int .i64 p1, .int .i64 2]) fun (x1 : Int × Int × Int × Unit) =>
  HM.ite (!(x1.2.2.1 == 0)) (
  HM.pure (ByteArray.mk #[], 0, x1.2.2.1, ())) (
  HM.ite (decide ((IntKind.wrap .i64 (((ByteArray.size p0 : Nat) : Int) - x1.2.1)) < (x1.1 : Int))) (
  HM.pure (ByteArray.mk #[], 0, 242, ())) (
  HM.bind (α := ByteArray) (HM.substr p0 (some x1.2.1) (some (IntKind.wrap .i64 (x1.2.1 + x1.1)))) fun (x2 : ByteArray) =>
  HM.pure (x2, IntKind.wrap .i64 (x1.2.1 + x1.1), 0, ())))

theorem ref01_GetData_den (p0 : ByteArray) (p1 : Int) : denFn Tryd.prog [92] 35 [0, 1, 4, 5, 6, 7, 8, 9, 18, 25] [0, 1, 7, 8, 9, 18, 25] Tryd.f93.results.toList [.one .str, .one (.int .i64), .one (.int .i64)] (bodyOf Tryd.f93) [Kind.val (.one .str) p0, Kind.val (.one (.int .i64)) p1] = ref01_GetData p0 p1 := by kernel_rfl
theorem ref01_GetData_calls (p0 : ByteArray) (p1 : Int) (h : Heap) (Q : Value → Heap → Prop) (hh : ref01_GetData p0 p1 h fun x h' => Q (.tuple #[.string x.1, .int .i64 x.2.1, .int .i64 x.2.2.1]) h') :
    HCalls Tryd.prog 93 #[.string p0, .int .i64 p1] h Q := by
  rw [← ref01_GetData_den] at hh
  exact calls_of_den Tryd.func93 (by kernel_rfl) Tryd.ntmps93 (by kernel_rfl) (fun f hf => by
      rcases List.mem_cons.1 hf with rfl | hf
      · exact Tryd.call92
      cases hf) orders hh

/-- slices.Clone[[]string,string] -/
def slices_Clone_string (p0 : Slc) : HM (Slc × Unit) :=
  HM.ite (Option.isNone p0.a) (
  HM.pure (⟨none, 0, 0⟩, ())) (
  HM.bind (α := Nat) (HM.new (.cells #[] 9)) fun (x1 : Nat) =>
  HM.bind (α := Slc) (HM.append 9 1 16 #[.string (ByteArray.mk #[])] (⟨some ⟨x1, 0, none⟩, 0, 0⟩) p0.len (srcSlc 1 p0)) fun (x2 : Slc) =>
  HM.pure (x2, ()))

theorem slices_Clone_string_den (p0 : Slc) : denFn Tryd.prog [] 8 [0, 2, 4] [0, 4] Tryd.f94.results.toList [.one .slc] (bodyOf Tryd.f94) [Kind.val (.one .slc) p0] = slices_Clone_string p0 := by kernel_rfl
theorem slices_Clone_string_calls (p0 : Slc) (h : Heap) (Q : Value → Heap → Prop) (hh : slices_Clone_string p0 h fun x h' => Q (.slice x.1.a x.1.len x.1.cap) h') :
    HCalls Tryd.prog 94 #[.slice p0.a p0.len p0.cap] h Q := by
  rw [← slices_Clone_string_den] at hh
  exact calls_of_den Tryd.func94 (by kernel_rfl) Tryd.ntmps94 (by kernel_rfl) (fun f hf => by cases hf) orders hh

/-- slices.Clone[[]aqueduct/advert.Link,aqueduct/advert.Link] -/
def slices_Clone_Link (p0 : Slc) : HM (Slc × Unit) :=
  HM.ite (Option.isNone p0.a) (
  HM.pure (⟨none, 0, 0⟩, ())) (
  HM.bind (α := Nat) (HM.new (.cells #[] 96)) fun (x1 : Nat) =>
  HM.bind (α := Slc) (HM.append 96 6 72 #[.int .i64 0, .string (ByteArray.mk #[]), .int .i64 0, .int .i64 0, .string (ByteArray.mk #[]), .string (ByteArray.mk #[])] (⟨some ⟨x1, 0, none⟩, 0, 0⟩) p0.len (srcSlc 6 p0)) fun (x2 : Slc) =>
  HM.pure (x2, ()))

theorem slices_Clone_Link_den (p0 : Slc) : denFn Tryd.prog [] 8 [0, 2, 4] [0, 4] Tryd.f95.results.toList [.one .slc] (bodyOf Tryd.f95) [Kind.val (.one .slc) p0] = slices_Clone_Link p0 := by kernel_rfl
theorem slices_Clone_Link_calls (p0 : Slc) (h : Heap) (Q : Value → Heap → Prop) (hh : slices_Clone_Link p0 h fun x h' => Q (.slice x.1.a x.1.len x.1.cap) h') :
    HCalls Tryd.prog 95 #[.slice p0.a p0.len p0.cap] h Q := by
  rw [← slices_Clone_Link_den] at hh
  exact calls_of_den Tryd.func95 (by kernel_rfl) Tryd.ntmps95 (by kernel_rfl) (fun f hf => by cases hf) orders hh

/-- slices.Clone[[]aqueduct/remap.Rule,aqueduct/remap.Rule] -/
def slices_Clone_Rule (p0 : Slc) : HM (Slc × Unit) :=
  HM.ite (Option.isNone p0.a) (
  HM.pure (⟨none, 0, 0⟩, ())) (
  HM.bind (α := Nat) (HM.new (.cells #[] 94)) fun (x1 : Nat) =>
  HM.bind (α := Slc) (HM.append 94 5 64 #[.string (ByteArray.mk #[]), .int .i64 0, .int .i64 0, .string (ByteArray.mk #[]), .string (ByteArray.mk #[])] (⟨some ⟨x1, 0, none⟩, 0, 0⟩) p0.len (srcSlc 5 p0)) fun (x2 : Slc) =>
  HM.pure (x2, ()))

theorem slices_Clone_Rule_den (p0 : Slc) : denFn Tryd.prog [] 8 [0, 2, 4] [0, 4] Tryd.f99.results.toList [.one .slc] (bodyOf Tryd.f99) [Kind.val (.one .slc) p0] = slices_Clone_Rule p0 := by kernel_rfl
theorem slices_Clone_Rule_calls (p0 : Slc) (h : Heap) (Q : Value → Heap → Prop) (hh : slices_Clone_Rule p0 h fun x h' => Q (.slice x.1.a x.1.len x.1.cap) h') :
    HCalls Tryd.prog 99 #[.slice p0.a p0.len p0.cap] h Q := by
  rw [← slices_Clone_Rule_den] at hh
  exact calls_of_den Tryd.func99 (by kernel_rfl) Tryd.ntmps99 (by kernel_rfl) (fun f hf => by cases hf) orders hh

/-- aqueduct/outflow.New -/
def outflow_New (p0 : Int) : HM (Option Addr × Unit) :=
  HM.bind (α := Option Addr) (HM.call1 Tryd.prog (.one .ptr) 118 #[.int .i64 64]) fun (x1 : Option Addr) =>
  HM.bind (α := Int) (HM.call1 Tryd.prog (.one (.int .i64)) 119 #[.int .i64 p0]) fun (x2 : Int) =>
  HM.bind (α := Nat) (HM.new (.cells #[.pointer x1, .int .i64 x2, .bool false, .slice none 0 0, .slice none 0 0] 222)) fun (x3 : Nat) =>
  HM.pure (some ⟨x3, 0, none⟩, ())

theorem outflow_New_den (p0 : Int) : denFn Tryd.prog [118, 119] 8 [0, 2] [0] Tryd.f100.results.toList [.one .ptr] (bodyOf Tryd.f100) [Kind.val (.one (.int .i64)) p0] = outflow_New p0 := by kernel_rfl
theorem outflow_New_calls (p0 : Int) (h : Heap) (Q : Value → Heap → Prop) (hh : outflow_New p0 h fun x h' => Q (.pointer x.1) h') :
    HCalls Tryd.prog 100 #[.int .i64 p0] h Q := by
  rw [← outflow_New_den] at hh
  exact calls_of_den Tryd.func100 (by kernel_rfl) Tryd.ntmps100 (by kernel_rfl) (fun f hf => by
      rcases List.mem_cons.1 hf with rfl | hf
      · exact Tryd.call118
      rcases List.mem_cons.1 hf with rfl | hf
      · exact Tryd.call119
      cases hf) orders hh

/-- (aqueduct/tags.Label).Text -/
def tags_Label_Text (p0 : Int × Int × Int × Int × Unit) : HM (ByteArray × Unit) :=
  HM.bind (α := Nat) (HM.new (.cells #[.int .i64 p0.1, .int .i64 p0.2.1, .int .i64 p0.2.2.1, .int .i64 p0.2.2.2.1] 167)) fun (x1 : Nat) =>
  HM.bind (α := Int × Int × Int × Int × Unit) (HM.loadN [.int .i64, .int .i64, .int .i64, .int .i64] ⟨x1, 0, none⟩) fun (x2 : Int × Int × Int × Int × Unit) =>
  HM.bind (α := Bool) (HM.call1 Tryd.prog (.one .bool) 120 #[.agg #[.int .i64 x2.1, .int .i64 x2.2.1, .int .i64 x2.2.2.1, .int .i64 x2.2.2.2.1]]) fun (x3 : Bool) =>
  HM.ite (!x3) (
  HM.pure (ByteArray.mk #[], ())) (
  HM.bind (α := Int) (HM.load1 (.int .i64) (Addr.add (Addr.add ⟨x1, 0, none⟩ 0) 0)) fun (x4 : Int) =>
  HM.bind (α := Int) (HM.load1 (.int .i64) (Addr.add (Addr.add ⟨x1, 0, none⟩ 0) 1)) fun (x5 : Int) =>
  HM.bind (α := Int) (HM.load1 (.int .i64) (Addr.add ⟨x1, 0, none⟩ 2)) fun (x6 : Int) =>
  HM.bind (α := Int) (HM.load1 (.int .i64) (Addr.add ⟨x1, 0, none⟩ 3)) fun (x7 : Int) =>
  HM.bind (α := ByteArray) (HM.call1 Tryd.prog (.one .str) 122 #[.int .i64 x4]) fun (x8 : ByteArray) =>
  HM.bind (α := Int) (HM.load1 (.int .i64) (Addr.add ⟨x1, 0, none⟩ 3)) fun (x9 : Int) =>
  HM.req ((.int .i64 x9 : Value) = .int .i64 x7) <|
  HM.bind (α := Int) (HM.load1 (.int .i64) (Addr.add ⟨x1, 0, none⟩ 2)) fun (x10 : Int) =>
  HM.req ((.int .i64 x10 : Value) = .int .i64 x6) <|
  HM.bind (α := Int) (HM.load1 (.int .i64) (Addr.add (Addr.add ⟨x1, 0, none⟩ 0) 1)) fun (x11 : Int) =>
  HM.req ((.int .i64 x11 : Value) = .int .i64 x5) <|
  HM.bind (α := ByteArray) (HM.call1 Tryd.prog (.one .str) 123 #[.int .i64 x5, .int .i64 10]) fun (x12 : ByteArray) =>
  HM.bind (α := Int) (HM.load1 (.int .i64) (Addr.add ⟨x1, 0, none⟩ 3)) fun (x13 : Int) =>
  HM.req ((.int .i64 x13 : Value) = .int .i64 x7) <|
  HM.bind (α := Int) (HM.load1 (.int .i64) (Addr.add ⟨x1, 0, none⟩ 2)) fun (x14 : Int) =>
  HM.req ((.int .i64 x14 : Value) = .int .i64 x6) <|
  HM.bind (α := ByteArray) (HM.call1 Tryd.prog (.one .str) 122 #[.int .i64 x6]) fun (x15 : ByteArray) =>
  HM.bind (α := Int) (HM.load1 (.int .i64) (Addr.add ⟨x1, 0, none⟩ 3)) fun (x16 : Int) =>
  HM.req ((.int .i64 x16 : Value) = .int .i64 x7) <|
  HM.bind (α := ByteArray) (HM.call1 Tryd.prog (.one .str) 122 #[.int .i64 x7]) fun (x17 : ByteArray) =>
  HM.bind (α := Nat) (HM.new (.cells #[.string x8, .string x12, .string x15, .string x17] 9)) fun (x18 : Nat) =>
  HM.bind (α := ByteArray) (HM.call1 Tryd.prog (.one .str) 121 #[.slice (some ⟨x18, 0, none⟩) 4 4, .string (ByteArray.mk #[46])]) fun (x19 : ByteArray) =>
  HM.pure (x19, ()))

theorem tags_Label_Text_den (p0 : Int × Int × Int × Int × Unit) : denFn Tryd.prog [120, 122, 123, 121] 22 [0, 1, 2, 5] [0, 1, 5] Tryd.f101.results.toList [.one .str] (bodyOf Tryd.f101) [Kind.val (.agg [.int .i64, .int .i64, .int .i64, .int .i64]) p0] = tags_Label_Text p0 := by kernel_rfl
theorem tags_Label_Text_calls (p0 : Int × Int × Int × Int × Unit) (h : Heap) (Q : Value → Heap → Prop) (hh : tags_Label_Text p0 h fun x h' => Q (.string x.1) h') :
    HCalls Tryd.prog 101 #[.agg #[.int .i64 p0.1, .int .i64 p0.2.1, .int .i64 p0.2.2.1, .int .i64 p0.2.2.2.1]] h Q := by
  rw [← tags_Label_Text_den] at hh
  exact calls_of_den Tryd.func101 (by kernel_rfl) Tryd.ntmps101 (by kernel_rfl) (fun f hf => by
      rcases List.mem_cons.1 hf with rfl | hf
      · exact Tryd.call120
      rcases List.mem_cons.1 hf with rfl | hf
      · exact Tryd.call122
      rcases List.mem_cons.1 hf with rfl | hf
      · exact Tryd.call123
      rcases List.mem_cons.1 hf with rfl | hf
      · exact Tryd.call121
      cases hf) orders hh

/-- aqueduct/remap.Route -/
def remap_Route (p0 : Slc) (p1 : ByteArray) (p2 : Int) : HM (Slc × Unit) :=
  HM.bind (α := Slc × Int × Unit) (HM.loop (σ := Slc × Int × Unit) (τ := Slc × Int × Unit) (fun (x2 : Slc × Int × Unit) =>
  HM.ite (decide (x2.2.1 < (((p0.len : Nat) : Int) : Int))) (
  HM.bind (α := Addr) (HM.idx p0.a p0.len x2.2.1 5) fun (x3 : Addr) =>
  HM.bind (α := ByteArray × Int × Int × ByteArray × ByteArray × Unit) (HM.loadN [.str, .int .i64, .int .i64, .str, .str] x3) fun (x4 : ByteArray × Int × Int × ByteArray × ByteArray × Unit) =>
  HM.bind (α := Nat) (HM.new (.cells #[.string (ByteArray.mk #[]), .int .i64 0, .int .i64 0, .string (ByteArray.mk #[]), .string (ByteArray.mk #[])] 94)) fun (x5 : Nat) =>
  HM.bind (α := Unit) (HM.storeN ⟨x5, 0, none⟩ [.string x4.1, .int .i64 x4.2.1, .int .i64 x4.2.2.1, .string x4.2.2.2.1, .string x4.2.2.2.2.1]) fun (_ : Unit) =>
  HM.bind (α := ByteArray × Int × Int × ByteArray × ByteArray × Unit) (HM.loadN [.str, .int .i64, .int .i64, .str, .str] ⟨x5, 0, none⟩) fun (x6 : ByteArray × Int × Int × ByteArray × ByteArray × Unit) =>
  HM.bind (α := ByteArray × Bool × Unit) (HM.callN Tryd.prog [.one .str, .one .bool] 124 #[.agg #[.string x6.1, .int .i64 x6.2.1, .int .i64 x6.2.2.1, .string x6.2.2.2.1, .string x6.2.2.2.2.1], .string p1]) fun (x7 : ByteArray × Bool × Unit) =>
  HM.bind (α := Slc × Unit) (HM.ite x7.2.1 (
  HM.bind (α := Int) (HM.load1 (.int .i64) (Addr.add ⟨x5, 0, none⟩ 2)) fun (x9 : Int) =>
  HM.bind (α := Nat) (HM.new (.cells #[.int .i64 x2.2.1, .string x7.1, .int .i64 (if x9 < (p2 : Int) then x9 else p2)] 204)) fun (x10 : Nat) =>
  HM.bind (α := Slc) (HM.append 204 3 32 #[.int .i64 0, .string (ByteArray.mk #[]), .int .i64 0] x2.1 1 (srcSlc 3 (⟨some ⟨x10, 0, none⟩, 1, 1⟩))) fun (x11 : Slc) =>
  HM.pure (x11, ())) (
  HM.pure (x2.1, ()))) fun (x8 : Slc × Unit) =>
  HM.pure (.inl (x8.1, IntKind.wrap .i64 (x2.2.1 + 1), ()))) (
  HM.pure (.inr (x2.1, x2.2.1, ())))) (⟨none, 0, 0⟩, 0, ())) fun (x1 : Slc × Int × Unit) =>
  HM.pure (x1.1, ())

theorem remap_Route_den (p0 : Slc) (p1 : ByteArray) (p2 : Int) : denFn Tryd.prog [124] 38 [0, 1, 2, 6, 7, 8, 9, 10, 11, 12, 13, 14, 15, 25] [0, 1, 2, 7, 8, 9, 10, 11, 12, 13, 14, 15, 25] Tryd.f102.results.toList [.one .slc] (bodyOf Tryd.f102) [Kind.val (.one .slc) p0, Kind.val (.one .str) p1, Kind.val (.one (.int .i64)) p2] = remap_Route p0 p1 p2 := by kernel_rfl
theorem remap_Route_calls (p0 : Slc) (p1 : ByteArray) (p2 : Int) (h : Heap) (Q : Value → Heap → Prop) (hh : remap_Route p0 p1 p2 h fun x h' => Q (.slice x.1.a x.1.len x.1.cap) h') :
    HCalls Tryd.prog 102 #[.slice p0.a p0.len p0.cap, .string p1, .int .i64 p2] h Q := by
  rw [← remap_Route_den] at hh
  exact calls_of_den Tryd.func102 (by kernel_rfl) Tryd.ntmps102 (by kernel_rfl) (fun f hf => by
      rcases List.mem_cons.1 hf with rfl | hf
      · exact Tryd.call124
      cases hf) orders hh

/-- slices.IndexFunc[[]string,string] -/
def slices_IndexFunc_string (p0 : Slc) (p1 : Value) : HM (Int × Unit) :=
  HM.bind (α := (Int × Unit) ⊕ (Int × Unit)) (HM.loop (σ := Int × Unit) (τ := (Int × Unit) ⊕ (Int × Unit)) (fun (x2 : Int × Unit) =>
  HM.ite (decide (x2.1 < (((p0.len : Nat) : Int) : Int))) (
  HM.bind (α := Addr) (HM.idx p0.a p0.len x2.1 1) fun (x3 : Addr) =>
  HM.bind (α := ByteArray) (HM.load1 .str x3) fun (x4 : ByteArray) =>
  HM.bind (α := Bool) (HM.callV1 Tryd.prog (.one .bool) p1 #[.string x4]) fun (x5 : Bool) =>
  HM.ite x5 (
  HM.pure (.inr (.inr (x2.1, ())))) (
  HM.pure (.inl (IntKind.wrap .i64 (x2.1 + 1), ())))) (
  HM.pure (.inr (.inl (x2.1, ()))))) (0, ())) (Sum.elim (fun (x1 : Int × Unit) =>
  HM.pure ((-1), ())) HM.pure)

theorem slices_IndexFunc_string_den (p0 : Slc) (p1 : Value) : denFn Tryd.prog [] 19 [0, 1, 4, 5, 7, 8, 9, 16] [0, 1, 5, 7, 8, 9, 16] Tryd.f111.results.toList [.one (.int .i64)] (bodyOf Tryd.f111) [Kind.val (.one .slc) p0, Kind.val (.one .any) p1] = slices_IndexFunc_string p0 p1 := by kernel_rfl
theorem slices_IndexFunc_string_calls (p0 : Slc) (p1 : Value) (h : Heap) (Q : Value → Heap → Prop) (hh : slices_IndexFunc_string p0 p1 h fun x h' => Q (.int .i64 x.1) h') :
    HCalls Tryd.prog 111 #[.slice p0.a p0.len p0.cap, p1] h Q := by
  rw [← slices_IndexFunc_string_den] at hh
  exact calls_of_den Tryd.func111 (by kernel_rfl) Tryd.ntmps111 (by kernel_rfl) (fun f hf => by cases hf) orders hh

/-- slices.IndexFunc[[]aqueduct/advert.Link,aqueduct/advert.Link] -/
def slices_IndexFunc_Link (p0 : Slc) (p1 : Value) : HM (Int × Unit) :=
  HM.bind (α := (Int × Unit) ⊕ (Int × Unit)) (HM.loop (σ := Int × Unit) (τ := (Int × Unit) ⊕ (Int × Unit)) (fun (x2 : Int × Unit) =>
  HM.ite (decide (x2.1 < (((p0.len : Nat) : Int) : Int))) (
  HM.bind (α := Addr) (HM.idx p0.a p0.len x2.1 6) fun (x3 : Addr) =>
  HM.bind (α := Int × ByteArray × Int × Int × ByteArray × ByteArray × Unit) (HM.loadN [.int .i64, .str, .int .i64, .int .i64, .str, .str] x3) fun (x4 : Int × ByteArray × Int × Int × ByteArray × ByteArray × Unit) =>
  HM.bind (α := Bool) (HM.callV1 Tryd.prog (.one .bool) p1 #[.agg #[.int .i64 x4.1, .string x4.2.1, .int .i64 x4.2.2.1, .int .i64 x4.2.2.2.1, .string x4.2.2.2.2.1, .string x4.2.2.2.2.2.1]]) fun (x5 : Bool) =>
  HM.ite x5 (
  HM.pure (.inr (.inr (x2.1, ())))) (
  HM.pure (.inl (IntKind.wrap .i64 (x2.1 + 1), ())))) (
  HM.pure (.inr (.inl (x2.1, ()))))) (0, ())) (Sum.elim (fun (x1 : Int × Unit) =>
  HM.pure ((-1), ())) HM.pure)

theorem slices_IndexFunc_Link_den (p0 : Slc) (p1 : Value) : denFn Tryd.prog [] 19 [0, 1, 4, 5, 7, 8, 9, 16] [0, 1, 5, 7, 8, 9, 16] Tryd.f112.results.toList [.one (.int .i64)] (bodyOf Tryd.f112) [Kind.val (.one .slc) p0, Kind.val (.one .any) p1] = slices_IndexFunc_Link p0 p1 := by kernel_rfl
theorem slices_IndexFunc_Link_calls (p0 : Slc) (p1 : Value) (h : Heap) (Q : Value → Heap → Prop) (hh : slices_IndexFunc_Link p0 p1 h fun x h' => Q (.int .i64 x.1) h') :
    HCalls Tryd.prog 112 #[.slice p0.a p0.len p0.cap, p1] h Q := by
  rw [← slices_IndexFunc_Link_den] at hh
  exact calls_of_den Tryd.func112 (by kernel_rfl) Tryd.ntmps112 (by kernel_rfl) (fun f hf => by cases hf) orders hh

/-- aqueduct/remap.prefix -/
def remap_prefix (p0 : ByteArray) : HM (Bool × Unit) :=
  HM.bind (α := Bool × Unit) (HM.ite (decide (p0 = (ByteArray.mk #[]))) (
  HM.pure (true, ())) (
  HM.bind (α := Int) (HM.call1 Tryd.prog (.one (.int .u8)) 38 #[.string p0]) fun (x1 : Int) =>
  HM.pure (x1 == 0, ()))) fun (x2 : Bool × Unit) =>
  HM.pure (x2.1, ())

theorem remap_prefix_den (p0 : ByteArray) : denFn Tryd.prog [38] 10 [0, 2] [0] Tryd.f113.results.toList [.one .bool] (bodyOf Tryd.f113) [Kind.val (.one .str) p0] = remap_prefix p0 := by kernel_rfl
theorem remap_prefix_calls (p0 : ByteArray) (h : Heap) (Q : Value → Heap → Prop) (hh : remap_prefix p0 h fun x h' => Q (.bool x.1) h') :
    HCalls Tryd.prog 113 #[.string p0] h Q := by
  rw [← remap_prefix_den] at hh
  exact calls_of_den Tryd.func113 (by kernel_rfl) Tryd.ntmps113 (by kernel_rfl) (fun f hf => by
      rcases List.mem_cons.1 hf with rfl | hf
      · exact Tryd.call38
      cases hf) orders hh

/-- aqueduct/aqueductref01.most -/
def ref01_most (p0 : Int) : HM (Int × Unit) :=
  HM.ite (p0 == 1) (
  HM.pure (256, ())) (
  HM.ite (p0 == 2) (
  HM.pure (65536, ())) (
  HM.ite (p0 == 4) (
  HM.pure (4294967296, ())) (
  HM.pure (0, ()))))

theorem ref01_most_den (p0 : Int) : denFn Tryd.prog [] 10 [0, 2, 3, 4, 6, 8] [0, 3, 4, 6, 8] Tryd.f115.results.toList [.one (.int .i64)] (bodyOf Tryd.f115) [Kind.val (.one (.int .i64)) p0] = ref01_most p0 := by kernel_rfl
theorem ref01_most_calls (p0 : Int) (h : Heap) (Q : Value → Heap → Prop) (hh : ref01_most p0 h fun x h' => Q (.int .i64 x.1) h') :
    HCalls Tryd.prog 115 #[.int .i64 p0] h Q := by
  rw [← ref01_most_den] at hh
  exact calls_of_den Tryd.func115 (by kernel_rfl) Tryd.ntmps115 (by kernel_rfl) (fun f hf => by cases hf) orders hh

/-- aqueduct/ids.New -/
def ids_New (p0 : Int) : HM (Option Addr × Unit) :=
  HM.bind (α := Nat) (HM.new (.map #[] 0)) fun (x1 : Nat) =>
  HM.bind (α := Nat) (HM.new (.cells #[.int .i64 (if 1 < ((if 64 < (p0 : Int) then 64 else p0) : Int) then (if 64 < (p0 : Int) then 64 else p0) else 1), .int .i64 0, .map (some x1)] 249)) fun (x2 : Nat) =>
  HM.pure (some ⟨x2, 0, none⟩, ())

theorem ids_New_den (p0 : Int) : denFn Tryd.prog [] 9 [0, 2] [0] Tryd.f118.results.toList [.one .ptr] (bodyOf Tryd.f118) [Kind.val (.one (.int .i64)) p0] = ids_New p0 := by kernel_rfl
theorem ids_New_calls (p0 : Int) (h : Heap) (Q : Value → Heap → Prop) (hh : ids_New p0 h fun x h' => Q (.pointer x.1) h') :
    HCalls Tryd.prog 118 #[.int .i64 p0] h Q := by
  rw [← ids_New_den] at hh
  exact calls_of_den Tryd.func118 (by kernel_rfl) Tryd.ntmps118 (by kernel_rfl) (fun f hf => by cases hf) orders hh

/-- aqueduct/outflow.bounded -/
def outflow_bounded (p0 : Int) : HM (Int × Unit) :=
  HM.pure (if 1 < ((if 64 < (p0 : Int) then 64 else p0) : Int) then (if 64 < (p0 : Int) then 64 else p0) else 1, ())

theorem outflow_bounded_den (p0 : Int) : denFn Tryd.prog [] 6 [0, 2] [0] Tryd.f119.results.toList [.one (.int .i64)] (bodyOf Tryd.f119) [Kind.val (.one (.int .i64)) p0] = outflow_bounded p0 := by kernel_rfl
theorem outflow_bounded_calls (p0 : Int) (h : Heap) (Q : Value → Heap → Prop) (hh : outflow_bounded p0 h fun x h' => Q (.int .i64 x.1) h') :
    HCalls Tryd.prog 119 #[.int .i64 p0] h Q := by
  rw [← outflow_bounded_den] at hh
  exact calls_of_den Tryd.func119 (by kernel_rfl) Tryd.ntmps119 (by kernel_rfl) (fun f hf => by cases hf) orders hh

/-- (aqueduct/tags.Label).good -/
def tags_Label_good (p0 : Int × Int × Int × Int × Unit) : HM (Bool × Unit) :=
  HM.bind (α := Nat) (HM.new (.cells #[.int .i64 p0.1, .int .i64 p0.2.1, .int .i64 p0.2.2.1, .int .i64 p0.2.2.2.1] 167)) fun (x1 : Nat) =>
  HM.bind (α := Bool × Unit) (HM.bind (α := Int × Int × Unit) (HM.loadN [.int .i64, .int .i64] (Addr.add ⟨x1, 0, none⟩ 0)) fun (x2 : Int × Int × Unit) =>
  HM.bind (α := Bool) (HM.call1 Tryd.prog (.one .bool) 151 #[.agg #[.int .i64 x2.1, .int .i64 x2.2.1]]) fun (x3 : Bool) =>
  HM.ite x3 (
  HM.bind (α := Int) (HM.load1 (.int .i64) (Addr.add ⟨x1, 0, none⟩ 2)) fun (x4 : Int) =>
  HM.ite (decide (0 ≤ (x4 : Int))) (
  HM.bind (α := Int) (HM.load1 (.int .i64) (Addr.add ⟨x1, 0, none⟩ 2)) fun (x5 : Int) =>
  HM.ite (decide (x5 ≤ (32 : Int))) (
  HM.bind (α := Int) (HM.load1 (.int .i64) (Addr.add ⟨x1, 0, none⟩ 3)) fun (x6 : Int) =>
  HM.ite (decide (0 ≤ (x6 : Int))) (
  HM.bind (α := Int) (HM.load1 (.int .i64) (Addr.add ⟨x1, 0, none⟩ 3)) fun (x7 : Int) =>
  HM.pure (decide (x7 ≤ (2 : Int)), ())) (
  HM.pure (false, ()))) (
  HM.pure (false, ()))) (
  HM.pure (false, ()))) (
  HM.pure (false, ()))) fun (x8 : Bool × Unit) =>
  HM.pure (x8.1, ())

theorem tags_Label_good_den (p0 : Int × Int × Int × Int × Unit) : denFn Tryd.prog [151] 26 [0, 1, 2] [0, 1] Tryd.f120.results.toList [.one .bool] (bodyOf Tryd.f120) [Kind.val (.agg [.int .i64, .int .i64, .int .i64, .int .i64]) p0] = tags_Label_good p0 := by kernel_rfl
theorem tags_Label_good_calls (p0 : Int × Int × Int × Int × Unit) (h : Heap) (Q : Value → Heap → Prop) (hh : tags_Label_good p0 h fun x h' => Q (.bool x.1) h') :
    HCalls Tryd.prog 120 #[.agg #[.int .i64 p0.1, .int .i64 p0.2.1, .int .i64 p0.2.2.1, .int .i64 p0.2.2.2.1]] h Q := by
  rw [← tags_Label_good_den] at hh
  exact calls_of_den Tryd.func120 (by kernel_rfl) Tryd.ntmps120 (by kernel_rfl) (fun f hf => by
      rcases List.mem_cons.1 hf with rfl | hf
      · exact Tryd.call151
      cases hf) orders hh

/-- (aqueduct/remap.Rule).ToRemote -/
def remap_Rule_ToRemote (p0 : ByteArray × Int × Int × ByteArray × ByteArray × Unit) (p1 : ByteArray) : HM (ByteArray × Bool × Unit) :=
  HM.bind (α := Nat) (HM.new (.cells #[.string p0.1, .int .i64 p0.2.1, .int .i64 p0.2.2.1, .string p0.2.2.2.1, .string p0.2.2.2.2.1] 94)) fun (x1 : Nat) =>
  HM.bind (α := Int) (HM.load1 (.int .i64) (Addr.add ⟨x1, 0, none⟩ 1)) fun (x2 : Int) =>
  HM.ite (x2 == 1) (
  HM.pure (ByteArray.mk #[], false, ())) (
  HM.bind (α := ByteArray × Int × Int × ByteArray × ByteArray × Unit) (HM.loadN [.str, .int .i64, .int .i64, .str, .str] ⟨x1, 0, none⟩) fun (x3 : ByteArray × Int × Int × ByteArray × ByteArray × Unit) =>
  HM.bind (α := ByteArray) (HM.load1 .str (Addr.add ⟨x1, 0, none⟩ 3)) fun (x4 : ByteArray) =>
  HM.bind (α := ByteArray) (HM.load1 .str (Addr.add ⟨x1, 0, none⟩ 4)) fun (x5 : ByteArray) =>
  HM.bind (α := ByteArray × Bool × Unit) (HM.callN Tryd.prog [.one .str, .one .bool] 155 #[.agg #[.string x3.1, .int .i64 x3.2.1, .int .i64 x3.2.2.1, .string x3.2.2.2.1, .string x3.2.2.2.2.1], .string p1, .string x4, .string x5]) fun (x6 : ByteArray × Bool × Unit) =>
  HM.pure (x6.1, x6.2.1, ()))

theorem remap_Rule_ToRemote_den (p0 : ByteArray × Int × Int × ByteArray × ByteArray × Unit) (p1 : ByteArray) : denFn Tryd.prog [155] 18 [0, 1, 2, 4, 5, 8] [0, 1, 2, 8] Tryd.f124.results.toList [.one .str, .one .bool] (bodyOf Tryd.f124) [Kind.val (.agg [.str, .int .i64, .int .i64, .str, .str]) p0, Kind.val (.one .str) p1] = remap_Rule_ToRemote p0 p1 := by kernel_rfl
theorem remap_Rule_ToRemote_calls (p0 : ByteArray × Int × Int × ByteArray × ByteArray × Unit) (p1 : ByteArray) (h : Heap) (Q : Value → Heap → Prop) (hh : remap_Rule_ToRemote p0 p1 h fun x h' => Q (.tuple #[.string x.1, .bool x.2.1]) h') :
    HCalls Tryd.prog 124 #[.agg #[.string p0.1, .int .i64 p0.2.1, .int .i64 p0.2.2.1, .string p0.2.2.2.1, .string p0.2.2.2.2.1], .string p1] h Q := by
  rw [← remap_Rule_ToRemote_den] at hh
  exact calls_of_den Tryd.func124 (by kernel_rfl) Tryd.ntmps124 (by kernel_rfl) (fun f hf => by
      rcases List.mem_cons.1 hf with rfl | hf
      · exact Tryd.call155
      cases hf) orders hh

/-- (aqueduct/tags.Tag).good -/
def tags_Tag_good (p0 : Int × Int × Unit) : HM (Bool × Unit) :=
  HM.bind (α := Nat) (HM.new (.cells #[.int .i64 p0.1, .int .i64 p0.2.1] 165)) fun (x1 : Nat) =>
  HM.bind (α := Bool × Unit) (HM.bind (α := Int) (HM.load1 (.int .i64) (Addr.add ⟨x1, 0, none⟩ 0)) fun (x2 : Int) =>
  HM.ite (decide (0 ≤ (x2 : Int))) (
  HM.bind (α := Int) (HM.load1 (.int .i64) (Addr.add ⟨x1, 0, none⟩ 0)) fun (x3 : Int) =>
  HM.ite (decide (x3 < (8 : Int))) (
  HM.bind (α := Int) (HM.load1 (.int .i64) (Addr.add ⟨x1, 0, none⟩ 1)) fun (x4 : Int) =>
  HM.ite (decide (1 ≤ (x4 : Int))) (
  HM.bind (α := Int) (HM.load1 (.int .i64) (Addr.add ⟨x1, 0, none⟩ 1)) fun (x5 : Int) =>
  HM.pure (decide (x5 ≤ (9007199254740992 : Int)), ())) (
  HM.pure (false, ()))) (
  HM.pure (false, ()))) (
  HM.pure (false, ()))) fun (x6 : Bool × Unit) =>
  HM.pure (x6.1, ())

theorem tags_Tag_good_den (p0 : Int × Int × Unit) : denFn Tryd.prog [] 21 [0, 1, 2] [0, 1] Tryd.f151.results.toList [.one .bool] (bodyOf Tryd.f151) [Kind.val (.agg [.int .i64, .int .i64]) p0] = tags_Tag_good p0 := by kernel_rfl
theorem tags_Tag_good_calls (p0 : Int × Int × Unit) (h : Heap) (Q : Value → Heap → Prop) (hh : tags_Tag_good p0 h fun x h' => Q (.bool x.1) h') :
    HCalls Tryd.prog 151 #[.agg #[.int .i64 p0.1, .int .i64 p0.2.1]] h Q := by
  rw [← tags_Tag_good_den] at hh
  exact calls_of_den Tryd.func151 (by kernel_rfl) Tryd.ntmps151 (by kernel_rfl) (fun f hf => by cases hf) orders hh

/-- (aqueduct/remap.Rule).turned -/
def remap_Rule_turned (p0 : ByteArray × Int × Int × ByteArray × ByteArray × Unit) (p1 : ByteArray) (p2 : ByteArray) (p3 : ByteArray) : HM (ByteArray × Bool × Unit) :=
  HM.bind (α := Nat) (HM.new (.cells #[.string p0.1, .int .i64 p0.2.1, .int .i64 p0.2.2.1, .string p0.2.2.2.1, .string p0.2.2.2.2.1] 94)) fun (x1 : Nat) =>
  HM.bind (α := ByteArray × Bool × Unit) (HM.callN Tryd.prog [.one .str, .one .bool] 177 #[.string p1, .string p2]) fun (x2 : ByteArray × Bool × Unit) =>
  HM.bind (α := Bool × Unit) (HM.ite (!x2.2.1) (
  HM.pure (true, ())) (
  HM.bind (α := ByteArray × Int × Int × ByteArray × ByteArray × Unit) (HM.loadN [.str, .int .i64, .int .i64, .str, .str] ⟨x1, 0, none⟩) fun (x3 : ByteArray × Int × Int × ByteArray × ByteArray × Unit) =>
  HM.bind (α := Int) (HM.call1 Tryd.prog (.one (.int .u8)) 84 #[.agg #[.string x3.1, .int .i64 x3.2.1, .int .i64 x3.2.2.1, .string x3.2.2.2.1, .string x3.2.2.2.2.1]]) fun (x4 : Int) =>
  HM.ite (!(x4 == 0)) (
  HM.pure (true, ())) (
  HM.bind (α := ByteArray) (HM.load1 .str (Addr.add ⟨x1, 0, none⟩ 0)) fun (x5 : ByteArray) =>
  HM.bind (α := Bool) (HM.call1 Tryd.prog (.one .bool) 21 #[.string x5, .string x2.1]) fun (x6 : Bool) =>
  HM.ite (!x6) (
  HM.pure (true, ())) (
  HM.bind (α := Int) (HM.call1 Tryd.prog (.one (.int .u8)) 38 #[.string p1]) fun (x7 : Int) =>
  HM.ite (!(x7 == 0)) (
  HM.pure (true, ())) (
  HM.req (ByteArray.size p3 + ByteArray.size x2.1 ≤ 9223372036854775807) <|
  HM.bind (α := Int) (HM.call1 Tryd.prog (.one (.int .u8)) 38 #[.string (p3 ++ x2.1)]) fun (x8 : Int) =>
  HM.pure (!(x8 == 0), ())))))) fun (x9 : Bool × Unit) =>
  HM.ite x9.1 (
  HM.pure (ByteArray.mk #[], false, ())) (
  HM.req (ByteArray.size p3 + ByteArray.size x2.1 ≤ 9223372036854775807) <|
  HM.pure (p3 ++ x2.1, true, ()))

theorem remap_Rule_turned_den (p0 : ByteArray × Int × Int × ByteArray × ByteArray × Unit) (p1 : ByteArray) (p2 : ByteArray) (p3 : ByteArray) : denFn Tryd.prog [177, 84, 21, 38] 47 [0, 1, 2, 3, 4, 8, 9, 10, 11, 43] [0, 1, 2, 3, 4, 10, 11, 43] Tryd.f155.results.toList [.one .str, .one .bool] (bodyOf Tryd.f155) [Kind.val (.agg [.str, .int .i64, .int .i64, .str, .str]) p0, Kind.val (.one .str) p1, Kind.val (.one .str) p2, Kind.val (.one .str) p3] = remap_Rule_turned p0 p1 p2 p3 := by kernel_rfl
theorem remap_Rule_turned_calls (p0 : ByteArray × Int × Int × ByteArray × ByteArray × Unit) (p1 : ByteArray) (p2 : ByteArray) (p3 : ByteArray) (h : Heap) (Q : Value → Heap → Prop) (hh : remap_Rule_turned p0 p1 p2 p3 h fun x h' => Q (.tuple #[.string x.1, .bool x.2.1]) h') :
    HCalls Tryd.prog 155 #[.agg #[.string p0.1, .int .i64 p0.2.1, .int .i64 p0.2.2.1, .string p0.2.2.2.1, .string p0.2.2.2.2.1], .string p1, .string p2, .string p3] h Q := by
  rw [← remap_Rule_turned_den] at hh
  exact calls_of_den Tryd.func155 (by kernel_rfl) Tryd.ntmps155 (by kernel_rfl) (fun f hf => by
      rcases List.mem_cons.1 hf with rfl | hf
      · exact Tryd.call177
      rcases List.mem_cons.1 hf with rfl | hf
      · exact Tryd.call84
      rcases List.mem_cons.1 hf with rfl | hf
      · exact Tryd.call21
      rcases List.mem_cons.1 hf with rfl | hf
      · exact Tryd.call38
      cases hf) orders hh

/-- strings.CutPrefix -/
def strings_CutPrefix (p0 : ByteArray) (p1 : ByteArray) : HM (ByteArray × Bool × Unit) :=
  HM.bind (α := ByteArray × Bool × Unit) (HM.callN Tryd.prog [.one .str, .one .bool] 188 #[.string p0, .string p1]) fun (x1 : ByteArray × Bool × Unit) =>
  HM.pure (x1.1, x1.2.1, ())

theorem strings_CutPrefix_den (p0 : ByteArray) (p1 : ByteArray) : denFn Tryd.prog [188] 11 [0, 1, 4, 5] [0, 1, 4, 5] Tryd.f177.results.toList [.one .str, .one .bool] (bodyOf Tryd.f177) [Kind.val (.one .str) p0, Kind.val (.one .str) p1] = strings_CutPrefix p0 p1 := by kernel_rfl
theorem strings_CutPrefix_calls (p0 : ByteArray) (p1 : ByteArray) (h : Heap) (Q : Value → Heap → Prop) (hh : strings_CutPrefix p0 p1 h fun x h' => Q (.tuple #[.string x.1, .bool x.2.1]) h') :
    HCalls Tryd.prog 177 #[.string p0, .string p1] h Q := by
  rw [← strings_CutPrefix_den] at hh
  exact calls_of_den Tryd.func177 (by kernel_rfl) Tryd.ntmps177 (by kernel_rfl) (fun f hf => by
      rcases List.mem_cons.1 hf with rfl | hf
      · exact Tryd.call188
      cases hf) orders hh

/-- internal/stringslite.CutPrefix -/
def stringslite_CutPrefix (p0 : ByteArray) (p1 : ByteArray) : HM (ByteArray × Bool × Unit) :=
  HM.bind (α := Bool) (HM.call1 Tryd.prog (.one .bool) 191 #[.string p0, .string p1]) fun (x1 : Bool) =>
  HM.ite (!x1) (
  HM.pure (p0, false, ())) (
  HM.bind (α := ByteArray) (HM.substr p0 (some ((ByteArray.size p1 : Nat) : Int)) none) fun (x2 : ByteArray) =>
  HM.pure (x2, true, ()))

theorem stringslite_CutPrefix_den (p0 : ByteArray) (p1 : ByteArray) : denFn Tryd.prog [191] 15 [0, 1, 4, 5, 9] [0, 1, 4, 5, 9] Tryd.f188.results.toList [.one .str, .one .bool] (bodyOf Tryd.f188) [Kind.val (.one .str) p0, Kind.val (.one .str) p1] = stringslite_CutPrefix p0 p1 := by kernel_rfl
theorem stringslite_CutPrefix_calls (p0 : ByteArray) (p1 : ByteArray) (h : Heap) (Q : Value → Heap → Prop) (hh : stringslite_CutPrefix p0 p1 h fun x h' => Q (.tuple #[.string x.1, .bool x.2.1]) h') :
    HCalls Tryd.prog 188 #[.string p0, .string p1] h Q := by
  rw [← stringslite_CutPrefix_den] at hh
  exact calls_of_den Tryd.func188 (by kernel_rfl) Tryd.ntmps188 (by kernel_rfl) (fun f hf => by
      rcases List.mem_cons.1 hf with rfl | hf
      · exact Tryd.call191
      cases hf) orders hh

/-- internal/stringslite.HasPrefix -/
def stringslite_HasPrefix (p0 : ByteArray) (p1 : ByteArray) : HM (Bool × Unit) :=
  HM.bind (α := Bool × Unit) (HM.ite (decide (((ByteArray.size p1 : Nat) : Int) ≤ (((ByteArray.size p0 : Nat) : Int) : Int))) (
  HM.bind (α := ByteArray) (HM.substr p0 none (some ((ByteArray.size p1 : Nat) : Int))) fun (x1 : ByteArray) =>
  HM.pure (decide (x1 = p1), ())) (
  HM.pure (false, ()))) fun (x2 : Bool × Unit) =>
  HM.pure (x2.1, ())

theorem stringslite_HasPrefix_den (p0 : ByteArray) (p1 : ByteArray) : denFn Tryd.prog [] 18 [0, 1, 4] [0, 1] Tryd.f191.results.toList [.one .bool] (bodyOf Tryd.f191) [Kind.val (.one .str) p0, Kind.val (.one .str) p1] = stringslite_HasPrefix p0 p1 := by kernel_rfl
theorem stringslite_HasPrefix_calls (p0 : ByteArray) (p1 : ByteArray) (h : Heap) (Q : Value → Heap → Prop) (hh : stringslite_HasPrefix p0 p1 h fun x h' => Q (.bool x.1) h') :
    HCalls Tryd.prog 191 #[.string p0, .string p1] h Q := by
  rw [← stringslite_HasPrefix_den] at hh
  exact calls_of_den Tryd.func191 (by kernel_rfl) Tryd.ntmps191 (by kernel_rfl) (fun f hf => by cases hf) orders hh

end Go.Proofs.YtmdagnoknmfhcaaDoor
