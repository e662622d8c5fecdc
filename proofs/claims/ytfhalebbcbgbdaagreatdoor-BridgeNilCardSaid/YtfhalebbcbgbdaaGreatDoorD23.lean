/-
  D23: the variables that BridgeNil's row (and BridgeAgain's, BridgePlays') lists: a world that meets the condition; what it gives; readers of arguments.
-/
import Derived.Test.YtfhalebbcbgbdaaGreatDoorRows
import Derived.Test.YtfhalebbcbgbdaaGreatDoorChecked
import Derived.Test.YtfhalebbcbgbdaaGreatDoorCtop
import Derived.Shelf.Vars
import Derived.ProofKit
import Derived.LaidMore
import Derived.LaidHandle
import Derived.OpenShut
import Derived.Stop.Joined
import Derived.Lib.LaidU8T
import Derived.PinnedBridge
import Derived.Test.YtfhalebbcbgbdaaGreatDoorHC
namespace Go.Proofs.YtfhalebbcbgbdaaGreatDoor
open Go.ChangeShapes Go.WideShapes Go.ChangeAt Go.RowKit Go.Proofs Go.Lib Go.H
set_option linter.unusedSimpArgs false
set_option linter.unusedVariables false
set_option maxRecDepth 100000

def laid23 : List (String × DataW Unit) := Rows.bridgeNilRow.laid

noncomputable def laidWorld (os : Os) : World :=
  let w0 := World.doorLaid Tryz.prog 400 os
  { w0 with heap := w0.heap.modify 6 fun
      | .cells _ t frozen => .cells ((List.range 256).map fun c => Value.int .u8 (firstT c)).toArray t frozen
      | o => o }

theorem laid_met23 (os : Os) (args : Array Value) : laidMetH Tryz.prog laid23 ((laidWorld os).forCall (fun _ _ => 0) ⟨#[], args, []⟩).memory :=
  laidMetH_of_parts3 (fuel := 8) (laidMet_of_run' 8 (by kernel_rfl) (by kernel_rfl)) (by kernel_rfl) (by kernel_rfl)

theorem u8_extra : U8Extra Tryz.prog u8_ren where
  n3 := by kernel_rfl
  n4 := by kernel_rfl
  y3 := by kernel_rfl
  y4 := by kernel_rfl
  c5 := by kernel_rfl
  c119 := by kernel_rfl
  c138 := by kernel_rfl

theorem accept_eq : (Rows.laid_unicode_utf8_acceptRanges : DataW Unit) = acceptData := by kernel_rfl
theorem first_eq : (Rows.laid_unicode_utf8_first : DataW Unit) = firstData := Pinned.utf8First_eq

theorem u8_of_laid23 {W : World} (h : laidMetH Tryz.prog laid23 W) : U8 W.heap := by
  rw [MakeChecks.laidMetH_plain _ _ _ (by kernel_rfl)] at h
  have h4 := laidMet.reads h (n := "unicode/utf8.acceptRanges") (d := Rows.laid_unicode_utf8_acceptRanges) (by unfold laid23 Rows.bridgeNilRow; simp)
  have h3 := laidMet.reads h (n := "unicode/utf8.first") (d := Rows.laid_unicode_utf8_first) (by unfold laid23 Rows.bridgeNilRow; simp)
  rw [accept_eq] at h4
  rw [first_eq] at h3
  have ht := utf8Tabs_of_readsT (L := { u8 with }) u8_extra h3 h4
  exact ⟨fun c hc => ht.1 c hc, fun i hi => ht.2 i hi⟩
theorem tp_of_laid23 {W : World} (h : laidMetH Tryz.prog laid23 W) (hsh : W.ShapedOpen Tryz.prog) : TP W.heap :=
  ⟨u8_of_laid23 h, cell_of_shapedOpen_int (t := 3) (zero := #[.int .i64 0]) hsh (of_decide_eq_true (by kernel_rfl)) (by kernel_rfl) rfl (by kernel_rfl) (by kernel_rfl) Tryz.underlying3⟩


theorem rd_Label23 {H : Type} {ec : TypeId × Value → H} {w : World} {base : Nat} {sp : Nat → Bool} {held : Bool} : RdS ec Tryz.prog w base sp held 64 (fun x : Int × Int × Int × Int => [.int .i64 x.1, .int .i64 x.2.1, .int .i64 x.2.2.1, .int .i64 x.2.2.2]) (fun x => (Lit.int .i64 x.1).wf = true ∧ (Lit.int .i64 x.2.1).wf = true ∧ (Lit.int .i64 x.2.2.1).wf = true ∧ (Lit.int .i64 x.2.2.2).wf = true) :=
  rs_struct4 Tryz.underlying64 (by kernel_rfl) (by rfl) (by kernel_rfl) (by kernel_rfl) (by kernel_rfl) (rs_int Tryz.underlying3) (rs_int Tryz.underlying2) (rs_int Tryz.underlying3) (rs_int Tryz.underlying3)
abbrev good23 (x : ByteArray × ByteArray × Int × Bool × ByteArray) : Prop := x.1.size ≤ reachBytes ∧ x.2.1.size ≤ reachBytes ∧ (Lit.int .i64 x.2.2.1).wf = true ∧ True ∧ x.2.2.2.2.size ≤ reachBytes
theorem rd_Message23 {H : Type} {ec : TypeId × Value → H} {w : World} {base : Nat} {sp : Nat → Bool} {held : Bool} : RdS ec Tryz.prog w base sp held 23 (fun x : ByteArray × ByteArray × Int × Bool × ByteArray => [.string x.1, .string x.2.1, .int .i64 x.2.2.1, .bool x.2.2.2.1, .string x.2.2.2.2]) good23 :=
  rs_struct5 Tryz.underlying23 (by kernel_rfl) (by rfl) (by kernel_rfl) (by kernel_rfl) (by kernel_rfl) (by kernel_rfl) (rs_str Tryz.underlying9) (rs_str Tryz.underlying9) (rs_int Tryz.underlying3) (rs_bool Tryz.underlying4) (rs_str Tryz.underlying9)

end Go.Proofs.YtfhalebbcbgbdaaGreatDoor
