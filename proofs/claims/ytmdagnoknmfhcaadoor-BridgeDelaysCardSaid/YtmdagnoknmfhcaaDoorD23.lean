/-
  D23: the variables that BridgeDelays' row lists: a world that meets the condition; what it gives; readers of its arguments.
-/
import Derived.Test.YtmdagnoknmfhcaaDoorD17
import Derived.Test.YtmdagnoknmfhcaaDoorHar
namespace Go.Proofs.YtmdagnoknmfhcaaDoor
open Go.ChangeShapes Go.WideShapes Go.ChangeAt Go.RowKit Go.Proofs Go.Lib Go.H
set_option linter.unusedSimpArgs false
set_option linter.unusedVariables false
set_option maxRecDepth 100000

def laid23 : List (String × DataW Unit) := Rows.bridgeDelaysRow.laid

theorem laid_met23 (os : Os) (args : Array Value) : laidMetH Tryd.prog laid23 ((laidWorld os).forCall (fun _ _ => 0) ⟨#[], args, []⟩).memory :=
  laidMetH_of_parts3 (fuel := 8) (laidMet_of_run' 8 (by kernel_rfl) (by kernel_rfl)) (by kernel_rfl) (by kernel_rfl)

theorem u8_of_laid23 {W : World} (h : laidMetH Tryd.prog laid23 W) : U8 W.heap := by
  rw [MakeChecks.laidMetH_plain _ _ _ (by kernel_rfl)] at h
  have h4 := laidMet.reads h (n := "unicode/utf8.acceptRanges") (d := Rows.laid_unicode_utf8_acceptRanges) (by unfold laid23 Rows.bridgeDelaysRow; simp)
  have h3 := laidMet.reads h (n := "unicode/utf8.first") (d := Rows.laid_unicode_utf8_first) (by unfold laid23 Rows.bridgeDelaysRow; simp)
  rw [accept_eq] at h4
  rw [first_eq] at h3
  have ht := utf8Tabs_of_readsT (L := { u8 with }) u8_extra h3 h4
  exact ⟨fun c hc => ht.1 c hc, fun i hi => ht.2 i hi⟩
theorem tp_of_laid23 {W : World} (h : laidMetH Tryd.prog laid23 W) (hsh : W.ShapedOpen Tryd.prog) : TP W.heap :=
  ⟨u8_of_laid23 h, cell_of_shapedOpen_int (t := 3) (zero := #[.int .i64 0]) hsh (of_decide_eq_true (by kernel_rfl)) (by kernel_rfl) rfl (by kernel_rfl) (by kernel_rfl) Tryd.underlying3⟩

theorem rd_Pair23 {H : Type} {ec : TypeId × Value → H} {w : World} {base : Nat} {sp : Nat → Bool} {held : Bool} : RdS ec Tryd.prog w base sp held 99 (fun x : Int × Int => [.int .u64 x.1, .int .u64 x.2]) (fun x => (Lit.int .u64 x.1).wf = true ∧ (Lit.int .u64 x.2).wf = true) :=
  rs_array2 Tryd.underlying99 (by kernel_rfl) (by kernel_rfl) (rs_int Tryd.underlying98) (fun _ => rfl)

end Go.Proofs.YtmdagnoknmfhcaaDoor
