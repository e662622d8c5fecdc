/-
  D18: the tables of unicode/utf8 as the rows of law 18 list them: a world that meets the condition; what it gives.
-/
import Derived.Test.YtnmighfcpeifeaaDoorRows
import Derived.Test.YtnmighfcpeifeaaDoorChecked
import Derived.Test.YtnmighfcpeifeaaDoorCu8
import Derived.Test.YtnmighfcpeifeaaDoorHC
import Derived.ProofKit
import Derived.LaidMore
import Derived.LaidHandle
import Derived.OpenShut
import Derived.Stop.Joined
import Derived.Lib.LaidU8T
import Derived.PinnedBridge
namespace Go.Proofs.YtnmighfcpeifeaaDoor
open Go.ChangeShapes Go.WideShapes Go.ChangeAt Go.RowKit Go.Proofs Go.Lib
set_option linter.unusedSimpArgs false
set_option linter.unusedVariables false
set_option maxRecDepth 100000

def laid18 : List (String × DataW Unit) := Rows.sessionKeepsRow.laid

noncomputable def laidWorld (os : Os) : World :=
  let w0 := World.doorLaid Tryd.prog 400 os
  { w0 with heap := w0.heap.modify 1 fun
      | .cells _ t frozen => .cells ((List.range 256).map fun c => Value.int .u8 (firstT c)).toArray t frozen
      | o => o }

theorem laid_met (os : Os) (args : Array Value) : laidMetH Tryd.prog laid18 ((laidWorld os).forCall (fun _ _ => 0) ⟨#[], args, []⟩).memory :=
  laidMetH_of_parts3 (fuel := 8) (laidMet_of_run' 8 (by kernel_rfl) (by kernel_rfl)) (by kernel_rfl) (by kernel_rfl)

theorem u8_extra : U8Extra Tryd.prog u8_ren where
  n3 := by kernel_rfl
  n4 := by kernel_rfl
  y3 := by kernel_rfl
  y4 := by kernel_rfl
  c5 := by kernel_rfl
  c119 := by kernel_rfl
  c138 := by kernel_rfl

theorem accept_eq : (Rows.laid_unicode_utf8_acceptRanges : DataW Unit) = acceptData := by kernel_rfl
theorem first_eq : (Rows.laid_unicode_utf8_first : DataW Unit) = firstData := Pinned.utf8First_eq

theorem u8_of_laid {W : World} (h : laidMetH Tryd.prog laid18 W) : U8 W.heap := by
  rw [MakeChecks.laidMetH_plain _ _ _ (by kernel_rfl)] at h
  have h4 := laidMet.reads h (n := "unicode/utf8.acceptRanges") (d := Rows.laid_unicode_utf8_acceptRanges) (by unfold laid18 Rows.sessionKeepsRow; exact List.mem_cons_self ..)
  have h3 := laidMet.reads h (n := "unicode/utf8.first") (d := Rows.laid_unicode_utf8_first) (by unfold laid18 Rows.sessionKeepsRow; exact List.mem_cons_of_mem _ (List.mem_cons_self ..))
  rw [accept_eq] at h4
  rw [first_eq] at h3
  have ht := utf8Tabs_of_readsT (L := { u8 with }) u8_extra h3 h4
  exact ⟨fun c hc => ht.1 c hc, fun i hi => ht.2 i hi⟩

theorem u8_of_laidS {W : World} (h : laidMetH Tryd.prog laid18 W) (hsh : W.ShapedOpen Tryd.prog) : U8 W.heap := u8_of_laid h

theorem rd_Bools18 {H : Type} {ec : TypeId × Value → H} {w : World} {base : Nat} {sp : Nat → Bool} {held : Bool} : Go.H.RdS ec Tryd.prog w base sp held 22 (fun x : Go.H.Slc × List Bool => [.slice x.1.a x.1.len x.1.cap]) (Go.H.GoodN (fun x : Bool => [Value.bool x]) 1 1 w.heap (fun _ => True)) :=
  Go.H.rs_slice Tryd.underlying22 (by kernel_rfl) (by kernel_rfl) (Go.H.rs_bool Tryd.underlying4)

end Go.Proofs.YtnmighfcpeifeaaDoor
