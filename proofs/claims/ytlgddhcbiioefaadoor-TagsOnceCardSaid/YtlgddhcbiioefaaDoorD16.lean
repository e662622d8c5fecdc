/-
  D16: the tables of the number's text as the rows of law 16 list them: a world that meets the condition.
-/
import Derived.Test.YtlgddhcbiioefaaDoorRows
import Derived.Test.YtlgddhcbiioefaaDoorChecked
import Derived.Test.YtlgddhcbiioefaaDoorHw
import Derived.ProofKit
import Derived.LaidMore
import Derived.LaidHandle
import Derived.OpenShut
import Derived.Stop.Joined
namespace Go.Proofs.YtlgddhcbiioefaaDoor
open Go.ChangeShapes Go.WideShapes Go.ChangeAt Go.RowKit Go.Proofs Go.H
set_option linter.unusedSimpArgs false
set_option linter.unusedVariables false
set_option maxRecDepth 100000

def laid16 : List (String × DataW Unit) := Rows.tagsOnceRow.laid

noncomputable def laidWorld16 (os : Os) : World := World.doorLaid Tryd.prog 400 os

theorem laid_met16 (os : Os) (args : Array Value) : laidMetH Tryd.prog laid16 ((laidWorld16 os).forCall (fun _ _ => 0) ⟨#[], args, []⟩).memory :=
  laidMetH_of_parts3 (fuel := 8) (laidMet_of_run' 8 (by kernel_rfl) (by kernel_rfl)) (by kernel_rfl) (by kernel_rfl)

abbrev NoHyp (_ : Heap) : Prop := True
theorem nohyp_of_laid {W : World} (h : laidMetH Tryd.prog laid16 W) : NoHyp W.heap := trivial

end Go.Proofs.YtlgddhcbiioefaaDoor
