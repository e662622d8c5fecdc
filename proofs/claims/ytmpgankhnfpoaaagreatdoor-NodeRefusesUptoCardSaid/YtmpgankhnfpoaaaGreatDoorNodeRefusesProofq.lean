/-
  PROVED: 'aqueductlaw24.NodeRefuses' answers true whatever the input of bulk at most 1048576, and the input reads as it did: 'Rows.NodeRefusesUptoSaid'. Conditions: none but the statement's own.
-/
import Derived.Test.YtmpgankhnfpoaaaGreatDoorRows
import Derived.Test.YtmpgankhnfpoaaaGreatDoorQNodeRefuses16
import Derived.Deep.DeepHandedRow
import Derived.Deep.DeepWitnessRowRef
import Derived.Test.YtmpgankhnfpoaaaGreatDoorCards
import Derived.WalkKit
import Derived.ProofKit
import Derived.OpenShut
import Derived.ShutString
import Derived.ChangeOld
import Derived.Below
import Derived.Carry
import Derived.LaidMore
import Derived.LaidHandle
import Derived.Stop.Joined
import Derived.SevenTiedAt
namespace Go.Proofs.YtmpgankhnfpoaaaGreatDoor.nodeRefuses
open Go.ChangeShapes Go.WideShapes Go.ChangeAt Go.RowKit
open Go.ChangeMaps (open_string shut_string)
set_option linter.unusedVariables false
set_option linter.unusedSimpArgs false

theorem proved : Rows.NodeRefusesUptoSaid :=
  OpenClaim.holds_of_cond 3 Tryz.f3 rfl rfl rfl rfl rfl rfl rfl ⟨rfl, rfl, rfl, rfl, rfl⟩ rfl rfl rfl rfl rfl (by kernel_rfl) Tryz.func3 facts
    (of_decide_eq_true (by kernel_rfl)) (by unfold Func.isWrapper; first | (rw [if_pos (by decide +kernel)]; kernel_rfl) | (rw [if_neg (by decide +kernel)]; exact ⟨rfl, rfl⟩))
    (fun os started H enc _ F => by rw [OpenClaim.pre_eq_preRow]; exact lifted os started H enc F)

/-- THE TIED CARD. -/
theorem cardProved : Rows.NodeRefusesUptoCardSaid :=
  Claim7.holds_tied_plain_at .later [] [.pinned, .data, .handle, .data, .data, .data, .sentinel, .sentinel] true (true, "8fc60e0f7ca0fe9c79363ca8028c918d5aa158782efc8c045040733484d9cc90") true
    proved (fun _ h => by cases h) cfact0 (fun _ h => by cases h) nodeRefusesUpto_row_tie rfl ⟨rfl, rfl⟩ cfact1 rfl
    (fun f fn hf hfn => by
      obtain rfl : f = 3 := Option.some.inj (cfact2.symm.trans hf) |>.symm
      obtain rfl : fn = Tryz.f3 := (Option.some.inj (Tryz.func3.symm.trans hfn)).symm
      exact ⟨cfact3, fun j t ht => by
        rw [Tryz.params3] at ht
        have hm : t ∈ [24, 28] := by simpa using Array.mem_of_getElem? ht
        have hall : ([24, 28].all fun u => !Tryz.prog.wantsStandIn u) = true := cfact4
        exact (show Tryz.prog.wantsStandIn t = false by simpa using List.all_eq_true.1 hall t hm)⟩)
    cfact5
#print axioms cardProved
end Go.Proofs.YtmpgankhnfpoaaaGreatDoor.nodeRefuses
