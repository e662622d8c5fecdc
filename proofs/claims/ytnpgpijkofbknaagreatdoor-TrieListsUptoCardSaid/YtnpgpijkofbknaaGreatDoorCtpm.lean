/-
  Ctpm: contracts: which filters match a topic (the program).
-/
import Derived.Test.YtnpgpijkofbknaaGreatDoorCtop
namespace Go.Proofs.YtnpgpijkofbknaaGreatDoor
open Go.H Go.Proofs Go.Lib
set_option linter.unusedSimpArgs false
set_option linter.unusedVariables false
set_option synthInstance.maxSize 100000
set_option synthInstance.maxHeartbeats 400000

variable {h h0 : Heap} {R : List Asn}

theorem byte_is (b c : UInt8) : ((b.toNat : Int) == (c.toNat : Int)) = decide (b = c) := by
  by_cases h : b = c
  · simp [h]
  · rw [decide_eq_false h]
    simp only [beq_eq_false_iff_ne, ne_eq]
    intro e
    exact h (UInt8.toNat_inj.1 (by omega))

end Go.Proofs.YtnpgpijkofbknaaGreatDoor
