/-
  DERIVED. GIVEN WITH THE SEED: THE CARDS: each row of YtmpgankhnfpoaaaGreatDoorRows.lean that lists a variable, with what it lists TIED to the program's text (the seventh form; the later family's looks); each row that meets fmt, with fmt's text TOLD by the authors' own Lean function (tested against real Go, not proved from fmt's source: count such statements apart). THE CARD IS WHAT COUNTS. Prove the row's statement (the work); the ties are given (YtmpgankhnfpoaaaGreatDoorTie.lean); close each card by the builder's one call (the guide's Derived/Test/ToyasCard.lean, 'card_holds'). Laid BY PROGRAM, IN A SANDBOX (cutbox-door.mjs). By AI agents, Wed Nov 11 2026. No macro, syntax, notation, axiom, sorry.
-/
import Derived.Test.YtmpgankhnfpoaaaGreatDoorRows
import GoSem.ClaimSeven
namespace Go.Proofs.YtmpgankhnfpoaaaGreatDoor
namespace Rows

/-- THE TIED CARD OF 'aqueductlaw24.NodeRefuses'. -/
def nodeRefusesCard : Claim7 := { stood := { row := nodeRefusesRow, standIns := [], harness := (true, "8fc60e0f7ca0fe9c79363ca8028c918d5aa158782efc8c045040733484d9cc90"), looks := true }, kinds := [], alts := [], laidByText := true, laidKinds := [.pinned, .data, .handle, .data, .data, .data, .sentinel, .sentinel], laidTests := true, laidLooks := .later }
def NodeRefusesCardSaid : Prop := Claim7.holds Tryz.pinned (.plain (OpenSpec.ofChange nodeRefusesSpec)) nodeRefusesCard

/-- THE SECOND FORM's CARD OF 'aqueductlaw24.NodeRefuses'. -/
def nodeRefusesUptoCard : Claim7 := { stood := { row := nodeRefusesUptoRow, standIns := [], harness := (true, "8fc60e0f7ca0fe9c79363ca8028c918d5aa158782efc8c045040733484d9cc90"), looks := true }, kinds := [], alts := [], laidByText := true, laidKinds := [.pinned, .data, .handle, .data, .data, .data, .sentinel, .sentinel], laidTests := true, laidLooks := .later }
def NodeRefusesUptoCardSaid : Prop := Claim7.holds Tryz.pinned (.plain (OpenSpec.upto nodeRefusesSpec)) nodeRefusesUptoCard
end Rows
end Go.Proofs.YtmpgankhnfpoaaaGreatDoor
