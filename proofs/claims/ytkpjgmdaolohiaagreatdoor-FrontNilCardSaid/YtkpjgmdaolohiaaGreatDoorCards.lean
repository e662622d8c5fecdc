/-
  DERIVED. GIVEN WITH THE SEED: THE CARDS: each row of YtkpjgmdaolohiaaGreatDoorRows.lean that lists a variable, with what it lists TIED to the program's text (the seventh form; the later family's looks); each row that meets fmt, with fmt's text TOLD by the authors' own Lean function (tested against real Go, not proved from fmt's source: count such statements apart). THE CARD IS WHAT COUNTS. Prove the row's statement (the work); the ties are given (YtkpjgmdaolohiaaGreatDoorTie.lean); close each card by the builder's one call (the guide's Derived/Test/ToyasCard.lean, 'card_holds'). Laid BY PROGRAM, IN A SANDBOX (cutbox-door.mjs). By AI agents, Wed Nov 11 2026. No macro, syntax, notation, axiom, sorry.
-/
import Derived.Test.YtkpjgmdaolohiaaGreatDoorRows
import GoSem.ClaimSeven
namespace Go.Proofs.YtkpjgmdaolohiaaGreatDoor
namespace Rows

/-- THE TIED CARD OF 'aqueductlaw20.FrontNil'. -/
def frontNilCard : Claim7 := { stood := { row := frontNilRow, standIns := [], harness := (true, "e7ca15b6535f4ca14d1f9795de86c129be80d54a588fee9567efd946d2924bd9"), looks := true }, kinds := [], alts := [], laidByText := true, laidKinds := [.data, .pinned], laidTests := true, laidLooks := .later }
def FrontNilCardSaid : Prop := Claim7.holds Tryz.pinned (.plain (OpenSpec.ofChange frontNilSpec)) frontNilCard

/-- THE SECOND FORM's CARD OF 'aqueductlaw20.FrontNil'. -/
def frontNilUptoCard : Claim7 := { stood := { row := frontNilUptoRow, standIns := [], harness := (true, "e7ca15b6535f4ca14d1f9795de86c129be80d54a588fee9567efd946d2924bd9"), looks := true }, kinds := [], alts := [], laidByText := true, laidKinds := [.data, .pinned], laidTests := true, laidLooks := .later }
def FrontNilUptoCardSaid : Prop := Claim7.holds Tryz.pinned (.plain (OpenSpec.upto frontNilSpec)) frontNilUptoCard
end Rows
end Go.Proofs.YtkpjgmdaolohiaaGreatDoor
