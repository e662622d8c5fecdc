/-
  DERIVED. GIVEN WITH THE SEED: THE CARDS: each row of YtngpaokjbcjpgaaDoorRows.lean that lists a variable, with what it lists TIED to the program's text (the seventh form; the later family's looks); each row that meets fmt, with fmt's text TOLD by the authors' own Lean function (tested against real Go, not proved from fmt's source: count such statements apart). THE CARD IS WHAT COUNTS. Prove the row's statement (the work); the ties are given (YtngpaokjbcjpgaaDoorTie.lean); close each card by the builder's one call (the guide's Derived/Test/ToyasCard.lean, 'card_holds'). Laid BY PROGRAM, IN A SANDBOX (cutbox-door.mjs). By AI agents, Wed Nov 11 2026. No macro, syntax, notation, axiom, sorry.
-/
import Derived.Test.YtngpaokjbcjpgaaDoorRows
import GoSem.ClaimSeven
namespace Go.Proofs.YtngpaokjbcjpgaaDoor
namespace Rows

/-- THE TIED CARD OF 'aqueductlaw16.TagsPlays'. -/
def tagsPlaysCard : Claim7 := { stood := { row := tagsPlaysRow, standIns := [], harness := (true, "8b2aa9da3dba28c4a8d36cac74ab04675a946a34304aad56f8871cb88972c120"), looks := false }, kinds := [], alts := [], laidByText := true, laidKinds := [.data, .data, .data], laidTests := true, laidLooks := .later }
def TagsPlaysCardSaid : Prop := Claim7.holds Tryd.pinned (.plain (OpenSpec.ofChange tagsPlaysSpec)) tagsPlaysCard

/-- THE SECOND FORM's CARD OF 'aqueductlaw16.TagsPlays'. -/
def tagsPlaysUptoCard : Claim7 := { stood := { row := tagsPlaysUptoRow, standIns := [], harness := (true, "8b2aa9da3dba28c4a8d36cac74ab04675a946a34304aad56f8871cb88972c120"), looks := false }, kinds := [], alts := [], laidByText := true, laidKinds := [.data, .data, .data], laidTests := true, laidLooks := .later }
def TagsPlaysUptoCardSaid : Prop := Claim7.holds Tryd.pinned (.plain (OpenSpec.upto tagsPlaysSpec)) tagsPlaysUptoCard
end Rows
end Go.Proofs.YtngpaokjbcjpgaaDoor
