/-
  DERIVED. GIVEN WITH THE SEED: THE CARDS: each row of YtnpgpijkofbknaaGreatDoorRows.lean that lists a variable, with what it lists TIED to the program's text (the seventh form; the later family's looks); each row that meets fmt, with fmt's text TOLD by the authors' own Lean function (tested against real Go, not proved from fmt's source: count such statements apart). THE CARD IS WHAT COUNTS. Prove the row's statement (the work); the ties are given (YtnpgpijkofbknaaGreatDoorTie.lean); close each card by the builder's one call (the guide's Derived/Test/ToyasCard.lean, 'card_holds'). Laid BY PROGRAM, IN A SANDBOX (cutbox-door.mjs). By AI agents, Wed Nov 11 2026. No macro, syntax, notation, axiom, sorry.
-/
import Derived.Test.YtnpgpijkofbknaaGreatDoorRows
import GoSem.ClaimSeven
namespace Go.Proofs.YtnpgpijkofbknaaGreatDoor
namespace Rows

/-- THE TIED CARD OF 'aqueductlaw09.TrieLists'. -/
def trieListsCard : Claim7 := { stood := { row := trieListsRow, standIns := [], harness := (true, "155f4457962bd20451366b09ab56b3453bc10f17f5cadeeb0e2695883c6106a2"), looks := false }, kinds := [], alts := [], laidByText := true, laidKinds := [.data, .pinned], laidTests := true, laidLooks := .later }
def TrieListsCardSaid : Prop := Claim7.holds Tryz.pinned (.plain (OpenSpec.ofChange trieListsSpec)) trieListsCard

/-- THE TIED CARD OF 'aqueductlaw09.TrieForgets'. -/
def trieForgetsCard : Claim7 := { stood := { row := trieForgetsRow, standIns := [], harness := (true, "155f4457962bd20451366b09ab56b3453bc10f17f5cadeeb0e2695883c6106a2"), looks := false }, kinds := [], alts := [], laidByText := true, laidKinds := [.data, .pinned], laidTests := true, laidLooks := .later }
def TrieForgetsCardSaid : Prop := Claim7.holds Tryz.pinned (.plain (OpenSpec.ofChange trieForgetsSpec)) trieForgetsCard

/-- THE SECOND FORM's CARD OF 'aqueductlaw09.TrieLists'. -/
def trieListsUptoCard : Claim7 := { stood := { row := trieListsUptoRow, standIns := [], harness := (true, "155f4457962bd20451366b09ab56b3453bc10f17f5cadeeb0e2695883c6106a2"), looks := false }, kinds := [], alts := [], laidByText := true, laidKinds := [.data, .pinned], laidTests := true, laidLooks := .later }
def TrieListsUptoCardSaid : Prop := Claim7.holds Tryz.pinned (.plain (OpenSpec.upto trieListsSpec)) trieListsUptoCard

/-- THE SECOND FORM's CARD OF 'aqueductlaw09.TrieForgets'. -/
def trieForgetsUptoCard : Claim7 := { stood := { row := trieForgetsUptoRow, standIns := [], harness := (true, "155f4457962bd20451366b09ab56b3453bc10f17f5cadeeb0e2695883c6106a2"), looks := false }, kinds := [], alts := [], laidByText := true, laidKinds := [.data, .pinned], laidTests := true, laidLooks := .later }
def TrieForgetsUptoCardSaid : Prop := Claim7.holds Tryz.pinned (.plain (OpenSpec.upto trieForgetsSpec)) trieForgetsUptoCard
end Rows
end Go.Proofs.YtnpgpijkofbknaaGreatDoor
