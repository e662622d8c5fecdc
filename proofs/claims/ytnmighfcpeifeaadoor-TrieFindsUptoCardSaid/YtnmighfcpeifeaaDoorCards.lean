/-
  DERIVED. GIVEN WITH THE SEED: THE CARDS: each row of YtnmighfcpeifeaaDoorRows.lean that lists a variable, with what it lists TIED to the program's text (the seventh form; the later family's looks); each row that meets fmt, with fmt's text TOLD by the authors' own Lean function (tested against real Go, not proved from fmt's source: count such statements apart). THE CARD IS WHAT COUNTS. Prove the row's statement (the work); the ties are given (YtnmighfcpeifeaaDoorTie.lean); close each card by the builder's one call (the guide's Derived/Test/ToyasCard.lean, 'card_holds'). Laid BY PROGRAM, IN A SANDBOX (cutbox-door.mjs). By AI agents, Wed Nov 11 2026. No macro, syntax, notation, axiom, sorry.
-/
import Derived.Test.YtnmighfcpeifeaaDoorRows
import GoSem.ClaimSeven
namespace Go.Proofs.YtnmighfcpeifeaaDoor
namespace Rows

/-- THE TIED CARD OF 'aqueductlaw18.SessionKeeps'. -/
def sessionKeepsCard : Claim7 := { stood := { row := sessionKeepsRow, standIns := [], harness := (true, "91c2ddee30a5c9e2f0a5df78f3f94ac708211745578e22936c29ac61c86218a6"), looks := false }, kinds := [], alts := [], laidByText := true, laidKinds := [.data, .pinned], laidTests := true, laidLooks := .later }
def SessionKeepsCardSaid : Prop := Claim7.holds Tryd.pinned (.plain (OpenSpec.ofChange sessionKeepsSpec)) sessionKeepsCard

/-- THE TIED CARD OF 'aqueductlaw16.TagsPlays'. -/
def tagsPlaysCard : Claim7 := { stood := { row := tagsPlaysRow, standIns := [], harness := (true, "91c2ddee30a5c9e2f0a5df78f3f94ac708211745578e22936c29ac61c86218a6"), looks := false }, kinds := [], alts := [], laidByText := true, laidKinds := [.data, .data, .data], laidTests := true, laidLooks := .later }
def TagsPlaysCardSaid : Prop := Claim7.holds Tryd.pinned (.plain (OpenSpec.ofChange tagsPlaysSpec)) tagsPlaysCard

/-- THE TIED CARD OF 'aqueductlaw23.BridgeDelays'. -/
def bridgeDelaysCard : Claim7 := { stood := { row := bridgeDelaysRow, standIns := [], harness := (true, "91c2ddee30a5c9e2f0a5df78f3f94ac708211745578e22936c29ac61c86218a6"), looks := false }, kinds := [], alts := [], laidByText := true, laidKinds := [.data, .data, .data, .data, .pinned], laidTests := true, laidLooks := .later }
def BridgeDelaysCardSaid : Prop := Claim7.holds Tryd.pinned (.plain (OpenSpec.ofChange bridgeDelaysSpec)) bridgeDelaysCard

/-- THE TIED CARD OF 'aqueductlaw09.TriePlays'. -/
def triePlaysCard : Claim7 := { stood := { row := triePlaysRow, standIns := [], harness := (true, "91c2ddee30a5c9e2f0a5df78f3f94ac708211745578e22936c29ac61c86218a6"), looks := false }, kinds := [], alts := [], laidByText := true, laidKinds := [.data, .pinned], laidTests := true, laidLooks := .later }
def TriePlaysCardSaid : Prop := Claim7.holds Tryd.pinned (.plain (OpenSpec.ofChange triePlaysSpec)) triePlaysCard

/-- THE TIED CARD OF 'aqueductlaw09.TrieMatches'. -/
def trieMatchesCard : Claim7 := { stood := { row := trieMatchesRow, standIns := [], harness := (true, "91c2ddee30a5c9e2f0a5df78f3f94ac708211745578e22936c29ac61c86218a6"), looks := false }, kinds := [], alts := [], laidByText := true, laidKinds := [.data, .pinned], laidTests := true, laidLooks := .later }
def TrieMatchesCardSaid : Prop := Claim7.holds Tryd.pinned (.plain (OpenSpec.ofChange trieMatchesSpec)) trieMatchesCard

/-- THE TIED CARD OF 'aqueductlaw09.TrieFinds'. -/
def trieFindsCard : Claim7 := { stood := { row := trieFindsRow, standIns := [], harness := (true, "91c2ddee30a5c9e2f0a5df78f3f94ac708211745578e22936c29ac61c86218a6"), looks := false }, kinds := [], alts := [], laidByText := true, laidKinds := [.data, .pinned], laidTests := true, laidLooks := .later }
def TrieFindsCardSaid : Prop := Claim7.holds Tryd.pinned (.plain (OpenSpec.ofChange trieFindsSpec)) trieFindsCard

/-- THE TIED CARD OF 'aqueductlaw09.TrieNil'. -/
def trieNilCard : Claim7 := { stood := { row := trieNilRow, standIns := [], harness := (true, "91c2ddee30a5c9e2f0a5df78f3f94ac708211745578e22936c29ac61c86218a6"), looks := false }, kinds := [], alts := [], laidByText := true, laidKinds := [.data, .pinned], laidTests := true, laidLooks := .later }
def TrieNilCardSaid : Prop := Claim7.holds Tryd.pinned (.plain (OpenSpec.ofChange trieNilSpec)) trieNilCard

/-- THE SECOND FORM's CARD OF 'aqueductlaw18.SessionKeeps'. -/
def sessionKeepsUptoCard : Claim7 := { stood := { row := sessionKeepsUptoRow, standIns := [], harness := (true, "91c2ddee30a5c9e2f0a5df78f3f94ac708211745578e22936c29ac61c86218a6"), looks := false }, kinds := [], alts := [], laidByText := true, laidKinds := [.data, .pinned], laidTests := true, laidLooks := .later }
def SessionKeepsUptoCardSaid : Prop := Claim7.holds Tryd.pinned (.plain (OpenSpec.upto sessionKeepsSpec)) sessionKeepsUptoCard

/-- THE SECOND FORM's CARD OF 'aqueductlaw16.TagsPlays'. -/
def tagsPlaysUptoCard : Claim7 := { stood := { row := tagsPlaysUptoRow, standIns := [], harness := (true, "91c2ddee30a5c9e2f0a5df78f3f94ac708211745578e22936c29ac61c86218a6"), looks := false }, kinds := [], alts := [], laidByText := true, laidKinds := [.data, .data, .data], laidTests := true, laidLooks := .later }
def TagsPlaysUptoCardSaid : Prop := Claim7.holds Tryd.pinned (.plain (OpenSpec.upto tagsPlaysSpec)) tagsPlaysUptoCard

/-- THE SECOND FORM's CARD OF 'aqueductlaw23.BridgeDelays'. -/
def bridgeDelaysUptoCard : Claim7 := { stood := { row := bridgeDelaysUptoRow, standIns := [], harness := (true, "91c2ddee30a5c9e2f0a5df78f3f94ac708211745578e22936c29ac61c86218a6"), looks := false }, kinds := [], alts := [], laidByText := true, laidKinds := [.data, .data, .data, .data, .pinned], laidTests := true, laidLooks := .later }
def BridgeDelaysUptoCardSaid : Prop := Claim7.holds Tryd.pinned (.plain (OpenSpec.upto bridgeDelaysSpec)) bridgeDelaysUptoCard

/-- THE SECOND FORM's CARD OF 'aqueductlaw09.TriePlays'. -/
def triePlaysUptoCard : Claim7 := { stood := { row := triePlaysUptoRow, standIns := [], harness := (true, "91c2ddee30a5c9e2f0a5df78f3f94ac708211745578e22936c29ac61c86218a6"), looks := false }, kinds := [], alts := [], laidByText := true, laidKinds := [.data, .pinned], laidTests := true, laidLooks := .later }
def TriePlaysUptoCardSaid : Prop := Claim7.holds Tryd.pinned (.plain (OpenSpec.upto triePlaysSpec)) triePlaysUptoCard

/-- THE SECOND FORM's CARD OF 'aqueductlaw09.TrieMatches'. -/
def trieMatchesUptoCard : Claim7 := { stood := { row := trieMatchesUptoRow, standIns := [], harness := (true, "91c2ddee30a5c9e2f0a5df78f3f94ac708211745578e22936c29ac61c86218a6"), looks := false }, kinds := [], alts := [], laidByText := true, laidKinds := [.data, .pinned], laidTests := true, laidLooks := .later }
def TrieMatchesUptoCardSaid : Prop := Claim7.holds Tryd.pinned (.plain (OpenSpec.upto trieMatchesSpec)) trieMatchesUptoCard

/-- THE SECOND FORM's CARD OF 'aqueductlaw09.TrieFinds'. -/
def trieFindsUptoCard : Claim7 := { stood := { row := trieFindsUptoRow, standIns := [], harness := (true, "91c2ddee30a5c9e2f0a5df78f3f94ac708211745578e22936c29ac61c86218a6"), looks := false }, kinds := [], alts := [], laidByText := true, laidKinds := [.data, .pinned], laidTests := true, laidLooks := .later }
def TrieFindsUptoCardSaid : Prop := Claim7.holds Tryd.pinned (.plain (OpenSpec.upto trieFindsSpec)) trieFindsUptoCard

/-- THE SECOND FORM's CARD OF 'aqueductlaw09.TrieNil'. -/
def trieNilUptoCard : Claim7 := { stood := { row := trieNilUptoRow, standIns := [], harness := (true, "91c2ddee30a5c9e2f0a5df78f3f94ac708211745578e22936c29ac61c86218a6"), looks := false }, kinds := [], alts := [], laidByText := true, laidKinds := [.data, .pinned], laidTests := true, laidLooks := .later }
def TrieNilUptoCardSaid : Prop := Claim7.holds Tryd.pinned (.plain (OpenSpec.upto trieNilSpec)) trieNilUptoCard
end Rows
end Go.Proofs.YtnmighfcpeifeaaDoor
