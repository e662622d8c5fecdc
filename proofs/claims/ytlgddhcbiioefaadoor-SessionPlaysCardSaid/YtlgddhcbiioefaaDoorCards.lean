/-
  DERIVED. GIVEN WITH THE SEED: THE CARDS: each row of YtlgddhcbiioefaaDoorRows.lean that lists a variable, with what it lists TIED to the program's text (the seventh form; the later family's looks); each row that meets fmt, with fmt's text TOLD by the authors' own Lean function (tested against real Go, not proved from fmt's source: count such statements apart). THE CARD IS WHAT COUNTS. Prove the row's statement (the work); the ties are given (YtlgddhcbiioefaaDoorTie.lean); close each card by the builder's one call (the guide's Derived/Test/ToyasCard.lean, 'card_holds'). Laid BY PROGRAM, IN A SANDBOX (cutbox-door.mjs). By AI agents, Wed Nov 11 2026. No macro, syntax, notation, axiom, sorry.
-/
import Derived.Test.YtlgddhcbiioefaaDoorRows
import GoSem.ClaimSeven
namespace Go.Proofs.YtlgddhcbiioefaaDoor
namespace Rows

/-- THE TIED CARD OF 'aqueductlaw18.SessionKeeps'. -/
def sessionKeepsCard : Claim7 := { stood := { row := sessionKeepsRow, standIns := [], harness := (true, "47e28f3f623d97c4222096a1ada09b98a740ff0f86fdd257074b6ed79bb53f83"), looks := true }, kinds := [], alts := [], laidByText := true, laidKinds := [.data, .pinned], laidTests := true, laidLooks := .later }
def SessionKeepsCardSaid : Prop := Claim7.holds Tryd.pinned (.plain (OpenSpec.ofChange sessionKeepsSpec)) sessionKeepsCard

/-- THE TIED CARD OF 'aqueductlaw18.SessionUnique'. -/
def sessionUniqueCard : Claim7 := { stood := { row := sessionUniqueRow, standIns := [], harness := (true, "47e28f3f623d97c4222096a1ada09b98a740ff0f86fdd257074b6ed79bb53f83"), looks := true }, kinds := [], alts := [], laidByText := true, laidKinds := [.data, .pinned], laidTests := true, laidLooks := .later }
def SessionUniqueCardSaid : Prop := Claim7.holds Tryd.pinned (.plain (OpenSpec.ofChange sessionUniqueSpec)) sessionUniqueCard

/-- THE TIED CARD OF 'aqueductlaw18.SessionNil'. -/
def sessionNilCard : Claim7 := { stood := { row := sessionNilRow, standIns := [], harness := (true, "47e28f3f623d97c4222096a1ada09b98a740ff0f86fdd257074b6ed79bb53f83"), looks := true }, kinds := [], alts := [], laidByText := true, laidKinds := [.data, .pinned], laidTests := true, laidLooks := .later }
def SessionNilCardSaid : Prop := Claim7.holds Tryd.pinned (.plain (OpenSpec.ofChange sessionNilSpec)) sessionNilCard

/-- THE TIED CARD OF 'aqueductlaw18.SessionPlays'. -/
def sessionPlaysCard : Claim7 := { stood := { row := sessionPlaysRow, standIns := [], harness := (true, "47e28f3f623d97c4222096a1ada09b98a740ff0f86fdd257074b6ed79bb53f83"), looks := true }, kinds := [], alts := [], laidByText := true, laidKinds := [.data, .pinned], laidTests := true, laidLooks := .later }
def SessionPlaysCardSaid : Prop := Claim7.holds Tryd.pinned (.plain (OpenSpec.ofChange sessionPlaysSpec)) sessionPlaysCard

/-- THE TIED CARD OF 'aqueductlaw16.TagsOnce'. -/
def tagsOnceCard : Claim7 := { stood := { row := tagsOnceRow, standIns := [], harness := (true, "47e28f3f623d97c4222096a1ada09b98a740ff0f86fdd257074b6ed79bb53f83"), looks := true }, kinds := [], alts := [], laidByText := true, laidKinds := [.data, .data, .data], laidTests := true, laidLooks := .later }
def TagsOnceCardSaid : Prop := Claim7.holds Tryd.pinned (.plain (OpenSpec.ofChange tagsOnceSpec)) tagsOnceCard

/-- THE TIED CARD OF 'aqueductlaw16.TagsPlays'. -/
def tagsPlaysCard : Claim7 := { stood := { row := tagsPlaysRow, standIns := [], harness := (true, "47e28f3f623d97c4222096a1ada09b98a740ff0f86fdd257074b6ed79bb53f83"), looks := true }, kinds := [], alts := [], laidByText := true, laidKinds := [.data, .data, .data], laidTests := true, laidLooks := .later }
def TagsPlaysCardSaid : Prop := Claim7.holds Tryd.pinned (.plain (OpenSpec.ofChange tagsPlaysSpec)) tagsPlaysCard

/-- THE TIED CARD OF 'aqueductlaw16.TagsNil'. -/
def tagsNilCard : Claim7 := { stood := { row := tagsNilRow, standIns := [], harness := (true, "47e28f3f623d97c4222096a1ada09b98a740ff0f86fdd257074b6ed79bb53f83"), looks := true }, kinds := [], alts := [], laidByText := true, laidKinds := [.data, .data, .data], laidTests := true, laidLooks := .later }
def TagsNilCardSaid : Prop := Claim7.holds Tryd.pinned (.plain (OpenSpec.ofChange tagsNilSpec)) tagsNilCard

/-- THE TIED CARD OF 'aqueductlaw16.TagsTexts'. -/
def tagsTextsCard : Claim7 := { stood := { row := tagsTextsRow, standIns := [], harness := (true, "47e28f3f623d97c4222096a1ada09b98a740ff0f86fdd257074b6ed79bb53f83"), looks := true }, kinds := [], alts := [], laidByText := true, laidKinds := [.data, .data, .data, .data, .sentinel, .sentinel, .pinned], laidTests := true, laidLooks := .later }
def TagsTextsCardSaid : Prop := Claim7.holds Tryd.pinned (.plain (OpenSpec.ofChange tagsTextsSpec)) tagsTextsCard

/-- THE TIED CARD OF 'aqueductlaw16.TagsBack'. -/
def tagsBackCard : Claim7 := { stood := { row := tagsBackRow, standIns := [], harness := (true, "47e28f3f623d97c4222096a1ada09b98a740ff0f86fdd257074b6ed79bb53f83"), looks := true }, kinds := [], alts := [], laidByText := true, laidKinds := [.data, .data, .data, .data, .sentinel, .sentinel, .pinned], laidTests := true, laidLooks := .later }
def TagsBackCardSaid : Prop := Claim7.holds Tryd.pinned (.plain (OpenSpec.ofChange tagsBackSpec)) tagsBackCard

/-- THE SECOND FORM's CARD OF 'aqueductlaw18.SessionKeeps'. -/
def sessionKeepsUptoCard : Claim7 := { stood := { row := sessionKeepsUptoRow, standIns := [], harness := (true, "47e28f3f623d97c4222096a1ada09b98a740ff0f86fdd257074b6ed79bb53f83"), looks := true }, kinds := [], alts := [], laidByText := true, laidKinds := [.data, .pinned], laidTests := true, laidLooks := .later }
def SessionKeepsUptoCardSaid : Prop := Claim7.holds Tryd.pinned (.plain (OpenSpec.upto sessionKeepsSpec)) sessionKeepsUptoCard

/-- THE SECOND FORM's CARD OF 'aqueductlaw18.SessionUnique'. -/
def sessionUniqueUptoCard : Claim7 := { stood := { row := sessionUniqueUptoRow, standIns := [], harness := (true, "47e28f3f623d97c4222096a1ada09b98a740ff0f86fdd257074b6ed79bb53f83"), looks := true }, kinds := [], alts := [], laidByText := true, laidKinds := [.data, .pinned], laidTests := true, laidLooks := .later }
def SessionUniqueUptoCardSaid : Prop := Claim7.holds Tryd.pinned (.plain (OpenSpec.upto sessionUniqueSpec)) sessionUniqueUptoCard

/-- THE SECOND FORM's CARD OF 'aqueductlaw18.SessionNil'. -/
def sessionNilUptoCard : Claim7 := { stood := { row := sessionNilUptoRow, standIns := [], harness := (true, "47e28f3f623d97c4222096a1ada09b98a740ff0f86fdd257074b6ed79bb53f83"), looks := true }, kinds := [], alts := [], laidByText := true, laidKinds := [.data, .pinned], laidTests := true, laidLooks := .later }
def SessionNilUptoCardSaid : Prop := Claim7.holds Tryd.pinned (.plain (OpenSpec.upto sessionNilSpec)) sessionNilUptoCard

/-- THE SECOND FORM's CARD OF 'aqueductlaw18.SessionPlays'. -/
def sessionPlaysUptoCard : Claim7 := { stood := { row := sessionPlaysUptoRow, standIns := [], harness := (true, "47e28f3f623d97c4222096a1ada09b98a740ff0f86fdd257074b6ed79bb53f83"), looks := true }, kinds := [], alts := [], laidByText := true, laidKinds := [.data, .pinned], laidTests := true, laidLooks := .later }
def SessionPlaysUptoCardSaid : Prop := Claim7.holds Tryd.pinned (.plain (OpenSpec.upto sessionPlaysSpec)) sessionPlaysUptoCard

/-- THE SECOND FORM's CARD OF 'aqueductlaw16.TagsOnce'. -/
def tagsOnceUptoCard : Claim7 := { stood := { row := tagsOnceUptoRow, standIns := [], harness := (true, "47e28f3f623d97c4222096a1ada09b98a740ff0f86fdd257074b6ed79bb53f83"), looks := true }, kinds := [], alts := [], laidByText := true, laidKinds := [.data, .data, .data], laidTests := true, laidLooks := .later }
def TagsOnceUptoCardSaid : Prop := Claim7.holds Tryd.pinned (.plain (OpenSpec.upto tagsOnceSpec)) tagsOnceUptoCard

/-- THE SECOND FORM's CARD OF 'aqueductlaw16.TagsPlays'. -/
def tagsPlaysUptoCard : Claim7 := { stood := { row := tagsPlaysUptoRow, standIns := [], harness := (true, "47e28f3f623d97c4222096a1ada09b98a740ff0f86fdd257074b6ed79bb53f83"), looks := true }, kinds := [], alts := [], laidByText := true, laidKinds := [.data, .data, .data], laidTests := true, laidLooks := .later }
def TagsPlaysUptoCardSaid : Prop := Claim7.holds Tryd.pinned (.plain (OpenSpec.upto tagsPlaysSpec)) tagsPlaysUptoCard

/-- THE SECOND FORM's CARD OF 'aqueductlaw16.TagsNil'. -/
def tagsNilUptoCard : Claim7 := { stood := { row := tagsNilUptoRow, standIns := [], harness := (true, "47e28f3f623d97c4222096a1ada09b98a740ff0f86fdd257074b6ed79bb53f83"), looks := true }, kinds := [], alts := [], laidByText := true, laidKinds := [.data, .data, .data], laidTests := true, laidLooks := .later }
def TagsNilUptoCardSaid : Prop := Claim7.holds Tryd.pinned (.plain (OpenSpec.upto tagsNilSpec)) tagsNilUptoCard

/-- THE SECOND FORM's CARD OF 'aqueductlaw16.TagsTexts'. -/
def tagsTextsUptoCard : Claim7 := { stood := { row := tagsTextsUptoRow, standIns := [], harness := (true, "47e28f3f623d97c4222096a1ada09b98a740ff0f86fdd257074b6ed79bb53f83"), looks := true }, kinds := [], alts := [], laidByText := true, laidKinds := [.data, .data, .data, .data, .sentinel, .sentinel, .pinned], laidTests := true, laidLooks := .later }
def TagsTextsUptoCardSaid : Prop := Claim7.holds Tryd.pinned (.plain (OpenSpec.upto tagsTextsSpec)) tagsTextsUptoCard

/-- THE SECOND FORM's CARD OF 'aqueductlaw16.TagsBack'. -/
def tagsBackUptoCard : Claim7 := { stood := { row := tagsBackUptoRow, standIns := [], harness := (true, "47e28f3f623d97c4222096a1ada09b98a740ff0f86fdd257074b6ed79bb53f83"), looks := true }, kinds := [], alts := [], laidByText := true, laidKinds := [.data, .data, .data, .data, .sentinel, .sentinel, .pinned], laidTests := true, laidLooks := .later }
def TagsBackUptoCardSaid : Prop := Claim7.holds Tryd.pinned (.plain (OpenSpec.upto tagsBackSpec)) tagsBackUptoCard
end Rows
end Go.Proofs.YtlgddhcbiioefaaDoor
