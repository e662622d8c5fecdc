/-
  DERIVED. GIVEN WITH THE SEED: THE CARDS: each row of YtmdagnoknmfhcaaDoorRows.lean that lists a variable, with what it lists TIED to the program's text (the seventh form; the later family's looks); each row that meets fmt, with fmt's text TOLD by the authors' own Lean function (tested against real Go, not proved from fmt's source: count such statements apart). THE CARD IS WHAT COUNTS. Prove the row's statement (the work); the ties are given (YtmdagnoknmfhcaaDoorTie.lean); close each card by the builder's one call (the guide's Derived/Test/ToyasCard.lean, 'card_holds'). Laid BY PROGRAM, IN A SANDBOX (cutbox-door.mjs). By AI agents, Wed Nov 11 2026. No macro, syntax, notation, axiom, sorry.
-/
import Derived.Test.YtmdagnoknmfhcaaDoorRows
import GoSem.ClaimSeven
namespace Go.Proofs.YtmdagnoknmfhcaaDoor
namespace Rows

/-- THE TIED CARD OF 'aqueductlaw17.RetainPlays'. -/
def retainPlaysCard : Claim7 := { stood := { row := retainPlaysRow, standIns := [], harness := (true, "71a48d05428e5e51829ce6cf71ade2217a654844fbe9d8a43254b08561a9ee10"), looks := false }, kinds := [], alts := [], laidByText := true, laidKinds := [.data, .pinned], laidTests := true, laidLooks := .later }
def RetainPlaysCardSaid : Prop := Claim7.holds Tryd.pinned (.plain (OpenSpec.ofChange retainPlaysSpec)) retainPlaysCard

/-- THE TIED CARD OF 'aqueductlaw17.RetainLast'. -/
def retainLastCard : Claim7 := { stood := { row := retainLastRow, standIns := [], harness := (true, "71a48d05428e5e51829ce6cf71ade2217a654844fbe9d8a43254b08561a9ee10"), looks := false }, kinds := [], alts := [], laidByText := true, laidKinds := [.data, .pinned], laidTests := true, laidLooks := .later }
def RetainLastCardSaid : Prop := Claim7.holds Tryd.pinned (.plain (OpenSpec.ofChange retainLastSpec)) retainLastCard

/-- THE TIED CARD OF 'aqueductlaw17.RetainNil'. -/
def retainNilCard : Claim7 := { stood := { row := retainNilRow, standIns := [], harness := (true, "71a48d05428e5e51829ce6cf71ade2217a654844fbe9d8a43254b08561a9ee10"), looks := false }, kinds := [], alts := [], laidByText := true, laidKinds := [.data, .pinned], laidTests := true, laidLooks := .later }
def RetainNilCardSaid : Prop := Claim7.holds Tryd.pinned (.plain (OpenSpec.ofChange retainNilSpec)) retainNilCard

/-- THE TIED CARD OF 'aqueductlaw21.AdvertBytes'. -/
def advertBytesCard : Claim7 := { stood := { row := advertBytesRow, standIns := [], harness := (true, "71a48d05428e5e51829ce6cf71ade2217a654844fbe9d8a43254b08561a9ee10"), looks := false }, kinds := [], alts := [], laidByText := true, laidKinds := [.data, .pinned], laidTests := true, laidLooks := .later }
def AdvertBytesCardSaid : Prop := Claim7.holds Tryd.pinned (.plain (OpenSpec.ofChange advertBytesSpec)) advertBytesCard

/-- THE TIED CARD OF 'aqueductlaw21.AdvertBack'. -/
def advertBackCard : Claim7 := { stood := { row := advertBackRow, standIns := [], harness := (true, "71a48d05428e5e51829ce6cf71ade2217a654844fbe9d8a43254b08561a9ee10"), looks := false }, kinds := [], alts := [], laidByText := true, laidKinds := [.data, .pinned], laidTests := true, laidLooks := .later }
def AdvertBackCardSaid : Prop := Claim7.holds Tryd.pinned (.plain (OpenSpec.ofChange advertBackSpec)) advertBackCard

/-- THE TIED CARD OF 'aqueductlaw21.AdvertNewest'. -/
def advertNewestCard : Claim7 := { stood := { row := advertNewestRow, standIns := [], harness := (true, "71a48d05428e5e51829ce6cf71ade2217a654844fbe9d8a43254b08561a9ee10"), looks := false }, kinds := [], alts := [], laidByText := true, laidKinds := [.data, .pinned], laidTests := true, laidLooks := .later }
def AdvertNewestCardSaid : Prop := Claim7.holds Tryd.pinned (.plain (OpenSpec.ofChange advertNewestSpec)) advertNewestCard

/-- THE TIED CARD OF 'aqueductlaw21.AdvertPlays'. -/
def advertPlaysCard : Claim7 := { stood := { row := advertPlaysRow, standIns := [], harness := (true, "71a48d05428e5e51829ce6cf71ade2217a654844fbe9d8a43254b08561a9ee10"), looks := false }, kinds := [], alts := [], laidByText := true, laidKinds := [.data, .pinned], laidTests := true, laidLooks := .later }
def AdvertPlaysCardSaid : Prop := Claim7.holds Tryd.pinned (.plain (OpenSpec.ofChange advertPlaysSpec)) advertPlaysCard

/-- THE TIED CARD OF 'aqueductlaw21.AdvertApart'. -/
def advertApartCard : Claim7 := { stood := { row := advertApartRow, standIns := [], harness := (true, "71a48d05428e5e51829ce6cf71ade2217a654844fbe9d8a43254b08561a9ee10"), looks := false }, kinds := [], alts := [], laidByText := true, laidKinds := [.data, .pinned], laidTests := true, laidLooks := .later }
def AdvertApartCardSaid : Prop := Claim7.holds Tryd.pinned (.plain (OpenSpec.ofChange advertApartSpec)) advertApartCard

/-- THE TIED CARD OF 'aqueductlaw23.BridgeDelays'. -/
def bridgeDelaysCard : Claim7 := { stood := { row := bridgeDelaysRow, standIns := [], harness := (true, "71a48d05428e5e51829ce6cf71ade2217a654844fbe9d8a43254b08561a9ee10"), looks := false }, kinds := [], alts := [], laidByText := true, laidKinds := [.data, .data, .data, .data, .pinned], laidTests := true, laidLooks := .later }
def BridgeDelaysCardSaid : Prop := Claim7.holds Tryd.pinned (.plain (OpenSpec.ofChange bridgeDelaysSpec)) bridgeDelaysCard

/-- THE SECOND FORM's CARD OF 'aqueductlaw17.RetainPlays'. -/
def retainPlaysUptoCard : Claim7 := { stood := { row := retainPlaysUptoRow, standIns := [], harness := (true, "71a48d05428e5e51829ce6cf71ade2217a654844fbe9d8a43254b08561a9ee10"), looks := false }, kinds := [], alts := [], laidByText := true, laidKinds := [.data, .pinned], laidTests := true, laidLooks := .later }
def RetainPlaysUptoCardSaid : Prop := Claim7.holds Tryd.pinned (.plain (OpenSpec.upto retainPlaysSpec)) retainPlaysUptoCard

/-- THE SECOND FORM's CARD OF 'aqueductlaw17.RetainLast'. -/
def retainLastUptoCard : Claim7 := { stood := { row := retainLastUptoRow, standIns := [], harness := (true, "71a48d05428e5e51829ce6cf71ade2217a654844fbe9d8a43254b08561a9ee10"), looks := false }, kinds := [], alts := [], laidByText := true, laidKinds := [.data, .pinned], laidTests := true, laidLooks := .later }
def RetainLastUptoCardSaid : Prop := Claim7.holds Tryd.pinned (.plain (OpenSpec.upto retainLastSpec)) retainLastUptoCard

/-- THE SECOND FORM's CARD OF 'aqueductlaw17.RetainNil'. -/
def retainNilUptoCard : Claim7 := { stood := { row := retainNilUptoRow, standIns := [], harness := (true, "71a48d05428e5e51829ce6cf71ade2217a654844fbe9d8a43254b08561a9ee10"), looks := false }, kinds := [], alts := [], laidByText := true, laidKinds := [.data, .pinned], laidTests := true, laidLooks := .later }
def RetainNilUptoCardSaid : Prop := Claim7.holds Tryd.pinned (.plain (OpenSpec.upto retainNilSpec)) retainNilUptoCard

/-- THE SECOND FORM's CARD OF 'aqueductlaw21.AdvertBytes'. -/
def advertBytesUptoCard : Claim7 := { stood := { row := advertBytesUptoRow, standIns := [], harness := (true, "71a48d05428e5e51829ce6cf71ade2217a654844fbe9d8a43254b08561a9ee10"), looks := false }, kinds := [], alts := [], laidByText := true, laidKinds := [.data, .pinned], laidTests := true, laidLooks := .later }
def AdvertBytesUptoCardSaid : Prop := Claim7.holds Tryd.pinned (.plain (OpenSpec.upto advertBytesSpec)) advertBytesUptoCard

/-- THE SECOND FORM's CARD OF 'aqueductlaw21.AdvertBack'. -/
def advertBackUptoCard : Claim7 := { stood := { row := advertBackUptoRow, standIns := [], harness := (true, "71a48d05428e5e51829ce6cf71ade2217a654844fbe9d8a43254b08561a9ee10"), looks := false }, kinds := [], alts := [], laidByText := true, laidKinds := [.data, .pinned], laidTests := true, laidLooks := .later }
def AdvertBackUptoCardSaid : Prop := Claim7.holds Tryd.pinned (.plain (OpenSpec.upto advertBackSpec)) advertBackUptoCard

/-- THE SECOND FORM's CARD OF 'aqueductlaw21.AdvertNewest'. -/
def advertNewestUptoCard : Claim7 := { stood := { row := advertNewestUptoRow, standIns := [], harness := (true, "71a48d05428e5e51829ce6cf71ade2217a654844fbe9d8a43254b08561a9ee10"), looks := false }, kinds := [], alts := [], laidByText := true, laidKinds := [.data, .pinned], laidTests := true, laidLooks := .later }
def AdvertNewestUptoCardSaid : Prop := Claim7.holds Tryd.pinned (.plain (OpenSpec.upto advertNewestSpec)) advertNewestUptoCard

/-- THE SECOND FORM's CARD OF 'aqueductlaw21.AdvertPlays'. -/
def advertPlaysUptoCard : Claim7 := { stood := { row := advertPlaysUptoRow, standIns := [], harness := (true, "71a48d05428e5e51829ce6cf71ade2217a654844fbe9d8a43254b08561a9ee10"), looks := false }, kinds := [], alts := [], laidByText := true, laidKinds := [.data, .pinned], laidTests := true, laidLooks := .later }
def AdvertPlaysUptoCardSaid : Prop := Claim7.holds Tryd.pinned (.plain (OpenSpec.upto advertPlaysSpec)) advertPlaysUptoCard

/-- THE SECOND FORM's CARD OF 'aqueductlaw21.AdvertApart'. -/
def advertApartUptoCard : Claim7 := { stood := { row := advertApartUptoRow, standIns := [], harness := (true, "71a48d05428e5e51829ce6cf71ade2217a654844fbe9d8a43254b08561a9ee10"), looks := false }, kinds := [], alts := [], laidByText := true, laidKinds := [.data, .pinned], laidTests := true, laidLooks := .later }
def AdvertApartUptoCardSaid : Prop := Claim7.holds Tryd.pinned (.plain (OpenSpec.upto advertApartSpec)) advertApartUptoCard

/-- THE SECOND FORM's CARD OF 'aqueductlaw23.BridgeDelays'. -/
def bridgeDelaysUptoCard : Claim7 := { stood := { row := bridgeDelaysUptoRow, standIns := [], harness := (true, "71a48d05428e5e51829ce6cf71ade2217a654844fbe9d8a43254b08561a9ee10"), looks := false }, kinds := [], alts := [], laidByText := true, laidKinds := [.data, .data, .data, .data, .pinned], laidTests := true, laidLooks := .later }
def BridgeDelaysUptoCardSaid : Prop := Claim7.holds Tryd.pinned (.plain (OpenSpec.upto bridgeDelaysSpec)) bridgeDelaysUptoCard
end Rows
end Go.Proofs.YtmdagnoknmfhcaaDoor
