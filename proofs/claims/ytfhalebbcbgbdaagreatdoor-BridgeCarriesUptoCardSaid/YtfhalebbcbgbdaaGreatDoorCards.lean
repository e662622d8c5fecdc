/-
  DERIVED. GIVEN WITH THE SEED: THE CARDS: each row of YtfhalebbcbgbdaaGreatDoorRows.lean that lists a variable, with what it lists TIED to the program's text (the seventh form; the later family's looks); each row that meets fmt, with fmt's text TOLD by the authors' own Lean function (tested against real Go, not proved from fmt's source: count such statements apart). THE CARD IS WHAT COUNTS. Prove the row's statement (the work); the ties are given (YtfhalebbcbgbdaaGreatDoorTie.lean); close each card by the builder's one call (the guide's Derived/Test/ToyasCard.lean, 'card_holds'). Laid BY PROGRAM, IN A SANDBOX (cutbox-door.mjs). By AI agents, Wed Nov 11 2026. No macro, syntax, notation, axiom, sorry.
-/
import Derived.Test.YtfhalebbcbgbdaaGreatDoorRows
import GoSem.ClaimSeven
namespace Go.Proofs.YtfhalebbcbgbdaaGreatDoor
namespace Rows

/-- THE TIED CARD OF 'aqueductlaw23.BridgeArrives'. -/
def bridgeArrivesCard : Claim7 := { stood := { row := bridgeArrivesRow, standIns := [], harness := (true, "561581784295003d59f6ec77ba243f21f19832a26e7b2d8ac4caca4e0f9cdc79"), looks := true }, kinds := [], alts := [], laidByText := true, laidKinds := [.data, .data, .data, .data, .sentinel, .sentinel, .pinned], laidTests := true, laidLooks := .later }
def BridgeArrivesCardSaid : Prop := Claim7.holds Tryz.pinned (.plain (OpenSpec.ofChange bridgeArrivesSpec)) bridgeArrivesCard

/-- THE TIED CARD OF 'aqueductlaw23.BridgePlays'. -/
def bridgePlaysCard : Claim7 := { stood := { row := bridgePlaysRow, standIns := [], harness := (true, "561581784295003d59f6ec77ba243f21f19832a26e7b2d8ac4caca4e0f9cdc79"), looks := true }, kinds := [], alts := [], laidByText := true, laidKinds := [.data, .data, .data, .data, .pinned], laidTests := true, laidLooks := .later }
def BridgePlaysCardSaid : Prop := Claim7.holds Tryz.pinned (.plain (OpenSpec.ofChange bridgePlaysSpec)) bridgePlaysCard

/-- THE TIED CARD OF 'aqueductlaw23.BridgeAgain'. -/
def bridgeAgainCard : Claim7 := { stood := { row := bridgeAgainRow, standIns := [], harness := (true, "561581784295003d59f6ec77ba243f21f19832a26e7b2d8ac4caca4e0f9cdc79"), looks := true }, kinds := [], alts := [], laidByText := true, laidKinds := [.data, .data, .data, .data, .pinned], laidTests := true, laidLooks := .later }
def BridgeAgainCardSaid : Prop := Claim7.holds Tryz.pinned (.plain (OpenSpec.ofChange bridgeAgainSpec)) bridgeAgainCard

/-- THE TIED CARD OF 'aqueductlaw23.BridgeNil'. -/
def bridgeNilCard : Claim7 := { stood := { row := bridgeNilRow, standIns := [], harness := (true, "561581784295003d59f6ec77ba243f21f19832a26e7b2d8ac4caca4e0f9cdc79"), looks := true }, kinds := [], alts := [], laidByText := true, laidKinds := [.data, .data, .data, .data, .pinned], laidTests := true, laidLooks := .later }
def BridgeNilCardSaid : Prop := Claim7.holds Tryz.pinned (.plain (OpenSpec.ofChange bridgeNilSpec)) bridgeNilCard

/-- THE TIED CARD OF 'aqueductlaw23.BridgeCarries'. -/
def bridgeCarriesCard : Claim7 := { stood := { row := bridgeCarriesRow, standIns := [], harness := (true, "561581784295003d59f6ec77ba243f21f19832a26e7b2d8ac4caca4e0f9cdc79"), looks := true }, kinds := [], alts := [], laidByText := true, laidKinds := [.data, .data, .data, .data, .sentinel, .sentinel, .pinned], laidTests := true, laidLooks := .later }
def BridgeCarriesCardSaid : Prop := Claim7.holds Tryz.pinned (.plain (OpenSpec.ofChange bridgeCarriesSpec)) bridgeCarriesCard

/-- THE SECOND FORM's CARD OF 'aqueductlaw23.BridgeArrives'. -/
def bridgeArrivesUptoCard : Claim7 := { stood := { row := bridgeArrivesUptoRow, standIns := [], harness := (true, "561581784295003d59f6ec77ba243f21f19832a26e7b2d8ac4caca4e0f9cdc79"), looks := true }, kinds := [], alts := [], laidByText := true, laidKinds := [.data, .data, .data, .data, .sentinel, .sentinel, .pinned], laidTests := true, laidLooks := .later }
def BridgeArrivesUptoCardSaid : Prop := Claim7.holds Tryz.pinned (.plain (OpenSpec.upto bridgeArrivesSpec)) bridgeArrivesUptoCard

/-- THE SECOND FORM's CARD OF 'aqueductlaw23.BridgePlays'. -/
def bridgePlaysUptoCard : Claim7 := { stood := { row := bridgePlaysUptoRow, standIns := [], harness := (true, "561581784295003d59f6ec77ba243f21f19832a26e7b2d8ac4caca4e0f9cdc79"), looks := true }, kinds := [], alts := [], laidByText := true, laidKinds := [.data, .data, .data, .data, .pinned], laidTests := true, laidLooks := .later }
def BridgePlaysUptoCardSaid : Prop := Claim7.holds Tryz.pinned (.plain (OpenSpec.upto bridgePlaysSpec)) bridgePlaysUptoCard

/-- THE SECOND FORM's CARD OF 'aqueductlaw23.BridgeAgain'. -/
def bridgeAgainUptoCard : Claim7 := { stood := { row := bridgeAgainUptoRow, standIns := [], harness := (true, "561581784295003d59f6ec77ba243f21f19832a26e7b2d8ac4caca4e0f9cdc79"), looks := true }, kinds := [], alts := [], laidByText := true, laidKinds := [.data, .data, .data, .data, .pinned], laidTests := true, laidLooks := .later }
def BridgeAgainUptoCardSaid : Prop := Claim7.holds Tryz.pinned (.plain (OpenSpec.upto bridgeAgainSpec)) bridgeAgainUptoCard

/-- THE SECOND FORM's CARD OF 'aqueductlaw23.BridgeNil'. -/
def bridgeNilUptoCard : Claim7 := { stood := { row := bridgeNilUptoRow, standIns := [], harness := (true, "561581784295003d59f6ec77ba243f21f19832a26e7b2d8ac4caca4e0f9cdc79"), looks := true }, kinds := [], alts := [], laidByText := true, laidKinds := [.data, .data, .data, .data, .pinned], laidTests := true, laidLooks := .later }
def BridgeNilUptoCardSaid : Prop := Claim7.holds Tryz.pinned (.plain (OpenSpec.upto bridgeNilSpec)) bridgeNilUptoCard

/-- THE SECOND FORM's CARD OF 'aqueductlaw23.BridgeCarries'. -/
def bridgeCarriesUptoCard : Claim7 := { stood := { row := bridgeCarriesUptoRow, standIns := [], harness := (true, "561581784295003d59f6ec77ba243f21f19832a26e7b2d8ac4caca4e0f9cdc79"), looks := true }, kinds := [], alts := [], laidByText := true, laidKinds := [.data, .data, .data, .data, .sentinel, .sentinel, .pinned], laidTests := true, laidLooks := .later }
def BridgeCarriesUptoCardSaid : Prop := Claim7.holds Tryz.pinned (.plain (OpenSpec.upto bridgeCarriesSpec)) bridgeCarriesUptoCard
end Rows
end Go.Proofs.YtfhalebbcbgbdaaGreatDoor
