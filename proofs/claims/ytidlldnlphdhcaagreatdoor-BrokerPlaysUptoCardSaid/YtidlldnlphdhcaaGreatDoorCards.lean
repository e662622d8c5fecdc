/-
  DERIVED. GIVEN WITH THE SEED: THE CARDS: each row of YtidlldnlphdhcaaGreatDoorRows.lean that lists a variable, with what it lists TIED to the program's text (the seventh form; the later family's looks); each row that meets fmt, with fmt's text TOLD by the authors' own Lean function (tested against real Go, not proved from fmt's source: count such statements apart). THE CARD IS WHAT COUNTS. Prove the row's statement (the work); the ties are given (YtidlldnlphdhcaaGreatDoorTie.lean); close each card by the builder's one call (the guide's Derived/Test/ToyasCard.lean, 'card_holds'). Laid BY PROGRAM, IN A SANDBOX (cutbox-door.mjs). By AI agents, Wed Nov 11 2026. No macro, syntax, notation, axiom, sorry.
-/
import Derived.Test.YtidlldnlphdhcaaGreatDoorRows
import GoSem.ClaimSeven
namespace Go.Proofs.YtidlldnlphdhcaaGreatDoor
namespace Rows

/-- THE TIED CARD OF 'aqueductlaw19.BrokerRetains'. -/
def brokerRetainsCard : Claim7 := { stood := { row := brokerRetainsRow, standIns := [], harness := (true, "dec7a9a680b42fa33899a9315e6c25b9bbe57bc616f1c6cf48b28f306440db2e"), looks := false }, kinds := [], alts := [], laidByText := true, laidKinds := [.data, .pinned], laidTests := true, laidLooks := .later }
def BrokerRetainsCardSaid : Prop := Claim7.holds Tryz.pinned (.plain (OpenSpec.ofChange brokerRetainsSpec)) brokerRetainsCard

/-- THE TIED CARD OF 'aqueductlaw19.BrokerCloses'. -/
def brokerClosesCard : Claim7 := { stood := { row := brokerClosesRow, standIns := [], harness := (true, "dec7a9a680b42fa33899a9315e6c25b9bbe57bc616f1c6cf48b28f306440db2e"), looks := false }, kinds := [], alts := [], laidByText := true, laidKinds := [.data, .pinned], laidTests := true, laidLooks := .later }
def BrokerClosesCardSaid : Prop := Claim7.holds Tryz.pinned (.plain (OpenSpec.ofChange brokerClosesSpec)) brokerClosesCard

/-- THE TIED CARD OF 'aqueductlaw19.BrokerFull'. -/
def brokerFullCard : Claim7 := { stood := { row := brokerFullRow, standIns := [], harness := (true, "dec7a9a680b42fa33899a9315e6c25b9bbe57bc616f1c6cf48b28f306440db2e"), looks := false }, kinds := [], alts := [], laidByText := true, laidKinds := [.data, .pinned], laidTests := true, laidLooks := .later }
def BrokerFullCardSaid : Prop := Claim7.holds Tryz.pinned (.plain (OpenSpec.ofChange brokerFullSpec)) brokerFullCard

/-- THE TIED CARD OF 'aqueductlaw19.BrokerOnce'. -/
def brokerOnceCard : Claim7 := { stood := { row := brokerOnceRow, standIns := [], harness := (true, "dec7a9a680b42fa33899a9315e6c25b9bbe57bc616f1c6cf48b28f306440db2e"), looks := false }, kinds := [], alts := [], laidByText := true, laidKinds := [.data, .pinned], laidTests := true, laidLooks := .later }
def BrokerOnceCardSaid : Prop := Claim7.holds Tryz.pinned (.plain (OpenSpec.ofChange brokerOnceSpec)) brokerOnceCard

/-- THE TIED CARD OF 'aqueductlaw19.BrokerPlays'. -/
def brokerPlaysCard : Claim7 := { stood := { row := brokerPlaysRow, standIns := [], harness := (true, "dec7a9a680b42fa33899a9315e6c25b9bbe57bc616f1c6cf48b28f306440db2e"), looks := false }, kinds := [], alts := [], laidByText := true, laidKinds := [.data, .pinned], laidTests := true, laidLooks := .later }
def BrokerPlaysCardSaid : Prop := Claim7.holds Tryz.pinned (.plain (OpenSpec.ofChange brokerPlaysSpec)) brokerPlaysCard

/-- THE TIED CARD OF 'aqueductlaw19.BrokerNil'. -/
def brokerNilCard : Claim7 := { stood := { row := brokerNilRow, standIns := [], harness := (true, "dec7a9a680b42fa33899a9315e6c25b9bbe57bc616f1c6cf48b28f306440db2e"), looks := false }, kinds := [], alts := [], laidByText := true, laidKinds := [.data, .pinned], laidTests := true, laidLooks := .later }
def BrokerNilCardSaid : Prop := Claim7.holds Tryz.pinned (.plain (OpenSpec.ofChange brokerNilSpec)) brokerNilCard

/-- THE SECOND FORM's CARD OF 'aqueductlaw19.BrokerRetains'. -/
def brokerRetainsUptoCard : Claim7 := { stood := { row := brokerRetainsUptoRow, standIns := [], harness := (true, "dec7a9a680b42fa33899a9315e6c25b9bbe57bc616f1c6cf48b28f306440db2e"), looks := false }, kinds := [], alts := [], laidByText := true, laidKinds := [.data, .pinned], laidTests := true, laidLooks := .later }
def BrokerRetainsUptoCardSaid : Prop := Claim7.holds Tryz.pinned (.plain (OpenSpec.upto brokerRetainsSpec)) brokerRetainsUptoCard

/-- THE SECOND FORM's CARD OF 'aqueductlaw19.BrokerCloses'. -/
def brokerClosesUptoCard : Claim7 := { stood := { row := brokerClosesUptoRow, standIns := [], harness := (true, "dec7a9a680b42fa33899a9315e6c25b9bbe57bc616f1c6cf48b28f306440db2e"), looks := false }, kinds := [], alts := [], laidByText := true, laidKinds := [.data, .pinned], laidTests := true, laidLooks := .later }
def BrokerClosesUptoCardSaid : Prop := Claim7.holds Tryz.pinned (.plain (OpenSpec.upto brokerClosesSpec)) brokerClosesUptoCard

/-- THE SECOND FORM's CARD OF 'aqueductlaw19.BrokerFull'. -/
def brokerFullUptoCard : Claim7 := { stood := { row := brokerFullUptoRow, standIns := [], harness := (true, "dec7a9a680b42fa33899a9315e6c25b9bbe57bc616f1c6cf48b28f306440db2e"), looks := false }, kinds := [], alts := [], laidByText := true, laidKinds := [.data, .pinned], laidTests := true, laidLooks := .later }
def BrokerFullUptoCardSaid : Prop := Claim7.holds Tryz.pinned (.plain (OpenSpec.upto brokerFullSpec)) brokerFullUptoCard

/-- THE SECOND FORM's CARD OF 'aqueductlaw19.BrokerOnce'. -/
def brokerOnceUptoCard : Claim7 := { stood := { row := brokerOnceUptoRow, standIns := [], harness := (true, "dec7a9a680b42fa33899a9315e6c25b9bbe57bc616f1c6cf48b28f306440db2e"), looks := false }, kinds := [], alts := [], laidByText := true, laidKinds := [.data, .pinned], laidTests := true, laidLooks := .later }
def BrokerOnceUptoCardSaid : Prop := Claim7.holds Tryz.pinned (.plain (OpenSpec.upto brokerOnceSpec)) brokerOnceUptoCard

/-- THE SECOND FORM's CARD OF 'aqueductlaw19.BrokerPlays'. -/
def brokerPlaysUptoCard : Claim7 := { stood := { row := brokerPlaysUptoRow, standIns := [], harness := (true, "dec7a9a680b42fa33899a9315e6c25b9bbe57bc616f1c6cf48b28f306440db2e"), looks := false }, kinds := [], alts := [], laidByText := true, laidKinds := [.data, .pinned], laidTests := true, laidLooks := .later }
def BrokerPlaysUptoCardSaid : Prop := Claim7.holds Tryz.pinned (.plain (OpenSpec.upto brokerPlaysSpec)) brokerPlaysUptoCard

/-- THE SECOND FORM's CARD OF 'aqueductlaw19.BrokerNil'. -/
def brokerNilUptoCard : Claim7 := { stood := { row := brokerNilUptoRow, standIns := [], harness := (true, "dec7a9a680b42fa33899a9315e6c25b9bbe57bc616f1c6cf48b28f306440db2e"), looks := false }, kinds := [], alts := [], laidByText := true, laidKinds := [.data, .pinned], laidTests := true, laidLooks := .later }
def BrokerNilUptoCardSaid : Prop := Claim7.holds Tryz.pinned (.plain (OpenSpec.upto brokerNilSpec)) brokerNilUptoCard
end Rows
end Go.Proofs.YtidlldnlphdhcaaGreatDoor
