/-
  NARROWER THAN 'FOR EVERY INPUT', by the rows' own cells (each row's printed sentence says how): BrokerRetains: laid · BrokerCloses: laid · BrokerFull: laid · BrokerOnce: laid · BrokerPlays: laid · BrokerNil: laid.
  DERIVED. THE GIVEN ROWS OF THIS SEAT. 6 by the template 'for every input the law returns true; each argument reads behind the call as it read before'; 0 by the template 'total and deterministic' (their statements: YtidlldnlphdhcaaGreatDoorTotals.lean).
  GIVEN WITH THE SEED: the statements are not yours to turn. If you find one false, say at which input.
  Laid BY PROGRAM, IN A SANDBOX (cutbox-rows.mjs): the forced cells as the released guide's own fill.sh prints them over the translation c6fba636b5683028… (all of the seat's roots in one cut). By AI agents, Wed Nov 11 2026. No macro, syntax, notation, axiom, sorry.
-/
import Derived.Test.YtidlldnlphdhcaaGreatDoorChecked
import GoSem.PinnedTables
import GoSem.Claim
import GoSem.ClaimJoined
import GoSem.ClaimMapViews
import Derived.JoinedTies
import Derived.KernelRfl
namespace Go.Proofs.YtidlldnlphdhcaaGreatDoor
/- THE CELL 'sum', in the pinned program and in every row, IS THE sha256 OF THE DUMP (.gsa) THAT YtidlldnlphdhcaaGreatDoorProg.lean LOADS. Nothing in Lean hashes anything: it is a label: what it is worth is what the hold of that sum in a sandbox is worth. -/
noncomputable def Tryz.pinned : Pinned := { name := "ytidlldnlphdhcaagreatdoor", sum := "c6fba636b568302836c0e4e067cbbf004c42974477c64db9024811824378b74e", checked := Tryz.checked }
namespace Rows
def none {H : Type} : Left H := { results := [], args := [] }

/- WHAT THE LISTED PACKAGE-LEVEL VARIABLES READ AS WHEN THE CALL BEGINS. Each datum BY PROGRAM (the guide's laid-datum.mjs) off the statement by which the dump's own 'gosem.cut.vars' lays the variable. In a bare row this is a premise. The card (YtidlldnlphdhcaaGreatDoorCards.lean) ties it to the program's text. -/
def laid_unicode_utf8_acceptRanges {H : Type} : DataW H := .agg [.agg [.lit (.int .u8 128), .lit (.int .u8 191)], .agg [.lit (.int .u8 160), .lit (.int .u8 191)], .agg [.lit (.int .u8 128), .lit (.int .u8 159)], .agg [.lit (.int .u8 144), .lit (.int .u8 191)], .agg [.lit (.int .u8 128), .lit (.int .u8 143)], .agg [.lit (.int .u8 0), .lit (.int .u8 0)], .agg [.lit (.int .u8 0), .lit (.int .u8 0)], .agg [.lit (.int .u8 0), .lit (.int .u8 0)], .agg [.lit (.int .u8 0), .lit (.int .u8 0)], .agg [.lit (.int .u8 0), .lit (.int .u8 0)], .agg [.lit (.int .u8 0), .lit (.int .u8 0)], .agg [.lit (.int .u8 0), .lit (.int .u8 0)], .agg [.lit (.int .u8 0), .lit (.int .u8 0)], .agg [.lit (.int .u8 0), .lit (.int .u8 0)], .agg [.lit (.int .u8 0), .lit (.int .u8 0)], .agg [.lit (.int .u8 0), .lit (.int .u8 0)]]
/-- One of Go's own tables, pinned by name: the form's constant. -/
def laid_unicode_utf8_first : DataW Unit := Go.Pinned.utf8First

/-- 'aqueductlaw19.BrokerRetains': WHATEVER THE INPUT: true; the input reads as it did. -/
def brokerRetainsSpec : ChangeSpec := { name := "brokerRetains", fn := fun _ => fun
  | [d1, d2, d3] => { results := [.lit (.bool true)], args := [d1, d2, d3] }
  | _ => none }
def brokerRetainsRow : OpenClaim := { program := "ytidlldnlphdhcaagreatdoor", sum := "c6fba636b568302836c0e4e067cbbf004c42974477c64db9024811824378b74e", func := "aqueduct/aqueductlaw19.BrokerRetains", spec := "brokerRetains", inPlace := ["internal/bytealg.CountString", "internal/bytealg.IndexByteString", "internal/bytealg.IndexString", "internal/abi.NoEscape", "internal/bytealg.MakeNoZero", "internal/bytealg.abigen_runtime_cmpstring"], unfollowed := true, recurses := true, named := ["unicode/utf8.first", "unicode/utf8.acceptRanges", "internal/bytealg.MaxLen"], apart := false, laid := [("unicode/utf8.acceptRanges", laid_unicode_utf8_acceptRanges), ("unicode/utf8.first", laid_unicode_utf8_first)] }
def BrokerRetainsSaid : Prop := brokerRetainsRow.holds Tryz.pinned (OpenSpec.ofChange brokerRetainsSpec)

/-- ITS FALSE NEIGHBOUR: 'it returns false'. Refute it at one input. -/
def brokerRetainsWrong : ChangeSpec := { name := "brokerRetains", fn := fun _ => fun
  | [d1, d2, d3] => { results := [.lit (.bool false)], args := [d1, d2, d3] }
  | _ => none }
def BrokerRetainsWrongFalsely : Prop := brokerRetainsRow.holds Tryz.pinned (OpenSpec.ofChange brokerRetainsWrong)

/-- 'aqueductlaw19.BrokerCloses': WHATEVER THE INPUT: true; the input reads as it did. -/
def brokerClosesSpec : ChangeSpec := { name := "brokerCloses", fn := fun _ => fun
  | [d1, d2] => { results := [.lit (.bool true)], args := [d1, d2] }
  | _ => none }
def brokerClosesRow : OpenClaim := { program := "ytidlldnlphdhcaagreatdoor", sum := "c6fba636b568302836c0e4e067cbbf004c42974477c64db9024811824378b74e", func := "aqueduct/aqueductlaw19.BrokerCloses", spec := "brokerCloses", inPlace := ["internal/abi.NoEscape", "internal/bytealg.MakeNoZero", "internal/bytealg.abigen_runtime_cmpstring", "internal/bytealg.CountString", "internal/bytealg.IndexByteString", "internal/bytealg.IndexString"], unfollowed := true, recurses := true, named := ["unicode/utf8.first", "unicode/utf8.acceptRanges", "internal/bytealg.MaxLen"], apart := false, laid := [("unicode/utf8.acceptRanges", laid_unicode_utf8_acceptRanges), ("unicode/utf8.first", laid_unicode_utf8_first)] }
def BrokerClosesSaid : Prop := brokerClosesRow.holds Tryz.pinned (OpenSpec.ofChange brokerClosesSpec)

/-- ITS FALSE NEIGHBOUR: 'it returns false'. Refute it at one input. -/
def brokerClosesWrong : ChangeSpec := { name := "brokerCloses", fn := fun _ => fun
  | [d1, d2] => { results := [.lit (.bool false)], args := [d1, d2] }
  | _ => none }
def BrokerClosesWrongFalsely : Prop := brokerClosesRow.holds Tryz.pinned (OpenSpec.ofChange brokerClosesWrong)

/-- 'aqueductlaw19.BrokerFull': WHATEVER THE INPUT: true; the input reads as it did. -/
def brokerFullSpec : ChangeSpec := { name := "brokerFull", fn := fun _ => fun
  | [d1, d2, d3] => { results := [.lit (.bool true)], args := [d1, d2, d3] }
  | _ => none }
def brokerFullRow : OpenClaim := { program := "ytidlldnlphdhcaagreatdoor", sum := "c6fba636b568302836c0e4e067cbbf004c42974477c64db9024811824378b74e", func := "aqueduct/aqueductlaw19.BrokerFull", spec := "brokerFull", inPlace := ["internal/abi.NoEscape", "internal/bytealg.MakeNoZero", "internal/bytealg.abigen_runtime_cmpstring", "internal/bytealg.CountString", "internal/bytealg.IndexByteString", "internal/bytealg.IndexString"], unfollowed := true, recurses := true, named := ["unicode/utf8.first", "unicode/utf8.acceptRanges", "internal/bytealg.MaxLen"], apart := false, laid := [("unicode/utf8.acceptRanges", laid_unicode_utf8_acceptRanges), ("unicode/utf8.first", laid_unicode_utf8_first)] }
def BrokerFullSaid : Prop := brokerFullRow.holds Tryz.pinned (OpenSpec.ofChange brokerFullSpec)

/-- ITS FALSE NEIGHBOUR: 'it returns false'. Refute it at one input. -/
def brokerFullWrong : ChangeSpec := { name := "brokerFull", fn := fun _ => fun
  | [d1, d2, d3] => { results := [.lit (.bool false)], args := [d1, d2, d3] }
  | _ => none }
def BrokerFullWrongFalsely : Prop := brokerFullRow.holds Tryz.pinned (OpenSpec.ofChange brokerFullWrong)

/-- 'aqueductlaw19.BrokerOnce': WHATEVER THE INPUT: true; the input reads as it did. -/
def brokerOnceSpec : ChangeSpec := { name := "brokerOnce", fn := fun _ => fun
  | [d1, d2] => { results := [.lit (.bool true)], args := [d1, d2] }
  | _ => none }
def brokerOnceRow : OpenClaim := { program := "ytidlldnlphdhcaagreatdoor", sum := "c6fba636b568302836c0e4e067cbbf004c42974477c64db9024811824378b74e", func := "aqueduct/aqueductlaw19.BrokerOnce", spec := "brokerOnce", inPlace := ["internal/abi.NoEscape", "internal/bytealg.MakeNoZero", "internal/bytealg.abigen_runtime_cmpstring", "internal/bytealg.CountString", "internal/bytealg.IndexByteString", "internal/bytealg.IndexString"], unfollowed := true, recurses := true, named := ["unicode/utf8.first", "unicode/utf8.acceptRanges", "internal/bytealg.MaxLen"], apart := false, laid := [("unicode/utf8.acceptRanges", laid_unicode_utf8_acceptRanges), ("unicode/utf8.first", laid_unicode_utf8_first)] }
def BrokerOnceSaid : Prop := brokerOnceRow.holds Tryz.pinned (OpenSpec.ofChange brokerOnceSpec)

/-- ITS FALSE NEIGHBOUR: 'it returns false'. Refute it at one input. -/
def brokerOnceWrong : ChangeSpec := { name := "brokerOnce", fn := fun _ => fun
  | [d1, d2] => { results := [.lit (.bool false)], args := [d1, d2] }
  | _ => none }
def BrokerOnceWrongFalsely : Prop := brokerOnceRow.holds Tryz.pinned (OpenSpec.ofChange brokerOnceWrong)

/-- 'aqueductlaw19.BrokerPlays': WHATEVER THE INPUT: true; the input reads as it did. -/
def brokerPlaysSpec : ChangeSpec := { name := "brokerPlays", fn := fun _ => fun
  | [d] => { results := [.lit (.bool true)], args := [d] }
  | _ => none }
def brokerPlaysRow : OpenClaim := { program := "ytidlldnlphdhcaagreatdoor", sum := "c6fba636b568302836c0e4e067cbbf004c42974477c64db9024811824378b74e", func := "aqueduct/aqueductlaw19.BrokerPlays", spec := "brokerPlays", inPlace := ["internal/bytealg.CountString", "internal/bytealg.IndexByteString", "internal/bytealg.IndexString", "internal/abi.NoEscape", "internal/bytealg.MakeNoZero", "internal/bytealg.abigen_runtime_cmpstring"], unfollowed := true, recurses := true, named := ["unicode/utf8.first", "unicode/utf8.acceptRanges", "internal/bytealg.MaxLen"], apart := false, laid := [("unicode/utf8.acceptRanges", laid_unicode_utf8_acceptRanges), ("unicode/utf8.first", laid_unicode_utf8_first)] }
def BrokerPlaysSaid : Prop := brokerPlaysRow.holds Tryz.pinned (OpenSpec.ofChange brokerPlaysSpec)

/-- ITS FALSE NEIGHBOUR: 'it returns false'. Refute it at one input. -/
def brokerPlaysWrong : ChangeSpec := { name := "brokerPlays", fn := fun _ => fun
  | [d] => { results := [.lit (.bool false)], args := [d] }
  | _ => none }
def BrokerPlaysWrongFalsely : Prop := brokerPlaysRow.holds Tryz.pinned (OpenSpec.ofChange brokerPlaysWrong)

/-- 'aqueductlaw19.BrokerNil': WHATEVER THE INPUT: true; the input reads as it did. -/
def brokerNilSpec : ChangeSpec := { name := "brokerNil", fn := fun _ => fun
  | [d] => { results := [.lit (.bool true)], args := [d] }
  | _ => none }
def brokerNilRow : OpenClaim := { program := "ytidlldnlphdhcaagreatdoor", sum := "c6fba636b568302836c0e4e067cbbf004c42974477c64db9024811824378b74e", func := "aqueduct/aqueductlaw19.BrokerNil", spec := "brokerNil", inPlace := ["internal/bytealg.CountString", "internal/bytealg.IndexByteString", "internal/bytealg.IndexString", "internal/abi.NoEscape", "internal/bytealg.MakeNoZero", "internal/bytealg.abigen_runtime_cmpstring"], unfollowed := true, recurses := true, named := ["unicode/utf8.first", "unicode/utf8.acceptRanges", "internal/bytealg.MaxLen"], apart := false, laid := [("unicode/utf8.acceptRanges", laid_unicode_utf8_acceptRanges), ("unicode/utf8.first", laid_unicode_utf8_first)] }
def BrokerNilSaid : Prop := brokerNilRow.holds Tryz.pinned (OpenSpec.ofChange brokerNilSpec)

/-- ITS FALSE NEIGHBOUR: 'it returns false'. Refute it at one input. -/
def brokerNilWrong : ChangeSpec := { name := "brokerNil", fn := fun _ => fun
  | [d] => { results := [.lit (.bool false)], args := [d] }
  | _ => none }
def BrokerNilWrongFalsely : Prop := brokerNilRow.holds Tryz.pinned (OpenSpec.ofChange brokerNilWrong)

/- THE SECOND FORM. 'bulk': how many values and letters a reading holds, each counted each time it is reached (what is shared counts as often as it is met; a slice's spare places count too). A statement '..UptoSaid' is the law's where the arguments, and the package variables that the reading takes, are together of bulk at most 1048576: NARROWER than '..Said'. Prove '..Said' where nothing that the law and all that it calls make is longer than what came in: it says more and counts as full. Else prove '..UptoSaid'. A law counts once. -/
mutual
def uptoBulk {H : Type} : DataW H → Nat
  | .lit (.string bytes) => bytes.length + 1
  | .lit _ => 1
  | .nil => 1
  | .ptr d => uptoBulk d + 1
  | .slice elems spare => uptoBulkAll elems + uptoBulkAll spare + 1
  | .agg parts => uptoBulkAll parts + 1
  | .iface _ d => uptoBulk d + 1
  | .map entries => uptoBulkEntries entries + 1
  | .held _ => 1
def uptoBulkAll {H : Type} : List (DataW H) → Nat
  | [] => 0
  | d :: r => uptoBulk d + uptoBulkAll r
def uptoBulkEntries {H : Type} : List (Lit × DataW H) → Nat
  | [] => 0
  | x :: r => uptoBulkEntry x + uptoBulkEntries r
def uptoBulkEntry {H : Type} : Lit × DataW H → Nat
  | (.string bytes, d) => bytes.length + uptoBulk d + 1
  | (_, d) => uptoBulk d + 1
 end
def uptoSmall : (H : Type) → List (DataW H) → Bool := fun _ ds => decide (uptoBulkAll ds ≤ 1048576)
def OpenSpec.upto (s : _root_.Go.ChangeSpec) : _root_.Go.OpenSpec := { _root_.Go.OpenSpec.ofChange s with cond := some uptoSmall }

/-- 'aqueductlaw19.BrokerRetains', WHERE WHAT IT READS IS OF BULK AT MOST 1048576: true; the input reads as it did. -/
def brokerRetainsUptoRow : OpenClaim := { program := "ytidlldnlphdhcaagreatdoor", sum := "c6fba636b568302836c0e4e067cbbf004c42974477c64db9024811824378b74e", func := "aqueduct/aqueductlaw19.BrokerRetains", spec := "brokerRetains", inPlace := ["internal/bytealg.CountString", "internal/bytealg.IndexByteString", "internal/bytealg.IndexString", "internal/abi.NoEscape", "internal/bytealg.MakeNoZero", "internal/bytealg.abigen_runtime_cmpstring"], unfollowed := true, recurses := true, named := ["unicode/utf8.first", "unicode/utf8.acceptRanges", "internal/bytealg.MaxLen"], apart := false, laid := [("unicode/utf8.acceptRanges", laid_unicode_utf8_acceptRanges), ("unicode/utf8.first", laid_unicode_utf8_first)], narrowed := true }
def BrokerRetainsUptoSaid : Prop := brokerRetainsUptoRow.holds Tryz.pinned (OpenSpec.upto brokerRetainsSpec)

/-- 'aqueductlaw19.BrokerCloses', WHERE WHAT IT READS IS OF BULK AT MOST 1048576: true; the input reads as it did. -/
def brokerClosesUptoRow : OpenClaim := { program := "ytidlldnlphdhcaagreatdoor", sum := "c6fba636b568302836c0e4e067cbbf004c42974477c64db9024811824378b74e", func := "aqueduct/aqueductlaw19.BrokerCloses", spec := "brokerCloses", inPlace := ["internal/abi.NoEscape", "internal/bytealg.MakeNoZero", "internal/bytealg.abigen_runtime_cmpstring", "internal/bytealg.CountString", "internal/bytealg.IndexByteString", "internal/bytealg.IndexString"], unfollowed := true, recurses := true, named := ["unicode/utf8.first", "unicode/utf8.acceptRanges", "internal/bytealg.MaxLen"], apart := false, laid := [("unicode/utf8.acceptRanges", laid_unicode_utf8_acceptRanges), ("unicode/utf8.first", laid_unicode_utf8_first)], narrowed := true }
def BrokerClosesUptoSaid : Prop := brokerClosesUptoRow.holds Tryz.pinned (OpenSpec.upto brokerClosesSpec)

/-- 'aqueductlaw19.BrokerFull', WHERE WHAT IT READS IS OF BULK AT MOST 1048576: true; the input reads as it did. -/
def brokerFullUptoRow : OpenClaim := { program := "ytidlldnlphdhcaagreatdoor", sum := "c6fba636b568302836c0e4e067cbbf004c42974477c64db9024811824378b74e", func := "aqueduct/aqueductlaw19.BrokerFull", spec := "brokerFull", inPlace := ["internal/abi.NoEscape", "internal/bytealg.MakeNoZero", "internal/bytealg.abigen_runtime_cmpstring", "internal/bytealg.CountString", "internal/bytealg.IndexByteString", "internal/bytealg.IndexString"], unfollowed := true, recurses := true, named := ["unicode/utf8.first", "unicode/utf8.acceptRanges", "internal/bytealg.MaxLen"], apart := false, laid := [("unicode/utf8.acceptRanges", laid_unicode_utf8_acceptRanges), ("unicode/utf8.first", laid_unicode_utf8_first)], narrowed := true }
def BrokerFullUptoSaid : Prop := brokerFullUptoRow.holds Tryz.pinned (OpenSpec.upto brokerFullSpec)

/-- 'aqueductlaw19.BrokerOnce', WHERE WHAT IT READS IS OF BULK AT MOST 1048576: true; the input reads as it did. -/
def brokerOnceUptoRow : OpenClaim := { program := "ytidlldnlphdhcaagreatdoor", sum := "c6fba636b568302836c0e4e067cbbf004c42974477c64db9024811824378b74e", func := "aqueduct/aqueductlaw19.BrokerOnce", spec := "brokerOnce", inPlace := ["internal/abi.NoEscape", "internal/bytealg.MakeNoZero", "internal/bytealg.abigen_runtime_cmpstring", "internal/bytealg.CountString", "internal/bytealg.IndexByteString", "internal/bytealg.IndexString"], unfollowed := true, recurses := true, named := ["unicode/utf8.first", "unicode/utf8.acceptRanges", "internal/bytealg.MaxLen"], apart := false, laid := [("unicode/utf8.acceptRanges", laid_unicode_utf8_acceptRanges), ("unicode/utf8.first", laid_unicode_utf8_first)], narrowed := true }
def BrokerOnceUptoSaid : Prop := brokerOnceUptoRow.holds Tryz.pinned (OpenSpec.upto brokerOnceSpec)

/-- 'aqueductlaw19.BrokerPlays', WHERE WHAT IT READS IS OF BULK AT MOST 1048576: true; the input reads as it did. -/
def brokerPlaysUptoRow : OpenClaim := { program := "ytidlldnlphdhcaagreatdoor", sum := "c6fba636b568302836c0e4e067cbbf004c42974477c64db9024811824378b74e", func := "aqueduct/aqueductlaw19.BrokerPlays", spec := "brokerPlays", inPlace := ["internal/bytealg.CountString", "internal/bytealg.IndexByteString", "internal/bytealg.IndexString", "internal/abi.NoEscape", "internal/bytealg.MakeNoZero", "internal/bytealg.abigen_runtime_cmpstring"], unfollowed := true, recurses := true, named := ["unicode/utf8.first", "unicode/utf8.acceptRanges", "internal/bytealg.MaxLen"], apart := false, laid := [("unicode/utf8.acceptRanges", laid_unicode_utf8_acceptRanges), ("unicode/utf8.first", laid_unicode_utf8_first)], narrowed := true }
def BrokerPlaysUptoSaid : Prop := brokerPlaysUptoRow.holds Tryz.pinned (OpenSpec.upto brokerPlaysSpec)

/-- 'aqueductlaw19.BrokerNil', WHERE WHAT IT READS IS OF BULK AT MOST 1048576: true; the input reads as it did. -/
def brokerNilUptoRow : OpenClaim := { program := "ytidlldnlphdhcaagreatdoor", sum := "c6fba636b568302836c0e4e067cbbf004c42974477c64db9024811824378b74e", func := "aqueduct/aqueductlaw19.BrokerNil", spec := "brokerNil", inPlace := ["internal/bytealg.CountString", "internal/bytealg.IndexByteString", "internal/bytealg.IndexString", "internal/abi.NoEscape", "internal/bytealg.MakeNoZero", "internal/bytealg.abigen_runtime_cmpstring"], unfollowed := true, recurses := true, named := ["unicode/utf8.first", "unicode/utf8.acceptRanges", "internal/bytealg.MaxLen"], apart := false, laid := [("unicode/utf8.acceptRanges", laid_unicode_utf8_acceptRanges), ("unicode/utf8.first", laid_unicode_utf8_first)], narrowed := true }
def BrokerNilUptoSaid : Prop := brokerNilUptoRow.holds Tryz.pinned (OpenSpec.upto brokerNilSpec)

end Rows
end Go.Proofs.YtidlldnlphdhcaaGreatDoor
