/-
  NARROWER THAN 'FOR EVERY INPUT', by the rows' own cells (each row's printed sentence says how): RetainPlays: laid · RetainLast: laid · RetainNil: laid · AdvertBytes: laid · AdvertBack: laid · AdvertNewest: laid · AdvertPlays: laid · AdvertApart: laid · BridgeDelays: laid.
  DERIVED. THE GIVEN ROWS OF THIS SEAT. 9 by the template 'for every input the law returns true; each argument reads behind the call as it read before'; 0 by the template 'total and deterministic' (their statements: YtmdagnoknmfhcaaDoorTotals.lean).
  GIVEN WITH THE SEED: the statements are not yours to turn. If you find one false, say at which input.
  Laid BY PROGRAM, IN A SANDBOX (cutbox-rows.mjs): the forced cells as the released guide's own fill.sh prints them over the translation e5864e2ec05d4e6b… (all of the seat's roots in one cut). By AI agents, Wed Nov 11 2026. No macro, syntax, notation, axiom, sorry.
-/
import Derived.Test.YtmdagnoknmfhcaaDoorChecked
import GoSem.PinnedTables
import GoSem.Claim
import GoSem.ClaimJoined
import GoSem.ClaimMapViews
import Derived.JoinedTies
import Derived.KernelRfl
namespace Go.Proofs.YtmdagnoknmfhcaaDoor
/- THE CELL 'sum', in the pinned program and in every row, IS THE sha256 OF THE DUMP (.gsa) THAT YtmdagnoknmfhcaaDoorProg.lean LOADS. Nothing in Lean hashes anything: it is a label: what it is worth is what the hold of that sum in a sandbox is worth. -/
noncomputable def Tryd.pinned : Pinned := { name := "ytmdagnoknmfhcaadoor", sum := "e5864e2ec05d4e6bc2fba9d7a693c5f75b3671f218eed7a74be0ae502d9521b7", checked := Tryd.checked }
namespace Rows
def none {H : Type} : Left H := { results := [], args := [] }

/- WHAT THE LISTED PACKAGE-LEVEL VARIABLES READ AS WHEN THE CALL BEGINS. Each datum BY PROGRAM (the guide's laid-datum.mjs) off the statement by which the dump's own 'gosem.cut.vars' lays the variable. In a bare row this is a premise. The card (YtmdagnoknmfhcaaDoorCards.lean) ties it to the program's text. -/
def laid_unicode_utf8_acceptRanges {H : Type} : DataW H := .agg [.agg [.lit (.int .u8 128), .lit (.int .u8 191)], .agg [.lit (.int .u8 160), .lit (.int .u8 191)], .agg [.lit (.int .u8 128), .lit (.int .u8 159)], .agg [.lit (.int .u8 144), .lit (.int .u8 191)], .agg [.lit (.int .u8 128), .lit (.int .u8 143)], .agg [.lit (.int .u8 0), .lit (.int .u8 0)], .agg [.lit (.int .u8 0), .lit (.int .u8 0)], .agg [.lit (.int .u8 0), .lit (.int .u8 0)], .agg [.lit (.int .u8 0), .lit (.int .u8 0)], .agg [.lit (.int .u8 0), .lit (.int .u8 0)], .agg [.lit (.int .u8 0), .lit (.int .u8 0)], .agg [.lit (.int .u8 0), .lit (.int .u8 0)], .agg [.lit (.int .u8 0), .lit (.int .u8 0)], .agg [.lit (.int .u8 0), .lit (.int .u8 0)], .agg [.lit (.int .u8 0), .lit (.int .u8 0)], .agg [.lit (.int .u8 0), .lit (.int .u8 0)]]
/-- One of Go's own tables, pinned by name: the form's constant. -/
def laid_unicode_utf8_first : DataW Unit := Go.Pinned.utf8First
def laid_math_bits_deBruijn32tab {H : Type} : DataW H := .agg [.lit (.int .u8 0), .lit (.int .u8 1), .lit (.int .u8 28), .lit (.int .u8 2), .lit (.int .u8 29), .lit (.int .u8 14), .lit (.int .u8 24), .lit (.int .u8 3), .lit (.int .u8 30), .lit (.int .u8 22), .lit (.int .u8 20), .lit (.int .u8 15), .lit (.int .u8 25), .lit (.int .u8 17), .lit (.int .u8 4), .lit (.int .u8 8), .lit (.int .u8 31), .lit (.int .u8 27), .lit (.int .u8 13), .lit (.int .u8 23), .lit (.int .u8 21), .lit (.int .u8 19), .lit (.int .u8 16), .lit (.int .u8 7), .lit (.int .u8 26), .lit (.int .u8 12), .lit (.int .u8 18), .lit (.int .u8 6), .lit (.int .u8 11), .lit (.int .u8 5), .lit (.int .u8 10), .lit (.int .u8 9)]
def laid_math_bits_deBruijn64tab {H : Type} : DataW H := .agg [.lit (.int .u8 0), .lit (.int .u8 1), .lit (.int .u8 56), .lit (.int .u8 2), .lit (.int .u8 57), .lit (.int .u8 49), .lit (.int .u8 28), .lit (.int .u8 3), .lit (.int .u8 61), .lit (.int .u8 58), .lit (.int .u8 42), .lit (.int .u8 50), .lit (.int .u8 38), .lit (.int .u8 29), .lit (.int .u8 17), .lit (.int .u8 4), .lit (.int .u8 62), .lit (.int .u8 47), .lit (.int .u8 59), .lit (.int .u8 36), .lit (.int .u8 45), .lit (.int .u8 43), .lit (.int .u8 51), .lit (.int .u8 22), .lit (.int .u8 53), .lit (.int .u8 39), .lit (.int .u8 33), .lit (.int .u8 30), .lit (.int .u8 24), .lit (.int .u8 18), .lit (.int .u8 12), .lit (.int .u8 5), .lit (.int .u8 63), .lit (.int .u8 55), .lit (.int .u8 48), .lit (.int .u8 27), .lit (.int .u8 60), .lit (.int .u8 41), .lit (.int .u8 37), .lit (.int .u8 16), .lit (.int .u8 46), .lit (.int .u8 35), .lit (.int .u8 44), .lit (.int .u8 21), .lit (.int .u8 52), .lit (.int .u8 32), .lit (.int .u8 23), .lit (.int .u8 11), .lit (.int .u8 54), .lit (.int .u8 26), .lit (.int .u8 40), .lit (.int .u8 15), .lit (.int .u8 34), .lit (.int .u8 20), .lit (.int .u8 31), .lit (.int .u8 10), .lit (.int .u8 25), .lit (.int .u8 14), .lit (.int .u8 19), .lit (.int .u8 9), .lit (.int .u8 13), .lit (.int .u8 8), .lit (.int .u8 7), .lit (.int .u8 6)]
def laid_internal_strconv_uint64pow10 {H : Type} : DataW H := .agg [.lit (.int .u64 1), .lit (.int .u64 10), .lit (.int .u64 100), .lit (.int .u64 1000), .lit (.int .u64 10000), .lit (.int .u64 100000), .lit (.int .u64 1000000), .lit (.int .u64 10000000), .lit (.int .u64 100000000), .lit (.int .u64 1000000000), .lit (.int .u64 10000000000), .lit (.int .u64 100000000000), .lit (.int .u64 1000000000000), .lit (.int .u64 10000000000000), .lit (.int .u64 100000000000000), .lit (.int .u64 1000000000000000), .lit (.int .u64 10000000000000000), .lit (.int .u64 100000000000000000), .lit (.int .u64 1000000000000000000), .lit (.int .u64 10000000000000000000)]

/-- 'aqueductlaw17.RetainPlays': WHATEVER THE INPUT: true; the input reads as it did. -/
def retainPlaysSpec : ChangeSpec := { name := "retainPlays", fn := fun _ => fun
  | [d1, d2, d3] => { results := [.lit (.bool true)], args := [d1, d2, d3] }
  | _ => none }
def retainPlaysRow : OpenClaim := { program := "ytmdagnoknmfhcaadoor", sum := "e5864e2ec05d4e6bc2fba9d7a693c5f75b3671f218eed7a74be0ae502d9521b7", func := "aqueduct/aqueductlaw17.RetainPlays", spec := "retainPlays", inPlace := ["internal/bytealg.CountString", "internal/bytealg.IndexByteString", "internal/bytealg.IndexString"], unfollowed := true, recurses := true, named := ["unicode/utf8.first", "unicode/utf8.acceptRanges", "internal/bytealg.MaxLen"], apart := false, laid := [("unicode/utf8.acceptRanges", laid_unicode_utf8_acceptRanges), ("unicode/utf8.first", laid_unicode_utf8_first)] }
def RetainPlaysSaid : Prop := retainPlaysRow.holds Tryd.pinned (OpenSpec.ofChange retainPlaysSpec)

/-- ITS FALSE NEIGHBOUR: 'it returns false'. Refute it at one input. -/
def retainPlaysWrong : ChangeSpec := { name := "retainPlays", fn := fun _ => fun
  | [d1, d2, d3] => { results := [.lit (.bool false)], args := [d1, d2, d3] }
  | _ => none }
def RetainPlaysWrongFalsely : Prop := retainPlaysRow.holds Tryd.pinned (OpenSpec.ofChange retainPlaysWrong)

/-- 'aqueductlaw17.RetainLast': WHATEVER THE INPUT: true; the input reads as it did. -/
def retainLastSpec : ChangeSpec := { name := "retainLast", fn := fun _ => fun
  | [d1, d2, d3] => { results := [.lit (.bool true)], args := [d1, d2, d3] }
  | _ => none }
def retainLastRow : OpenClaim := { program := "ytmdagnoknmfhcaadoor", sum := "e5864e2ec05d4e6bc2fba9d7a693c5f75b3671f218eed7a74be0ae502d9521b7", func := "aqueduct/aqueductlaw17.RetainLast", spec := "retainLast", inPlace := ["internal/bytealg.CountString", "internal/bytealg.IndexByteString", "internal/bytealg.IndexString"], unfollowed := true, recurses := true, named := ["unicode/utf8.first", "unicode/utf8.acceptRanges", "internal/bytealg.MaxLen"], apart := false, laid := [("unicode/utf8.acceptRanges", laid_unicode_utf8_acceptRanges), ("unicode/utf8.first", laid_unicode_utf8_first)] }
def RetainLastSaid : Prop := retainLastRow.holds Tryd.pinned (OpenSpec.ofChange retainLastSpec)

/-- ITS FALSE NEIGHBOUR: 'it returns false'. Refute it at one input. -/
def retainLastWrong : ChangeSpec := { name := "retainLast", fn := fun _ => fun
  | [d1, d2, d3] => { results := [.lit (.bool false)], args := [d1, d2, d3] }
  | _ => none }
def RetainLastWrongFalsely : Prop := retainLastRow.holds Tryd.pinned (OpenSpec.ofChange retainLastWrong)

/-- 'aqueductlaw17.RetainNil': WHATEVER THE INPUT: true; the input reads as it did. -/
def retainNilSpec : ChangeSpec := { name := "retainNil", fn := fun _ => fun
  | [d] => { results := [.lit (.bool true)], args := [d] }
  | _ => none }
def retainNilRow : OpenClaim := { program := "ytmdagnoknmfhcaadoor", sum := "e5864e2ec05d4e6bc2fba9d7a693c5f75b3671f218eed7a74be0ae502d9521b7", func := "aqueduct/aqueductlaw17.RetainNil", spec := "retainNil", inPlace := ["internal/bytealg.CountString", "internal/bytealg.IndexByteString", "internal/bytealg.IndexString"], unfollowed := true, recurses := true, named := ["unicode/utf8.first", "unicode/utf8.acceptRanges", "internal/bytealg.MaxLen"], apart := false, laid := [("unicode/utf8.acceptRanges", laid_unicode_utf8_acceptRanges), ("unicode/utf8.first", laid_unicode_utf8_first)] }
def RetainNilSaid : Prop := retainNilRow.holds Tryd.pinned (OpenSpec.ofChange retainNilSpec)

/-- ITS FALSE NEIGHBOUR: 'it returns false'. Refute it at one input. -/
def retainNilWrong : ChangeSpec := { name := "retainNil", fn := fun _ => fun
  | [d] => { results := [.lit (.bool false)], args := [d] }
  | _ => none }
def RetainNilWrongFalsely : Prop := retainNilRow.holds Tryd.pinned (OpenSpec.ofChange retainNilWrong)

/-- 'aqueductlaw21.AdvertBytes': WHATEVER THE INPUT: true; the input reads as it did. -/
def advertBytesSpec : ChangeSpec := { name := "advertBytes", fn := fun _ => fun
  | [d1, d2] => { results := [.lit (.bool true)], args := [d1, d2] }
  | _ => none }
def advertBytesRow : OpenClaim := { program := "ytmdagnoknmfhcaadoor", sum := "e5864e2ec05d4e6bc2fba9d7a693c5f75b3671f218eed7a74be0ae502d9521b7", func := "aqueduct/aqueductlaw21.AdvertBytes", spec := "advertBytes", inPlace := ["internal/bytealg.CountString", "internal/bytealg.IndexByteString", "internal/bytealg.IndexString", "internal/abi.NoEscape"], unfollowed := true, recurses := true, named := ["unicode/utf8.first", "unicode/utf8.acceptRanges", "internal/bytealg.MaxLen"], apart := false, laid := [("unicode/utf8.acceptRanges", laid_unicode_utf8_acceptRanges), ("unicode/utf8.first", laid_unicode_utf8_first)] }
def AdvertBytesSaid : Prop := advertBytesRow.holds Tryd.pinned (OpenSpec.ofChange advertBytesSpec)

/-- ITS FALSE NEIGHBOUR: 'it returns false'. Refute it at one input. -/
def advertBytesWrong : ChangeSpec := { name := "advertBytes", fn := fun _ => fun
  | [d1, d2] => { results := [.lit (.bool false)], args := [d1, d2] }
  | _ => none }
def AdvertBytesWrongFalsely : Prop := advertBytesRow.holds Tryd.pinned (OpenSpec.ofChange advertBytesWrong)

/-- 'aqueductlaw21.AdvertBack': WHATEVER THE INPUT: true; the input reads as it did. -/
def advertBackSpec : ChangeSpec := { name := "advertBack", fn := fun _ => fun
  | [d1, d2, d3] => { results := [.lit (.bool true)], args := [d1, d2, d3] }
  | _ => none }
def advertBackRow : OpenClaim := { program := "ytmdagnoknmfhcaadoor", sum := "e5864e2ec05d4e6bc2fba9d7a693c5f75b3671f218eed7a74be0ae502d9521b7", func := "aqueduct/aqueductlaw21.AdvertBack", spec := "advertBack", inPlace := ["internal/bytealg.CountString", "internal/bytealg.IndexByteString", "internal/bytealg.IndexString", "internal/abi.NoEscape"], unfollowed := true, recurses := true, named := ["unicode/utf8.first", "unicode/utf8.acceptRanges", "internal/bytealg.MaxLen"], apart := false, laid := [("unicode/utf8.acceptRanges", laid_unicode_utf8_acceptRanges), ("unicode/utf8.first", laid_unicode_utf8_first)] }
def AdvertBackSaid : Prop := advertBackRow.holds Tryd.pinned (OpenSpec.ofChange advertBackSpec)

/-- ITS FALSE NEIGHBOUR: 'it returns false'. Refute it at one input. -/
def advertBackWrong : ChangeSpec := { name := "advertBack", fn := fun _ => fun
  | [d1, d2, d3] => { results := [.lit (.bool false)], args := [d1, d2, d3] }
  | _ => none }
def AdvertBackWrongFalsely : Prop := advertBackRow.holds Tryd.pinned (OpenSpec.ofChange advertBackWrong)

/-- 'aqueductlaw21.AdvertNewest': WHATEVER THE INPUT: true; the input reads as it did. -/
def advertNewestSpec : ChangeSpec := { name := "advertNewest", fn := fun _ => fun
  | [d1, d2] => { results := [.lit (.bool true)], args := [d1, d2] }
  | _ => none }
def advertNewestRow : OpenClaim := { program := "ytmdagnoknmfhcaadoor", sum := "e5864e2ec05d4e6bc2fba9d7a693c5f75b3671f218eed7a74be0ae502d9521b7", func := "aqueduct/aqueductlaw21.AdvertNewest", spec := "advertNewest", inPlace := ["internal/bytealg.CountString", "internal/bytealg.IndexByteString", "internal/bytealg.IndexString", "internal/abi.NoEscape"], unfollowed := true, recurses := true, named := ["unicode/utf8.first", "unicode/utf8.acceptRanges", "internal/bytealg.MaxLen"], apart := false, laid := [("unicode/utf8.acceptRanges", laid_unicode_utf8_acceptRanges), ("unicode/utf8.first", laid_unicode_utf8_first)] }
def AdvertNewestSaid : Prop := advertNewestRow.holds Tryd.pinned (OpenSpec.ofChange advertNewestSpec)

/-- ITS FALSE NEIGHBOUR: 'it returns false'. Refute it at one input. -/
def advertNewestWrong : ChangeSpec := { name := "advertNewest", fn := fun _ => fun
  | [d1, d2] => { results := [.lit (.bool false)], args := [d1, d2] }
  | _ => none }
def AdvertNewestWrongFalsely : Prop := advertNewestRow.holds Tryd.pinned (OpenSpec.ofChange advertNewestWrong)

/-- 'aqueductlaw21.AdvertPlays': WHATEVER THE INPUT: true; the input reads as it did. -/
def advertPlaysSpec : ChangeSpec := { name := "advertPlays", fn := fun _ => fun
  | [d1, d2] => { results := [.lit (.bool true)], args := [d1, d2] }
  | _ => none }
def advertPlaysRow : OpenClaim := { program := "ytmdagnoknmfhcaadoor", sum := "e5864e2ec05d4e6bc2fba9d7a693c5f75b3671f218eed7a74be0ae502d9521b7", func := "aqueduct/aqueductlaw21.AdvertPlays", spec := "advertPlays", inPlace := ["internal/bytealg.CountString", "internal/bytealg.IndexByteString", "internal/bytealg.IndexString", "internal/abi.NoEscape"], unfollowed := true, recurses := true, named := ["unicode/utf8.first", "unicode/utf8.acceptRanges", "internal/bytealg.MaxLen"], apart := false, laid := [("unicode/utf8.acceptRanges", laid_unicode_utf8_acceptRanges), ("unicode/utf8.first", laid_unicode_utf8_first)] }
def AdvertPlaysSaid : Prop := advertPlaysRow.holds Tryd.pinned (OpenSpec.ofChange advertPlaysSpec)

/-- ITS FALSE NEIGHBOUR: 'it returns false'. Refute it at one input. -/
def advertPlaysWrong : ChangeSpec := { name := "advertPlays", fn := fun _ => fun
  | [d1, d2] => { results := [.lit (.bool false)], args := [d1, d2] }
  | _ => none }
def AdvertPlaysWrongFalsely : Prop := advertPlaysRow.holds Tryd.pinned (OpenSpec.ofChange advertPlaysWrong)

/-- 'aqueductlaw21.AdvertApart': WHATEVER THE INPUT: true; the input reads as it did. -/
def advertApartSpec : ChangeSpec := { name := "advertApart", fn := fun _ => fun
  | [d] => { results := [.lit (.bool true)], args := [d] }
  | _ => none }
def advertApartRow : OpenClaim := { program := "ytmdagnoknmfhcaadoor", sum := "e5864e2ec05d4e6bc2fba9d7a693c5f75b3671f218eed7a74be0ae502d9521b7", func := "aqueduct/aqueductlaw21.AdvertApart", spec := "advertApart", inPlace := ["internal/bytealg.CountString", "internal/bytealg.IndexByteString", "internal/bytealg.IndexString", "internal/abi.NoEscape"], unfollowed := true, recurses := true, named := ["unicode/utf8.first", "unicode/utf8.acceptRanges", "internal/bytealg.MaxLen"], apart := false, laid := [("unicode/utf8.acceptRanges", laid_unicode_utf8_acceptRanges), ("unicode/utf8.first", laid_unicode_utf8_first)] }
def AdvertApartSaid : Prop := advertApartRow.holds Tryd.pinned (OpenSpec.ofChange advertApartSpec)

/-- ITS FALSE NEIGHBOUR: 'it returns false'. Refute it at one input. -/
def advertApartWrong : ChangeSpec := { name := "advertApart", fn := fun _ => fun
  | [d] => { results := [.lit (.bool false)], args := [d] }
  | _ => none }
def AdvertApartWrongFalsely : Prop := advertApartRow.holds Tryd.pinned (OpenSpec.ofChange advertApartWrong)

/-- 'aqueductlaw23.BridgeDelays': WHATEVER THE INPUT: true; the input reads as it did. -/
def bridgeDelaysSpec : ChangeSpec := { name := "bridgeDelays", fn := fun _ => fun
  | [d1, d2, d3] => { results := [.lit (.bool true)], args := [d1, d2, d3] }
  | _ => none }
def bridgeDelaysRow : OpenClaim := { program := "ytmdagnoknmfhcaadoor", sum := "e5864e2ec05d4e6bc2fba9d7a693c5f75b3671f218eed7a74be0ae502d9521b7", func := "aqueduct/aqueductlaw23.BridgeDelays", spec := "bridgeDelays", inPlace := ["internal/bytealg.CountString", "internal/bytealg.IndexByteString", "internal/bytealg.IndexString", "internal/abi.NoEscape", "internal/bytealg.MakeNoZero"], unfollowed := true, recurses := true, named := ["unicode/utf8.first", "unicode/utf8.acceptRanges", "internal/bytealg.MaxLen", "internal/strconv.uint64pow10", "math/bits.deBruijn32tab", "math/bits.deBruijn64tab"], apart := false, laid := [("math/bits.deBruijn32tab", laid_math_bits_deBruijn32tab), ("math/bits.deBruijn64tab", laid_math_bits_deBruijn64tab), ("internal/strconv.uint64pow10", laid_internal_strconv_uint64pow10), ("unicode/utf8.acceptRanges", laid_unicode_utf8_acceptRanges), ("unicode/utf8.first", laid_unicode_utf8_first)] }
def BridgeDelaysSaid : Prop := bridgeDelaysRow.holds Tryd.pinned (OpenSpec.ofChange bridgeDelaysSpec)

/-- ITS FALSE NEIGHBOUR: 'it returns false'. Refute it at one input. -/
def bridgeDelaysWrong : ChangeSpec := { name := "bridgeDelays", fn := fun _ => fun
  | [d1, d2, d3] => { results := [.lit (.bool false)], args := [d1, d2, d3] }
  | _ => none }
def BridgeDelaysWrongFalsely : Prop := bridgeDelaysRow.holds Tryd.pinned (OpenSpec.ofChange bridgeDelaysWrong)

/- THE SECOND FORM. 'bulk': how many values and letters a reading holds, each counted each time it is reached (what is shared counts as often as it is met; a slice's spare places count too). A statement '..UptoSaid' is the law's where the arguments, and the package variables that the reading takes, are together of bulk at most 1048576: NARROWER than '..Said'. Prove '..Said' where nothing that the law and all that it calls make is longer than what came in: it says more and counts as full. Else prove '..UptoSaid'. A law counts once. -/
mutual
def uptoBulk {H : Type} : DataW H → Nat
  | .lit (.string bytes) => bytes.length + 1
  | .lit _ => 1
  | .nil => 1
  | .ptr d => uptoBulk d + 1
  | .slice elems spare => uptoBulkAll elems + uptoBulkAll spare + 1
  | .agg parts => uptoBulkAll parts + 1
  | .iface _ d => uptoBulk d + 1
  | .map entries => uptoBulkEntries entries + 1
  | .held _ => 1
def uptoBulkAll {H : Type} : List (DataW H) → Nat
  | [] => 0
  | d :: r => uptoBulk d + uptoBulkAll r
def uptoBulkEntries {H : Type} : List (Lit × DataW H) → Nat
  | [] => 0
  | x :: r => uptoBulkEntry x + uptoBulkEntries r
def uptoBulkEntry {H : Type} : Lit × DataW H → Nat
  | (.string bytes, d) => bytes.length + uptoBulk d + 1
  | (_, d) => uptoBulk d + 1
 end
def uptoSmall : (H : Type) → List (DataW H) → Bool := fun _ ds => decide (uptoBulkAll ds ≤ 1048576)
def OpenSpec.upto (s : _root_.Go.ChangeSpec) : _root_.Go.OpenSpec := { _root_.Go.OpenSpec.ofChange s with cond := some uptoSmall }

/-- 'aqueductlaw17.RetainPlays', WHERE WHAT IT READS IS OF BULK AT MOST 1048576: true; the input reads as it did. -/
def retainPlaysUptoRow : OpenClaim := { program := "ytmdagnoknmfhcaadoor", sum := "e5864e2ec05d4e6bc2fba9d7a693c5f75b3671f218eed7a74be0ae502d9521b7", func := "aqueduct/aqueductlaw17.RetainPlays", spec := "retainPlays", inPlace := ["internal/bytealg.CountString", "internal/bytealg.IndexByteString", "internal/bytealg.IndexString"], unfollowed := true, recurses := true, named := ["unicode/utf8.first", "unicode/utf8.acceptRanges", "internal/bytealg.MaxLen"], apart := false, laid := [("unicode/utf8.acceptRanges", laid_unicode_utf8_acceptRanges), ("unicode/utf8.first", laid_unicode_utf8_first)], narrowed := true }
def RetainPlaysUptoSaid : Prop := retainPlaysUptoRow.holds Tryd.pinned (OpenSpec.upto retainPlaysSpec)

/-- 'aqueductlaw17.RetainLast', WHERE WHAT IT READS IS OF BULK AT MOST 1048576: true; the input reads as it did. -/
def retainLastUptoRow : OpenClaim := { program := "ytmdagnoknmfhcaadoor", sum := "e5864e2ec05d4e6bc2fba9d7a693c5f75b3671f218eed7a74be0ae502d9521b7", func := "aqueduct/aqueductlaw17.RetainLast", spec := "retainLast", inPlace := ["internal/bytealg.CountString", "internal/bytealg.IndexByteString", "internal/bytealg.IndexString"], unfollowed := true, recurses := true, named := ["unicode/utf8.first", "unicode/utf8.acceptRanges", "internal/bytealg.MaxLen"], apart := false, laid := [("unicode/utf8.acceptRanges", laid_unicode_utf8_acceptRanges), ("unicode/utf8.first", laid_unicode_utf8_first)], narrowed := true }
def RetainLastUptoSaid : Prop := retainLastUptoRow.holds Tryd.pinned (OpenSpec.upto retainLastSpec)

/-- 'aqueductlaw17.RetainNil', WHERE WHAT IT READS IS OF BULK AT MOST 1048576: true; the input reads as it did. -/
def retainNilUptoRow : OpenClaim := { program := "ytmdagnoknmfhcaadoor", sum := "e5864e2ec05d4e6bc2fba9d7a693c5f75b3671f218eed7a74be0ae502d9521b7", func := "aqueduct/aqueductlaw17.RetainNil", spec := "retainNil", inPlace := ["internal/bytealg.CountString", "internal/bytealg.IndexByteString", "internal/bytealg.IndexString"], unfollowed := true, recurses := true, named := ["unicode/utf8.first", "unicode/utf8.acceptRanges", "internal/bytealg.MaxLen"], apart := false, laid := [("unicode/utf8.acceptRanges", laid_unicode_utf8_acceptRanges), ("unicode/utf8.first", laid_unicode_utf8_first)], narrowed := true }
def RetainNilUptoSaid : Prop := retainNilUptoRow.holds Tryd.pinned (OpenSpec.upto retainNilSpec)

/-- 'aqueductlaw21.AdvertBytes', WHERE WHAT IT READS IS OF BULK AT MOST 1048576: true; the input reads as it did. -/
def advertBytesUptoRow : OpenClaim := { program := "ytmdagnoknmfhcaadoor", sum := "e5864e2ec05d4e6bc2fba9d7a693c5f75b3671f218eed7a74be0ae502d9521b7", func := "aqueduct/aqueductlaw21.AdvertBytes", spec := "advertBytes", inPlace := ["internal/bytealg.CountString", "internal/bytealg.IndexByteString", "internal/bytealg.IndexString", "internal/abi.NoEscape"], unfollowed := true, recurses := true, named := ["unicode/utf8.first", "unicode/utf8.acceptRanges", "internal/bytealg.MaxLen"], apart := false, laid := [("unicode/utf8.acceptRanges", laid_unicode_utf8_acceptRanges), ("unicode/utf8.first", laid_unicode_utf8_first)], narrowed := true }
def AdvertBytesUptoSaid : Prop := advertBytesUptoRow.holds Tryd.pinned (OpenSpec.upto advertBytesSpec)

/-- 'aqueductlaw21.AdvertBack', WHERE WHAT IT READS IS OF BULK AT MOST 1048576: true; the input reads as it did. -/
def advertBackUptoRow : OpenClaim := { program := "ytmdagnoknmfhcaadoor", sum := "e5864e2ec05d4e6bc2fba9d7a693c5f75b3671f218eed7a74be0ae502d9521b7", func := "aqueduct/aqueductlaw21.AdvertBack", spec := "advertBack", inPlace := ["internal/bytealg.CountString", "internal/bytealg.IndexByteString", "internal/bytealg.IndexString", "internal/abi.NoEscape"], unfollowed := true, recurses := true, named := ["unicode/utf8.first", "unicode/utf8.acceptRanges", "internal/bytealg.MaxLen"], apart := false, laid := [("unicode/utf8.acceptRanges", laid_unicode_utf8_acceptRanges), ("unicode/utf8.first", laid_unicode_utf8_first)], narrowed := true }
def AdvertBackUptoSaid : Prop := advertBackUptoRow.holds Tryd.pinned (OpenSpec.upto advertBackSpec)

/-- 'aqueductlaw21.AdvertNewest', WHERE WHAT IT READS IS OF BULK AT MOST 1048576: true; the input reads as it did. -/
def advertNewestUptoRow : OpenClaim := { program := "ytmdagnoknmfhcaadoor", sum := "e5864e2ec05d4e6bc2fba9d7a693c5f75b3671f218eed7a74be0ae502d9521b7", func := "aqueduct/aqueductlaw21.AdvertNewest", spec := "advertNewest", inPlace := ["internal/bytealg.CountString", "internal/bytealg.IndexByteString", "internal/bytealg.IndexString", "internal/abi.NoEscape"], unfollowed := true, recurses := true, named := ["unicode/utf8.first", "unicode/utf8.acceptRanges", "internal/bytealg.MaxLen"], apart := false, laid := [("unicode/utf8.acceptRanges", laid_unicode_utf8_acceptRanges), ("unicode/utf8.first", laid_unicode_utf8_first)], narrowed := true }
def AdvertNewestUptoSaid : Prop := advertNewestUptoRow.holds Tryd.pinned (OpenSpec.upto advertNewestSpec)

/-- 'aqueductlaw21.AdvertPlays', WHERE WHAT IT READS IS OF BULK AT MOST 1048576: true; the input reads as it did. -/
def advertPlaysUptoRow : OpenClaim := { program := "ytmdagnoknmfhcaadoor", sum := "e5864e2ec05d4e6bc2fba9d7a693c5f75b3671f218eed7a74be0ae502d9521b7", func := "aqueduct/aqueductlaw21.AdvertPlays", spec := "advertPlays", inPlace := ["internal/bytealg.CountString", "internal/bytealg.IndexByteString", "internal/bytealg.IndexString", "internal/abi.NoEscape"], unfollowed := true, recurses := true, named := ["unicode/utf8.first", "unicode/utf8.acceptRanges", "internal/bytealg.MaxLen"], apart := false, laid := [("unicode/utf8.acceptRanges", laid_unicode_utf8_acceptRanges), ("unicode/utf8.first", laid_unicode_utf8_first)], narrowed := true }
def AdvertPlaysUptoSaid : Prop := advertPlaysUptoRow.holds Tryd.pinned (OpenSpec.upto advertPlaysSpec)

/-- 'aqueductlaw21.AdvertApart', WHERE WHAT IT READS IS OF BULK AT MOST 1048576: true; the input reads as it did. -/
def advertApartUptoRow : OpenClaim := { program := "ytmdagnoknmfhcaadoor", sum := "e5864e2ec05d4e6bc2fba9d7a693c5f75b3671f218eed7a74be0ae502d9521b7", func := "aqueduct/aqueductlaw21.AdvertApart", spec := "advertApart", inPlace := ["internal/bytealg.CountString", "internal/bytealg.IndexByteString", "internal/bytealg.IndexString", "internal/abi.NoEscape"], unfollowed := true, recurses := true, named := ["unicode/utf8.first", "unicode/utf8.acceptRanges", "internal/bytealg.MaxLen"], apart := false, laid := [("unicode/utf8.acceptRanges", laid_unicode_utf8_acceptRanges), ("unicode/utf8.first", laid_unicode_utf8_first)], narrowed := true }
def AdvertApartUptoSaid : Prop := advertApartUptoRow.holds Tryd.pinned (OpenSpec.upto advertApartSpec)

/-- 'aqueductlaw23.BridgeDelays', WHERE WHAT IT READS IS OF BULK AT MOST 1048576: true; the input reads as it did. -/
def bridgeDelaysUptoRow : OpenClaim := { program := "ytmdagnoknmfhcaadoor", sum := "e5864e2ec05d4e6bc2fba9d7a693c5f75b3671f218eed7a74be0ae502d9521b7", func := "aqueduct/aqueductlaw23.BridgeDelays", spec := "bridgeDelays", inPlace := ["internal/bytealg.CountString", "internal/bytealg.IndexByteString", "internal/bytealg.IndexString", "internal/abi.NoEscape", "internal/bytealg.MakeNoZero"], unfollowed := true, recurses := true, named := ["unicode/utf8.first", "unicode/utf8.acceptRanges", "internal/bytealg.MaxLen", "internal/strconv.uint64pow10", "math/bits.deBruijn32tab", "math/bits.deBruijn64tab"], apart := false, laid := [("math/bits.deBruijn32tab", laid_math_bits_deBruijn32tab), ("math/bits.deBruijn64tab", laid_math_bits_deBruijn64tab), ("internal/strconv.uint64pow10", laid_internal_strconv_uint64pow10), ("unicode/utf8.acceptRanges", laid_unicode_utf8_acceptRanges), ("unicode/utf8.first", laid_unicode_utf8_first)], narrowed := true }
def BridgeDelaysUptoSaid : Prop := bridgeDelaysUptoRow.holds Tryd.pinned (OpenSpec.upto bridgeDelaysSpec)

end Rows
end Go.Proofs.YtmdagnoknmfhcaaDoor
