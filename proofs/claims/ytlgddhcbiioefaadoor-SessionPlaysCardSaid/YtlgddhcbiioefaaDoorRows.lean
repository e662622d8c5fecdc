/-
  NARROWER THAN 'FOR EVERY INPUT', by the rows' own cells (each row's printed sentence says how): SessionKeeps: laid · SessionUnique: laid · SessionNil: laid · SessionPlays: laid · TagsOnce: laid · TagsPlays: laid · TagsNil: laid · TagsTexts: laid · TagsBack: laid.
  DERIVED. THE GIVEN ROWS OF THIS SEAT. 9 by the template 'for every input the law returns true; each argument reads behind the call as it read before'; 0 by the template 'total and deterministic' (their statements: YtlgddhcbiioefaaDoorTotals.lean).
  GIVEN WITH THE SEED: the statements are not yours to turn. If you find one false, say at which input.
  Laid BY PROGRAM, IN A SANDBOX (cutbox-rows.mjs): the forced cells as the released guide's own fill.sh prints them over the translation 3377e3e4e9aac325… (all of the seat's roots in one cut). By AI agents, Wed Nov 11 2026. No macro, syntax, notation, axiom, sorry.
-/
import Derived.Test.YtlgddhcbiioefaaDoorChecked
import GoSem.PinnedTables
import GoSem.Claim
import GoSem.ClaimJoined
import GoSem.ClaimMapViews
import Derived.JoinedTies
import Derived.KernelRfl
namespace Go.Proofs.YtlgddhcbiioefaaDoor
/- THE CELL 'sum', in the pinned program and in every row, IS THE sha256 OF THE DUMP (.gsa) THAT YtlgddhcbiioefaaDoorProg.lean LOADS. Nothing in Lean hashes anything: it is a label: what it is worth is what the hold of that sum in a sandbox is worth. -/
noncomputable def Tryd.pinned : Pinned := { name := "ytlgddhcbiioefaadoor", sum := "3377e3e4e9aac32553f69bb86ec66a35808915836257c5c3190806fe7d88b83b", checked := Tryd.checked }
namespace Rows
def none {H : Type} : Left H := { results := [], args := [] }

/- WHAT THE LISTED PACKAGE-LEVEL VARIABLES READ AS WHEN THE CALL BEGINS. Each datum BY PROGRAM (the guide's laid-datum.mjs) off the statement by which the dump's own 'gosem.cut.vars' lays the variable. In a bare row this is a premise. The card (YtlgddhcbiioefaaDoorCards.lean) ties it to the program's text. -/
def laid_unicode_utf8_acceptRanges {H : Type} : DataW H := .agg [.agg [.lit (.int .u8 128), .lit (.int .u8 191)], .agg [.lit (.int .u8 160), .lit (.int .u8 191)], .agg [.lit (.int .u8 128), .lit (.int .u8 159)], .agg [.lit (.int .u8 144), .lit (.int .u8 191)], .agg [.lit (.int .u8 128), .lit (.int .u8 143)], .agg [.lit (.int .u8 0), .lit (.int .u8 0)], .agg [.lit (.int .u8 0), .lit (.int .u8 0)], .agg [.lit (.int .u8 0), .lit (.int .u8 0)], .agg [.lit (.int .u8 0), .lit (.int .u8 0)], .agg [.lit (.int .u8 0), .lit (.int .u8 0)], .agg [.lit (.int .u8 0), .lit (.int .u8 0)], .agg [.lit (.int .u8 0), .lit (.int .u8 0)], .agg [.lit (.int .u8 0), .lit (.int .u8 0)], .agg [.lit (.int .u8 0), .lit (.int .u8 0)], .agg [.lit (.int .u8 0), .lit (.int .u8 0)], .agg [.lit (.int .u8 0), .lit (.int .u8 0)]]
/-- One of Go's own tables, pinned by name: the form's constant. -/
def laid_unicode_utf8_first : DataW Unit := Go.Pinned.utf8First
def laid_math_bits_deBruijn32tab {H : Type} : DataW H := .agg [.lit (.int .u8 0), .lit (.int .u8 1), .lit (.int .u8 28), .lit (.int .u8 2), .lit (.int .u8 29), .lit (.int .u8 14), .lit (.int .u8 24), .lit (.int .u8 3), .lit (.int .u8 30), .lit (.int .u8 22), .lit (.int .u8 20), .lit (.int .u8 15), .lit (.int .u8 25), .lit (.int .u8 17), .lit (.int .u8 4), .lit (.int .u8 8), .lit (.int .u8 31), .lit (.int .u8 27), .lit (.int .u8 13), .lit (.int .u8 23), .lit (.int .u8 21), .lit (.int .u8 19), .lit (.int .u8 16), .lit (.int .u8 7), .lit (.int .u8 26), .lit (.int .u8 12), .lit (.int .u8 18), .lit (.int .u8 6), .lit (.int .u8 11), .lit (.int .u8 5), .lit (.int .u8 10), .lit (.int .u8 9)]
def laid_math_bits_deBruijn64tab {H : Type} : DataW H := .agg [.lit (.int .u8 0), .lit (.int .u8 1), .lit (.int .u8 56), .lit (.int .u8 2), .lit (.int .u8 57), .lit (.int .u8 49), .lit (.int .u8 28), .lit (.int .u8 3), .lit (.int .u8 61), .lit (.int .u8 58), .lit (.int .u8 42), .lit (.int .u8 50), .lit (.int .u8 38), .lit (.int .u8 29), .lit (.int .u8 17), .lit (.int .u8 4), .lit (.int .u8 62), .lit (.int .u8 47), .lit (.int .u8 59), .lit (.int .u8 36), .lit (.int .u8 45), .lit (.int .u8 43), .lit (.int .u8 51), .lit (.int .u8 22), .lit (.int .u8 53), .lit (.int .u8 39), .lit (.int .u8 33), .lit (.int .u8 30), .lit (.int .u8 24), .lit (.int .u8 18), .lit (.int .u8 12), .lit (.int .u8 5), .lit (.int .u8 63), .lit (.int .u8 55), .lit (.int .u8 48), .lit (.int .u8 27), .lit (.int .u8 60), .lit (.int .u8 41), .lit (.int .u8 37), .lit (.int .u8 16), .lit (.int .u8 46), .lit (.int .u8 35), .lit (.int .u8 44), .lit (.int .u8 21), .lit (.int .u8 52), .lit (.int .u8 32), .lit (.int .u8 23), .lit (.int .u8 11), .lit (.int .u8 54), .lit (.int .u8 26), .lit (.int .u8 40), .lit (.int .u8 15), .lit (.int .u8 34), .lit (.int .u8 20), .lit (.int .u8 31), .lit (.int .u8 10), .lit (.int .u8 25), .lit (.int .u8 14), .lit (.int .u8 19), .lit (.int .u8 9), .lit (.int .u8 13), .lit (.int .u8 8), .lit (.int .u8 7), .lit (.int .u8 6)]
def laid_internal_strconv_uint64pow10 {H : Type} : DataW H := .agg [.lit (.int .u64 1), .lit (.int .u64 10), .lit (.int .u64 100), .lit (.int .u64 1000), .lit (.int .u64 10000), .lit (.int .u64 100000), .lit (.int .u64 1000000), .lit (.int .u64 10000000), .lit (.int .u64 100000000), .lit (.int .u64 1000000000), .lit (.int .u64 10000000000), .lit (.int .u64 100000000000), .lit (.int .u64 1000000000000), .lit (.int .u64 10000000000000), .lit (.int .u64 100000000000000), .lit (.int .u64 1000000000000000), .lit (.int .u64 10000000000000000), .lit (.int .u64 100000000000000000), .lit (.int .u64 1000000000000000000), .lit (.int .u64 10000000000000000000)]
def laid_strconv_ErrRange {H : Type} : DataW H := .iface "*errors.errorString" (.ptr (.agg [.lit (.string [118, 97, 108, 117, 101, 32, 111, 117, 116, 32, 111, 102, 32, 114, 97, 110, 103, 101])]))
def laid_strconv_ErrSyntax {H : Type} : DataW H := .iface "*errors.errorString" (.ptr (.agg [.lit (.string [105, 110, 118, 97, 108, 105, 100, 32, 115, 121, 110, 116, 97, 120])]))

/-- 'aqueductlaw18.SessionKeeps': WHATEVER THE INPUT: true; the input reads as it did. -/
def sessionKeepsSpec : ChangeSpec := { name := "sessionKeeps", fn := fun _ => fun
  | [d1, d2, d3] => { results := [.lit (.bool true)], args := [d1, d2, d3] }
  | _ => none }
def sessionKeepsRow : OpenClaim := { program := "ytlgddhcbiioefaadoor", sum := "3377e3e4e9aac32553f69bb86ec66a35808915836257c5c3190806fe7d88b83b", func := "aqueduct/aqueductlaw18.SessionKeeps", spec := "sessionKeeps", named := ["unicode/utf8.first", "unicode/utf8.acceptRanges"], plainKeys := false, apart := false, laid := [("unicode/utf8.acceptRanges", laid_unicode_utf8_acceptRanges), ("unicode/utf8.first", laid_unicode_utf8_first)] }
def SessionKeepsSaid : Prop := sessionKeepsRow.holds Tryd.pinned (OpenSpec.ofChange sessionKeepsSpec)

/-- ITS FALSE NEIGHBOUR: 'it returns false'. Refute it at one input. -/
def sessionKeepsWrong : ChangeSpec := { name := "sessionKeeps", fn := fun _ => fun
  | [d1, d2, d3] => { results := [.lit (.bool false)], args := [d1, d2, d3] }
  | _ => none }
def SessionKeepsWrongFalsely : Prop := sessionKeepsRow.holds Tryd.pinned (OpenSpec.ofChange sessionKeepsWrong)

/-- 'aqueductlaw18.SessionUnique': WHATEVER THE INPUT: true; the input reads as it did. -/
def sessionUniqueSpec : ChangeSpec := { name := "sessionUnique", fn := fun _ => fun
  | [d] => { results := [.lit (.bool true)], args := [d] }
  | _ => none }
def sessionUniqueRow : OpenClaim := { program := "ytlgddhcbiioefaadoor", sum := "3377e3e4e9aac32553f69bb86ec66a35808915836257c5c3190806fe7d88b83b", func := "aqueduct/aqueductlaw18.SessionUnique", spec := "sessionUnique", unfollowed := true, recurses := true, named := ["unicode/utf8.first", "unicode/utf8.acceptRanges"], plainKeys := false, apart := false, laid := [("unicode/utf8.acceptRanges", laid_unicode_utf8_acceptRanges), ("unicode/utf8.first", laid_unicode_utf8_first)] }
def SessionUniqueSaid : Prop := sessionUniqueRow.holds Tryd.pinned (OpenSpec.ofChange sessionUniqueSpec)

/-- ITS FALSE NEIGHBOUR: 'it returns false'. Refute it at one input. -/
def sessionUniqueWrong : ChangeSpec := { name := "sessionUnique", fn := fun _ => fun
  | [d] => { results := [.lit (.bool false)], args := [d] }
  | _ => none }
def SessionUniqueWrongFalsely : Prop := sessionUniqueRow.holds Tryd.pinned (OpenSpec.ofChange sessionUniqueWrong)

/-- 'aqueductlaw18.SessionNil': WHATEVER THE INPUT: true; the input reads as it did. -/
def sessionNilSpec : ChangeSpec := { name := "sessionNil", fn := fun _ => fun
  | [d] => { results := [.lit (.bool true)], args := [d] }
  | _ => none }
def sessionNilRow : OpenClaim := { program := "ytlgddhcbiioefaadoor", sum := "3377e3e4e9aac32553f69bb86ec66a35808915836257c5c3190806fe7d88b83b", func := "aqueduct/aqueductlaw18.SessionNil", spec := "sessionNil", unfollowed := true, recurses := true, named := ["unicode/utf8.first", "unicode/utf8.acceptRanges"], plainKeys := false, apart := false, laid := [("unicode/utf8.acceptRanges", laid_unicode_utf8_acceptRanges), ("unicode/utf8.first", laid_unicode_utf8_first)] }
def SessionNilSaid : Prop := sessionNilRow.holds Tryd.pinned (OpenSpec.ofChange sessionNilSpec)

/-- ITS FALSE NEIGHBOUR: 'it returns false'. Refute it at one input. -/
def sessionNilWrong : ChangeSpec := { name := "sessionNil", fn := fun _ => fun
  | [d] => { results := [.lit (.bool false)], args := [d] }
  | _ => none }
def SessionNilWrongFalsely : Prop := sessionNilRow.holds Tryd.pinned (OpenSpec.ofChange sessionNilWrong)

/-- 'aqueductlaw18.SessionPlays': WHATEVER THE INPUT: true; the input reads as it did. -/
def sessionPlaysSpec : ChangeSpec := { name := "sessionPlays", fn := fun _ => fun
  | [d1, d2] => { results := [.lit (.bool true)], args := [d1, d2] }
  | _ => none }
def sessionPlaysRow : OpenClaim := { program := "ytlgddhcbiioefaadoor", sum := "3377e3e4e9aac32553f69bb86ec66a35808915836257c5c3190806fe7d88b83b", func := "aqueduct/aqueductlaw18.SessionPlays", spec := "sessionPlays", unfollowed := true, recurses := true, named := ["unicode/utf8.first", "unicode/utf8.acceptRanges"], plainKeys := false, apart := false, laid := [("unicode/utf8.acceptRanges", laid_unicode_utf8_acceptRanges), ("unicode/utf8.first", laid_unicode_utf8_first)] }
def SessionPlaysSaid : Prop := sessionPlaysRow.holds Tryd.pinned (OpenSpec.ofChange sessionPlaysSpec)

/-- ITS FALSE NEIGHBOUR: 'it returns false'. Refute it at one input. -/
def sessionPlaysWrong : ChangeSpec := { name := "sessionPlays", fn := fun _ => fun
  | [d1, d2] => { results := [.lit (.bool false)], args := [d1, d2] }
  | _ => none }
def SessionPlaysWrongFalsely : Prop := sessionPlaysRow.holds Tryd.pinned (OpenSpec.ofChange sessionPlaysWrong)

/-- 'aqueductlaw16.TagsOnce': WHATEVER THE INPUT: true; the input reads as it did. -/
def tagsOnceSpec : ChangeSpec := { name := "tagsOnce", fn := fun _ => fun
  | [d1, d2] => { results := [.lit (.bool true)], args := [d1, d2] }
  | _ => none }
def tagsOnceRow : OpenClaim := { program := "ytlgddhcbiioefaadoor", sum := "3377e3e4e9aac32553f69bb86ec66a35808915836257c5c3190806fe7d88b83b", func := "aqueduct/aqueductlaw16.TagsOnce", spec := "tagsOnce", inPlace := ["internal/abi.NoEscape", "internal/bytealg.MakeNoZero"], named := ["internal/strconv.uint64pow10", "math/bits.deBruijn32tab", "math/bits.deBruijn64tab"], plainKeys := false, apart := false, laid := [("math/bits.deBruijn32tab", laid_math_bits_deBruijn32tab), ("math/bits.deBruijn64tab", laid_math_bits_deBruijn64tab), ("internal/strconv.uint64pow10", laid_internal_strconv_uint64pow10)] }
def TagsOnceSaid : Prop := tagsOnceRow.holds Tryd.pinned (OpenSpec.ofChange tagsOnceSpec)

/-- ITS FALSE NEIGHBOUR: 'it returns false'. Refute it at one input. -/
def tagsOnceWrong : ChangeSpec := { name := "tagsOnce", fn := fun _ => fun
  | [d1, d2] => { results := [.lit (.bool false)], args := [d1, d2] }
  | _ => none }
def TagsOnceWrongFalsely : Prop := tagsOnceRow.holds Tryd.pinned (OpenSpec.ofChange tagsOnceWrong)

/-- 'aqueductlaw16.TagsPlays': WHATEVER THE INPUT: true; the input reads as it did. -/
def tagsPlaysSpec : ChangeSpec := { name := "tagsPlays", fn := fun _ => fun
  | [d1, d2, d3] => { results := [.lit (.bool true)], args := [d1, d2, d3] }
  | _ => none }
def tagsPlaysRow : OpenClaim := { program := "ytlgddhcbiioefaadoor", sum := "3377e3e4e9aac32553f69bb86ec66a35808915836257c5c3190806fe7d88b83b", func := "aqueduct/aqueductlaw16.TagsPlays", spec := "tagsPlays", inPlace := ["internal/abi.NoEscape", "internal/bytealg.MakeNoZero"], unfollowed := true, recurses := true, named := ["internal/strconv.uint64pow10", "math/bits.deBruijn32tab", "math/bits.deBruijn64tab"], plainKeys := false, apart := false, laid := [("math/bits.deBruijn32tab", laid_math_bits_deBruijn32tab), ("math/bits.deBruijn64tab", laid_math_bits_deBruijn64tab), ("internal/strconv.uint64pow10", laid_internal_strconv_uint64pow10)] }
def TagsPlaysSaid : Prop := tagsPlaysRow.holds Tryd.pinned (OpenSpec.ofChange tagsPlaysSpec)

/-- ITS FALSE NEIGHBOUR: 'it returns false'. Refute it at one input. -/
def tagsPlaysWrong : ChangeSpec := { name := "tagsPlays", fn := fun _ => fun
  | [d1, d2, d3] => { results := [.lit (.bool false)], args := [d1, d2, d3] }
  | _ => none }
def TagsPlaysWrongFalsely : Prop := tagsPlaysRow.holds Tryd.pinned (OpenSpec.ofChange tagsPlaysWrong)

/-- 'aqueductlaw16.TagsNil': WHATEVER THE INPUT: true; the input reads as it did. -/
def tagsNilSpec : ChangeSpec := { name := "tagsNil", fn := fun _ => fun
  | [d] => { results := [.lit (.bool true)], args := [d] }
  | _ => none }
def tagsNilRow : OpenClaim := { program := "ytlgddhcbiioefaadoor", sum := "3377e3e4e9aac32553f69bb86ec66a35808915836257c5c3190806fe7d88b83b", func := "aqueduct/aqueductlaw16.TagsNil", spec := "tagsNil", inPlace := ["internal/abi.NoEscape", "internal/bytealg.MakeNoZero"], unfollowed := true, recurses := true, named := ["internal/strconv.uint64pow10", "math/bits.deBruijn32tab", "math/bits.deBruijn64tab"], plainKeys := false, apart := false, laid := [("math/bits.deBruijn32tab", laid_math_bits_deBruijn32tab), ("math/bits.deBruijn64tab", laid_math_bits_deBruijn64tab), ("internal/strconv.uint64pow10", laid_internal_strconv_uint64pow10)] }
def TagsNilSaid : Prop := tagsNilRow.holds Tryd.pinned (OpenSpec.ofChange tagsNilSpec)

/-- ITS FALSE NEIGHBOUR: 'it returns false'. Refute it at one input. -/
def tagsNilWrong : ChangeSpec := { name := "tagsNil", fn := fun _ => fun
  | [d] => { results := [.lit (.bool false)], args := [d] }
  | _ => none }
def TagsNilWrongFalsely : Prop := tagsNilRow.holds Tryd.pinned (OpenSpec.ofChange tagsNilWrong)

/-- 'aqueductlaw16.TagsTexts': WHATEVER THE INPUT: true; the input reads as it did. -/
def tagsTextsSpec : ChangeSpec := { name := "tagsTexts", fn := fun _ => fun
  | [d1, d2] => { results := [.lit (.bool true)], args := [d1, d2] }
  | _ => none }
def tagsTextsRow : OpenClaim := { program := "ytlgddhcbiioefaadoor", sum := "3377e3e4e9aac32553f69bb86ec66a35808915836257c5c3190806fe7d88b83b", func := "aqueduct/aqueductlaw16.TagsTexts", spec := "tagsTexts", inPlace := ["internal/bytealg.CountString", "internal/bytealg.IndexByteString", "internal/bytealg.IndexString", "internal/abi.NoEscape", "internal/bytealg.MakeNoZero"], named := ["unicode/utf8.first", "unicode/utf8.acceptRanges", "internal/bytealg.MaxLen", "strconv.ErrSyntax", "strconv.ErrRange", "internal/strconv.uint64pow10", "math/bits.deBruijn32tab", "math/bits.deBruijn64tab"], plainKeys := false, apart := false, laid := [("math/bits.deBruijn32tab", laid_math_bits_deBruijn32tab), ("math/bits.deBruijn64tab", laid_math_bits_deBruijn64tab), ("internal/strconv.uint64pow10", laid_internal_strconv_uint64pow10), ("unicode/utf8.acceptRanges", laid_unicode_utf8_acceptRanges), ("strconv.ErrRange", laid_strconv_ErrRange), ("strconv.ErrSyntax", laid_strconv_ErrSyntax), ("unicode/utf8.first", laid_unicode_utf8_first)] }
def TagsTextsSaid : Prop := tagsTextsRow.holds Tryd.pinned (OpenSpec.ofChange tagsTextsSpec)

/-- ITS FALSE NEIGHBOUR: 'it returns false'. Refute it at one input. -/
def tagsTextsWrong : ChangeSpec := { name := "tagsTexts", fn := fun _ => fun
  | [d1, d2] => { results := [.lit (.bool false)], args := [d1, d2] }
  | _ => none }
def TagsTextsWrongFalsely : Prop := tagsTextsRow.holds Tryd.pinned (OpenSpec.ofChange tagsTextsWrong)

/-- 'aqueductlaw16.TagsBack': WHATEVER THE INPUT: true; the input reads as it did. -/
def tagsBackSpec : ChangeSpec := { name := "tagsBack", fn := fun _ => fun
  | [d1, d2] => { results := [.lit (.bool true)], args := [d1, d2] }
  | _ => none }
def tagsBackRow : OpenClaim := { program := "ytlgddhcbiioefaadoor", sum := "3377e3e4e9aac32553f69bb86ec66a35808915836257c5c3190806fe7d88b83b", func := "aqueduct/aqueductlaw16.TagsBack", spec := "tagsBack", inPlace := ["internal/abi.NoEscape", "internal/bytealg.MakeNoZero", "internal/bytealg.CountString", "internal/bytealg.IndexByteString", "internal/bytealg.IndexString"], named := ["internal/strconv.uint64pow10", "math/bits.deBruijn32tab", "math/bits.deBruijn64tab", "unicode/utf8.first", "unicode/utf8.acceptRanges", "internal/bytealg.MaxLen", "strconv.ErrSyntax", "strconv.ErrRange"], plainKeys := false, apart := false, laid := [("math/bits.deBruijn32tab", laid_math_bits_deBruijn32tab), ("math/bits.deBruijn64tab", laid_math_bits_deBruijn64tab), ("internal/strconv.uint64pow10", laid_internal_strconv_uint64pow10), ("unicode/utf8.acceptRanges", laid_unicode_utf8_acceptRanges), ("strconv.ErrRange", laid_strconv_ErrRange), ("strconv.ErrSyntax", laid_strconv_ErrSyntax), ("unicode/utf8.first", laid_unicode_utf8_first)] }
def TagsBackSaid : Prop := tagsBackRow.holds Tryd.pinned (OpenSpec.ofChange tagsBackSpec)

/-- ITS FALSE NEIGHBOUR: 'it returns false'. Refute it at one input. -/
def tagsBackWrong : ChangeSpec := { name := "tagsBack", fn := fun _ => fun
  | [d1, d2] => { results := [.lit (.bool false)], args := [d1, d2] }
  | _ => none }
def TagsBackWrongFalsely : Prop := tagsBackRow.holds Tryd.pinned (OpenSpec.ofChange tagsBackWrong)

/- THE SECOND FORM. 'bulk': how many values and letters a reading holds, each counted each time it is reached (what is shared counts as often as it is met; a slice's spare places count too). A statement '..UptoSaid' is the law's where the arguments, and the package variables that the reading takes, are together of bulk at most 1048576: NARROWER than '..Said'. Prove '..Said' where nothing that the law and all that it calls make is longer than what came in: it says more and counts as full. Else prove '..UptoSaid'. A law counts once. -/
mutual
def uptoBulk {H : Type} : DataW H → Nat
  | .lit (.string bytes) => bytes.length + 1
  | .lit _ => 1
  | .nil => 1
  | .ptr d => uptoBulk d + 1
  | .slice elems spare => uptoBulkAll elems + uptoBulkAll spare + 1
  | .agg parts => uptoBulkAll parts + 1
  | .iface _ d => uptoBulk d + 1
  | .map entries => uptoBulkEntries entries + 1
  | .held _ => 1
def uptoBulkAll {H : Type} : List (DataW H) → Nat
  | [] => 0
  | d :: r => uptoBulk d + uptoBulkAll r
def uptoBulkEntries {H : Type} : List (Lit × DataW H) → Nat
  | [] => 0
  | x :: r => uptoBulkEntry x + uptoBulkEntries r
def uptoBulkEntry {H : Type} : Lit × DataW H → Nat
  | (.string bytes, d) => bytes.length + uptoBulk d + 1
  | (_, d) => uptoBulk d + 1
 end
def uptoSmall : (H : Type) → List (DataW H) → Bool := fun _ ds => decide (uptoBulkAll ds ≤ 1048576)
def OpenSpec.upto (s : _root_.Go.ChangeSpec) : _root_.Go.OpenSpec := { _root_.Go.OpenSpec.ofChange s with cond := some uptoSmall }

/-- 'aqueductlaw18.SessionKeeps', WHERE WHAT IT READS IS OF BULK AT MOST 1048576: true; the input reads as it did. -/
def sessionKeepsUptoRow : OpenClaim := { program := "ytlgddhcbiioefaadoor", sum := "3377e3e4e9aac32553f69bb86ec66a35808915836257c5c3190806fe7d88b83b", func := "aqueduct/aqueductlaw18.SessionKeeps", spec := "sessionKeeps", named := ["unicode/utf8.first", "unicode/utf8.acceptRanges"], plainKeys := false, apart := false, laid := [("unicode/utf8.acceptRanges", laid_unicode_utf8_acceptRanges), ("unicode/utf8.first", laid_unicode_utf8_first)], narrowed := true }
def SessionKeepsUptoSaid : Prop := sessionKeepsUptoRow.holds Tryd.pinned (OpenSpec.upto sessionKeepsSpec)

/-- 'aqueductlaw18.SessionUnique', WHERE WHAT IT READS IS OF BULK AT MOST 1048576: true; the input reads as it did. -/
def sessionUniqueUptoRow : OpenClaim := { program := "ytlgddhcbiioefaadoor", sum := "3377e3e4e9aac32553f69bb86ec66a35808915836257c5c3190806fe7d88b83b", func := "aqueduct/aqueductlaw18.SessionUnique", spec := "sessionUnique", unfollowed := true, recurses := true, named := ["unicode/utf8.first", "unicode/utf8.acceptRanges"], plainKeys := false, apart := false, laid := [("unicode/utf8.acceptRanges", laid_unicode_utf8_acceptRanges), ("unicode/utf8.first", laid_unicode_utf8_first)], narrowed := true }
def SessionUniqueUptoSaid : Prop := sessionUniqueUptoRow.holds Tryd.pinned (OpenSpec.upto sessionUniqueSpec)

/-- 'aqueductlaw18.SessionNil', WHERE WHAT IT READS IS OF BULK AT MOST 1048576: true; the input reads as it did. -/
def sessionNilUptoRow : OpenClaim := { program := "ytlgddhcbiioefaadoor", sum := "3377e3e4e9aac32553f69bb86ec66a35808915836257c5c3190806fe7d88b83b", func := "aqueduct/aqueductlaw18.SessionNil", spec := "sessionNil", unfollowed := true, recurses := true, named := ["unicode/utf8.first", "unicode/utf8.acceptRanges"], plainKeys := false, apart := false, laid := [("unicode/utf8.acceptRanges", laid_unicode_utf8_acceptRanges), ("unicode/utf8.first", laid_unicode_utf8_first)], narrowed := true }
def SessionNilUptoSaid : Prop := sessionNilUptoRow.holds Tryd.pinned (OpenSpec.upto sessionNilSpec)

/-- 'aqueductlaw18.SessionPlays', WHERE WHAT IT READS IS OF BULK AT MOST 1048576: true; the input reads as it did. -/
def sessionPlaysUptoRow : OpenClaim := { program := "ytlgddhcbiioefaadoor", sum := "3377e3e4e9aac32553f69bb86ec66a35808915836257c5c3190806fe7d88b83b", func := "aqueduct/aqueductlaw18.SessionPlays", spec := "sessionPlays", unfollowed := true, recurses := true, named := ["unicode/utf8.first", "unicode/utf8.acceptRanges"], plainKeys := false, apart := false, laid := [("unicode/utf8.acceptRanges", laid_unicode_utf8_acceptRanges), ("unicode/utf8.first", laid_unicode_utf8_first)], narrowed := true }
def SessionPlaysUptoSaid : Prop := sessionPlaysUptoRow.holds Tryd.pinned (OpenSpec.upto sessionPlaysSpec)

/-- 'aqueductlaw16.TagsOnce', WHERE WHAT IT READS IS OF BULK AT MOST 1048576: true; the input reads as it did. -/
def tagsOnceUptoRow : OpenClaim := { program := "ytlgddhcbiioefaadoor", sum := "3377e3e4e9aac32553f69bb86ec66a35808915836257c5c3190806fe7d88b83b", func := "aqueduct/aqueductlaw16.TagsOnce", spec := "tagsOnce", inPlace := ["internal/abi.NoEscape", "internal/bytealg.MakeNoZero"], named := ["internal/strconv.uint64pow10", "math/bits.deBruijn32tab", "math/bits.deBruijn64tab"], plainKeys := false, apart := false, laid := [("math/bits.deBruijn32tab", laid_math_bits_deBruijn32tab), ("math/bits.deBruijn64tab", laid_math_bits_deBruijn64tab), ("internal/strconv.uint64pow10", laid_internal_strconv_uint64pow10)], narrowed := true }
def TagsOnceUptoSaid : Prop := tagsOnceUptoRow.holds Tryd.pinned (OpenSpec.upto tagsOnceSpec)

/-- 'aqueductlaw16.TagsPlays', WHERE WHAT IT READS IS OF BULK AT MOST 1048576: true; the input reads as it did. -/
def tagsPlaysUptoRow : OpenClaim := { program := "ytlgddhcbiioefaadoor", sum := "3377e3e4e9aac32553f69bb86ec66a35808915836257c5c3190806fe7d88b83b", func := "aqueduct/aqueductlaw16.TagsPlays", spec := "tagsPlays", inPlace := ["internal/abi.NoEscape", "internal/bytealg.MakeNoZero"], unfollowed := true, recurses := true, named := ["internal/strconv.uint64pow10", "math/bits.deBruijn32tab", "math/bits.deBruijn64tab"], plainKeys := false, apart := false, laid := [("math/bits.deBruijn32tab", laid_math_bits_deBruijn32tab), ("math/bits.deBruijn64tab", laid_math_bits_deBruijn64tab), ("internal/strconv.uint64pow10", laid_internal_strconv_uint64pow10)], narrowed := true }
def TagsPlaysUptoSaid : Prop := tagsPlaysUptoRow.holds Tryd.pinned (OpenSpec.upto tagsPlaysSpec)

/-- 'aqueductlaw16.TagsNil', WHERE WHAT IT READS IS OF BULK AT MOST 1048576: true; the input reads as it did. -/
def tagsNilUptoRow : OpenClaim := { program := "ytlgddhcbiioefaadoor", sum := "3377e3e4e9aac32553f69bb86ec66a35808915836257c5c3190806fe7d88b83b", func := "aqueduct/aqueductlaw16.TagsNil", spec := "tagsNil", inPlace := ["internal/abi.NoEscape", "internal/bytealg.MakeNoZero"], unfollowed := true, recurses := true, named := ["internal/strconv.uint64pow10", "math/bits.deBruijn32tab", "math/bits.deBruijn64tab"], plainKeys := false, apart := false, laid := [("math/bits.deBruijn32tab", laid_math_bits_deBruijn32tab), ("math/bits.deBruijn64tab", laid_math_bits_deBruijn64tab), ("internal/strconv.uint64pow10", laid_internal_strconv_uint64pow10)], narrowed := true }
def TagsNilUptoSaid : Prop := tagsNilUptoRow.holds Tryd.pinned (OpenSpec.upto tagsNilSpec)

/-- 'aqueductlaw16.TagsTexts', WHERE WHAT IT READS IS OF BULK AT MOST 1048576: true; the input reads as it did. -/
def tagsTextsUptoRow : OpenClaim := { program := "ytlgddhcbiioefaadoor", sum := "3377e3e4e9aac32553f69bb86ec66a35808915836257c5c3190806fe7d88b83b", func := "aqueduct/aqueductlaw16.TagsTexts", spec := "tagsTexts", inPlace := ["internal/bytealg.CountString", "internal/bytealg.IndexByteString", "internal/bytealg.IndexString", "internal/abi.NoEscape", "internal/bytealg.MakeNoZero"], named := ["unicode/utf8.first", "unicode/utf8.acceptRanges", "internal/bytealg.MaxLen", "strconv.ErrSyntax", "strconv.ErrRange", "internal/strconv.uint64pow10", "math/bits.deBruijn32tab", "math/bits.deBruijn64tab"], plainKeys := false, apart := false, laid := [("math/bits.deBruijn32tab", laid_math_bits_deBruijn32tab), ("math/bits.deBruijn64tab", laid_math_bits_deBruijn64tab), ("internal/strconv.uint64pow10", laid_internal_strconv_uint64pow10), ("unicode/utf8.acceptRanges", laid_unicode_utf8_acceptRanges), ("strconv.ErrRange", laid_strconv_ErrRange), ("strconv.ErrSyntax", laid_strconv_ErrSyntax), ("unicode/utf8.first", laid_unicode_utf8_first)], narrowed := true }
def TagsTextsUptoSaid : Prop := tagsTextsUptoRow.holds Tryd.pinned (OpenSpec.upto tagsTextsSpec)

/-- 'aqueductlaw16.TagsBack', WHERE WHAT IT READS IS OF BULK AT MOST 1048576: true; the input reads as it did. -/
def tagsBackUptoRow : OpenClaim := { program := "ytlgddhcbiioefaadoor", sum := "3377e3e4e9aac32553f69bb86ec66a35808915836257c5c3190806fe7d88b83b", func := "aqueduct/aqueductlaw16.TagsBack", spec := "tagsBack", inPlace := ["internal/abi.NoEscape", "internal/bytealg.MakeNoZero", "internal/bytealg.CountString", "internal/bytealg.IndexByteString", "internal/bytealg.IndexString"], named := ["internal/strconv.uint64pow10", "math/bits.deBruijn32tab", "math/bits.deBruijn64tab", "unicode/utf8.first", "unicode/utf8.acceptRanges", "internal/bytealg.MaxLen", "strconv.ErrSyntax", "strconv.ErrRange"], plainKeys := false, apart := false, laid := [("math/bits.deBruijn32tab", laid_math_bits_deBruijn32tab), ("math/bits.deBruijn64tab", laid_math_bits_deBruijn64tab), ("internal/strconv.uint64pow10", laid_internal_strconv_uint64pow10), ("unicode/utf8.acceptRanges", laid_unicode_utf8_acceptRanges), ("strconv.ErrRange", laid_strconv_ErrRange), ("strconv.ErrSyntax", laid_strconv_ErrSyntax), ("unicode/utf8.first", laid_unicode_utf8_first)], narrowed := true }
def TagsBackUptoSaid : Prop := tagsBackUptoRow.holds Tryd.pinned (OpenSpec.upto tagsBackSpec)

end Rows
end Go.Proofs.YtlgddhcbiioefaaDoor
