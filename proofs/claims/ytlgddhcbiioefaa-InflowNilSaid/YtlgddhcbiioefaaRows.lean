/-
  No cell of these rows narrows 'for every input' (looked for: loops, veiled, ifaces, maps, wideKeys, modest, calm, conditions, laid).
  DERIVED. THE GIVEN ROWS OF THIS SEAT. 3 by the template 'for every input the law returns true; each argument reads behind the call as it read before'; 0 by the template 'total and deterministic' (their statements: YtlgddhcbiioefaaTotals.lean).
  GIVEN WITH THE SEED: the statements are not yours to turn. If you find one false, say at which input.
  Laid BY PROGRAM, IN A SANDBOX (cutbox-rows.mjs): the forced cells as the released guide's own fill.sh prints them over the translation 5d360d7c5b76a911… (all of the seat's roots in one cut). By AI agents, Wed Nov 11 2026. No macro, syntax, notation, axiom, sorry.
-/
import Derived.Test.YtlgddhcbiioefaaChecked
import GoSem.Claim
import GoSem.ClaimJoined
import GoSem.ClaimMapViews
import Derived.JoinedTies
import Derived.KernelRfl
namespace Go.Proofs.Ytlgddhcbiioefaa
/- THE CELL 'sum', in the pinned program and in every row, IS THE sha256 OF THE DUMP (.gsa) THAT YtlgddhcbiioefaaProg.lean LOADS. Nothing in Lean hashes anything: it is a label: what it is worth is what the hold of that sum in a sandbox is worth. -/
noncomputable def Try.pinned : Pinned := { name := "ytlgddhcbiioefaa", sum := "5d360d7c5b76a911440f8165a62d3979f25f4e6dd1832476fb00af11a715b133", checked := Try.checked }
namespace Rows
def none {H : Type} : Left H := { results := [], args := [] }

/-- 'aqueductlaw15.InflowOnce': WHATEVER THE INPUT: true; the input reads as it did. -/
def inflowOnceSpec : ChangeSpec := { name := "inflowOnce", fn := fun _ => fun
  | [d1, d2] => { results := [.lit (.bool true)], args := [d1, d2] }
  | _ => none }
def inflowOnceRow : OpenClaim := { program := "ytlgddhcbiioefaa", sum := "5d360d7c5b76a911440f8165a62d3979f25f4e6dd1832476fb00af11a715b133", func := "aqueduct/aqueductlaw15.InflowOnce", spec := "inflowOnce", unfollowed := true, recurses := true, apart := false }
def InflowOnceSaid : Prop := inflowOnceRow.holds Try.pinned (OpenSpec.ofChange inflowOnceSpec)

/-- ITS FALSE NEIGHBOUR: 'it returns false'. Refute it at one input. -/
def inflowOnceWrong : ChangeSpec := { name := "inflowOnce", fn := fun _ => fun
  | [d1, d2] => { results := [.lit (.bool false)], args := [d1, d2] }
  | _ => none }
def InflowOnceWrongFalsely : Prop := inflowOnceRow.holds Try.pinned (OpenSpec.ofChange inflowOnceWrong)

/-- 'aqueductlaw15.InflowOpen': WHATEVER THE INPUT: true; the input reads as it did. -/
def inflowOpenSpec : ChangeSpec := { name := "inflowOpen", fn := fun _ => fun
  | [d1, d2] => { results := [.lit (.bool true)], args := [d1, d2] }
  | _ => none }
def inflowOpenRow : OpenClaim := { program := "ytlgddhcbiioefaa", sum := "5d360d7c5b76a911440f8165a62d3979f25f4e6dd1832476fb00af11a715b133", func := "aqueduct/aqueductlaw15.InflowOpen", spec := "inflowOpen", unfollowed := true, recurses := true, apart := false }
def InflowOpenSaid : Prop := inflowOpenRow.holds Try.pinned (OpenSpec.ofChange inflowOpenSpec)

/-- ITS FALSE NEIGHBOUR: 'it returns false'. Refute it at one input. -/
def inflowOpenWrong : ChangeSpec := { name := "inflowOpen", fn := fun _ => fun
  | [d1, d2] => { results := [.lit (.bool false)], args := [d1, d2] }
  | _ => none }
def InflowOpenWrongFalsely : Prop := inflowOpenRow.holds Try.pinned (OpenSpec.ofChange inflowOpenWrong)

/-- 'aqueductlaw15.InflowNil': WHATEVER THE INPUT: true; the input reads as it did. -/
def inflowNilSpec : ChangeSpec := { name := "inflowNil", fn := fun _ => fun
  | [d] => { results := [.lit (.bool true)], args := [d] }
  | _ => none }
def inflowNilRow : OpenClaim := { program := "ytlgddhcbiioefaa", sum := "5d360d7c5b76a911440f8165a62d3979f25f4e6dd1832476fb00af11a715b133", func := "aqueduct/aqueductlaw15.InflowNil", spec := "inflowNil", unfollowed := true, recurses := true, apart := false }
def InflowNilSaid : Prop := inflowNilRow.holds Try.pinned (OpenSpec.ofChange inflowNilSpec)

/-- ITS FALSE NEIGHBOUR: 'it returns false'. Refute it at one input. -/
def inflowNilWrong : ChangeSpec := { name := "inflowNil", fn := fun _ => fun
  | [d] => { results := [.lit (.bool false)], args := [d] }
  | _ => none }
def InflowNilWrongFalsely : Prop := inflowNilRow.holds Try.pinned (OpenSpec.ofChange inflowNilWrong)

/- THE SECOND FORM. 'bulk': how many values and letters a reading holds, each counted each time it is reached (what is shared counts as often as it is met; a slice's spare places count too). A statement '..UptoSaid' is the law's where the arguments, and the package variables that the reading takes, are together of bulk at most 1048576: NARROWER than '..Said'. Prove '..Said' where nothing that the law and all that it calls make is longer than what came in: it says more and counts as full. Else prove '..UptoSaid'. A law counts once. -/
mutual
def uptoBulk {H : Type} : DataW H → Nat
  | .lit (.string bytes) => bytes.length + 1
  | .lit _ => 1
  | .nil => 1
  | .ptr d => uptoBulk d + 1
  | .slice elems spare => uptoBulkAll elems + uptoBulkAll spare + 1
  | .agg parts => uptoBulkAll parts + 1
  | .iface _ d => uptoBulk d + 1
  | .map entries => uptoBulkEntries entries + 1
  | .held _ => 1
def uptoBulkAll {H : Type} : List (DataW H) → Nat
  | [] => 0
  | d :: r => uptoBulk d + uptoBulkAll r
def uptoBulkEntries {H : Type} : List (Lit × DataW H) → Nat
  | [] => 0
  | x :: r => uptoBulkEntry x + uptoBulkEntries r
def uptoBulkEntry {H : Type} : Lit × DataW H → Nat
  | (.string bytes, d) => bytes.length + uptoBulk d + 1
  | (_, d) => uptoBulk d + 1
 end
def uptoSmall : (H : Type) → List (DataW H) → Bool := fun _ ds => decide (uptoBulkAll ds ≤ 1048576)
def OpenSpec.upto (s : _root_.Go.ChangeSpec) : _root_.Go.OpenSpec := { _root_.Go.OpenSpec.ofChange s with cond := some uptoSmall }

/-- 'aqueductlaw15.InflowOnce', WHERE WHAT IT READS IS OF BULK AT MOST 1048576: true; the input reads as it did. -/
def inflowOnceUptoRow : OpenClaim := { program := "ytlgddhcbiioefaa", sum := "5d360d7c5b76a911440f8165a62d3979f25f4e6dd1832476fb00af11a715b133", func := "aqueduct/aqueductlaw15.InflowOnce", spec := "inflowOnce", unfollowed := true, recurses := true, apart := false, narrowed := true }
def InflowOnceUptoSaid : Prop := inflowOnceUptoRow.holds Try.pinned (OpenSpec.upto inflowOnceSpec)

/-- 'aqueductlaw15.InflowOpen', WHERE WHAT IT READS IS OF BULK AT MOST 1048576: true; the input reads as it did. -/
def inflowOpenUptoRow : OpenClaim := { program := "ytlgddhcbiioefaa", sum := "5d360d7c5b76a911440f8165a62d3979f25f4e6dd1832476fb00af11a715b133", func := "aqueduct/aqueductlaw15.InflowOpen", spec := "inflowOpen", unfollowed := true, recurses := true, apart := false, narrowed := true }
def InflowOpenUptoSaid : Prop := inflowOpenUptoRow.holds Try.pinned (OpenSpec.upto inflowOpenSpec)

/-- 'aqueductlaw15.InflowNil', WHERE WHAT IT READS IS OF BULK AT MOST 1048576: true; the input reads as it did. -/
def inflowNilUptoRow : OpenClaim := { program := "ytlgddhcbiioefaa", sum := "5d360d7c5b76a911440f8165a62d3979f25f4e6dd1832476fb00af11a715b133", func := "aqueduct/aqueductlaw15.InflowNil", spec := "inflowNil", unfollowed := true, recurses := true, apart := false, narrowed := true }
def InflowNilUptoSaid : Prop := inflowNilUptoRow.holds Try.pinned (OpenSpec.upto inflowNilSpec)

end Rows
end Go.Proofs.Ytlgddhcbiioefaa
