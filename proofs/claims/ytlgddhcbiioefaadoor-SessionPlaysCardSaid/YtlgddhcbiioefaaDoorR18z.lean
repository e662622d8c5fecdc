/-
  R18z: how long the clients' names are in the script that came in.
-/
import Derived.Test.YtlgddhcbiioefaaDoorHp
import Derived.Test.YtlgddhcbiioefaaDoorR18
namespace Go.Proofs.YtlgddhcbiioefaaDoor
set_option linter.unusedSimpArgs false
set_option linter.unusedVariables false
open Go.H Go.Proofs

theorem rd_Acts18_sized {H : Type} {ec : TypeId × Value → H} {w : World} {base : Nat} {sp : Nat → Bool} {held : Bool} {x : Slc × List (Int × ByteArray × Bool × Bool × Int)} {d : DataW H} {p : List MemPlace}
    (h : ∃ fuel, DataW.trod ec Tryd.prog w base sp held fuel 51 (Value.slice x.1.a x.1.len x.1.cap).cells.toList = some (d, p)) (hw : ∀ n ∈ d.weights Tryd.prog 51, n ≤ reachBytes)
    (hr : RowAt (fun x : Int × ByteArray × Bool × Bool × Int => [.int .i64 x.1, .string x.2.1, .bool x.2.2.1, .bool x.2.2.2.1, .int .i64 x.2.2.2.2]) 5 w.heap x.1 x.2) : ∀ y ∈ x.2, y.2.1.size ≤ reachBytes :=
  sized_rows (str := fun y => y.2.1) (j := 1) (o := 1) Tryd.underlying51 Tryd.underlying54 (by kernel_rfl) rfl Tryd.underlying9 rfl (by kernel_rfl) h hw hr (fun _ => rfl)

end Go.Proofs.YtlgddhcbiioefaaDoor
