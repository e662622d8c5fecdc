/-
  R17: readers of the arguments of aqueductlaw17's laws.
-/
import Derived.Test.YtmdagnoknmfhcaaDoorHo
import Derived.Test.YtmdagnoknmfhcaaDoorHy
import Derived.Test.YtmdagnoknmfhcaaDoorProg
import Derived.KernelRfl
namespace Go.Proofs.YtmdagnoknmfhcaaDoor
set_option linter.unusedSimpArgs false
set_option linter.unusedVariables false
open Go.H Go.Proofs

abbrev encL17 (x : ByteArray × ByteArray × Int) : List Value := [.string x.1, .string x.2.1, .int .i64 x.2.2]
abbrev good17 (x : ByteArray × ByteArray × Int) : Prop := x.1.size ≤ maxLen ∧ x.2.1.size ≤ maxLen ∧ (Lit.int .i64 x.2.2).wf = true
abbrev goodT17 (x : ByteArray) : Prop := x.size ≤ maxLen

section
variable {H : Type} {ec : TypeId × Value → H} {w : World} {base : Nat} {sp : Nat → Bool} {held : Bool}
theorem rd_Msg17 : RdOK ec Tryd.prog w base sp held 30 encL17 good17 :=
  rd_struct3 Tryd.underlying30 (by kernel_rfl) (by rfl) (by kernel_rfl) (by kernel_rfl) (rd_str Tryd.underlying9) (rd_str Tryd.underlying9) (rd_int Tryd.underlying3)
theorem rd_Msgs17 : RdOK ec Tryd.prog w base sp held 22 (fun x : Slc × List (ByteArray × ByteArray × Int) => [.slice x.1.a x.1.len x.1.cap]) (GoodS encL17 3 w.heap good17) :=
  rd_slice Tryd.underlying22 (by kernel_rfl) rd_Msg17
theorem rd_Texts : RdOK ec Tryd.prog w base sp held 23 (fun x : Slc × List ByteArray => [.slice x.1.a x.1.len x.1.cap]) (GoodS (fun y : ByteArray => [Value.string y]) 1 w.heap goodT17) :=
  rd_slice Tryd.underlying23 (by kernel_rfl) (rd_str Tryd.underlying9)

theorem rd_Msgs17_sized {x : Slc × List (ByteArray × ByteArray × Int)} {d : DataW H} {p : List MemPlace}
    (h : ∃ fuel, DataW.trod ec Tryd.prog w base sp held fuel 22 (Value.slice x.1.a x.1.len x.1.cap).cells.toList = some (d, p)) (hw : ∀ n ∈ d.weights Tryd.prog 22, n ≤ reachBytes)
    (hr : RowAt encL17 3 w.heap x.1 x.2) : ∀ y ∈ x.2, y.1.size ≤ reachBytes :=
  sized_rows (str := fun y => y.1) (j := 0) (o := 0) Tryd.underlying22 Tryd.underlying30 (by kernel_rfl) rfl Tryd.underlying9 rfl (by kernel_rfl) h hw hr (fun _ => rfl)
theorem rd_Texts_sized {x : Slc × List ByteArray} {d : DataW H} {p : List MemPlace}
    (h : ∃ fuel, DataW.trod ec Tryd.prog w base sp held fuel 23 (Value.slice x.1.a x.1.len x.1.cap).cells.toList = some (d, p)) (hw : ∀ n ∈ d.weights Tryd.prog 23, n ≤ reachBytes)
    (hr : RowAt (fun y : ByteArray => [.string y]) 1 w.heap x.1 x.2) : ∀ y ∈ x.2, y.size ≤ reachBytes :=
  sized_texts Tryd.underlying23 Tryd.underlying9 (by kernel_rfl) h hw hr
end

end Go.Proofs.YtmdagnoknmfhcaaDoor
