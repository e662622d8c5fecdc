/-
  R21: readers of the arguments of aqueductlaw21's laws.
-/
import Derived.Test.YtmdagnoknmfhcaaDoorHC
import Derived.Test.YtmdagnoknmfhcaaDoorCmad
import Derived.Test.YtmdagnoknmfhcaaDoorProg
import Derived.KernelRfl
namespace Go.Proofs.YtmdagnoknmfhcaaDoor
set_option linter.unusedSimpArgs false
set_option linter.unusedVariables false
open Go.H Go.Proofs

theorem rs_map {H : Type} {ec : TypeId × Value → H} {P : Program} {w : World} {base : Nat} {sp : Nat → Bool} {held : Bool} {α β : Type} {t : TypeId} {enc : α → List Value} {good : α → Prop} {enc' : β → List Value} {good' : β → Prop} (f : α → β)
    (h : RdS ec P w base sp held t enc good) (he : ∀ x, enc x = enc' (f x)) (hg : ∀ x, good x → good' (f x)) : RdS ec P w base sp held t enc' good' := fun fuel cs y hy hw => by
  obtain ⟨x, h1, h2⟩ := h fuel cs y hy hw
  exact ⟨f x, h1.trans (he x), hg x h2⟩

abbrev goodT21 (x : ByteArray) : Prop := x.size ≤ reachBytes
abbrev goodR21 (x : ByteArray × Int × Int × ByteArray × ByteArray) : Prop := x.1.size ≤ reachBytes ∧ (Lit.int .i64 x.2.1).wf = true ∧ (Lit.int .i64 x.2.2.1).wf = true ∧ x.2.2.2.1.size ≤ reachBytes ∧ x.2.2.2.2.size ≤ reachBytes
abbrev goodK21 (l : LinkT) : Prop := (Lit.int .i64 l.1).wf = true ∧ l.2.1.size ≤ reachBytes ∧ (Lit.int .i64 l.2.2.1).wf = true ∧ (Lit.int .i64 l.2.2.2.1).wf = true ∧ l.2.2.2.2.1.size ≤ reachBytes ∧ l.2.2.2.2.2.1.size ≤ reachBytes
/-- an advert as it came in -/
abbrev Adv21 := Int × Int × (Slc × List ByteArray) × (Slc × List LinkT)
abbrev encA21 (x : Adv21) : List Value := [.int .i64 x.1, .int .i64 x.2.1, .slice x.2.2.1.1.a x.2.2.1.1.len x.2.2.1.1.cap, .slice x.2.2.2.1.a x.2.2.2.1.len x.2.2.2.1.cap]
abbrev goodA21 (h : Heap) (x : Adv21) : Prop := (Lit.int .i64 x.1).wf = true ∧ (Lit.int .i64 x.2.1).wf = true ∧ GoodN eS 1 16 h goodT21 x.2.2.1 ∧ GoodN encK 6 72 h goodK21 x.2.2.2

section
variable {H : Type} {ec : TypeId × Value → H} {w : World} {base : Nat} {sp : Nat → Bool} {held : Bool}
theorem rd_Rule21 : RdS ec Tryd.prog w base sp held 117 (fun x : ByteArray × Int × Int × ByteArray × ByteArray => [.string x.1, .int .i64 x.2.1, .int .i64 x.2.2.1, .string x.2.2.2.1, .string x.2.2.2.2]) goodR21 :=
  rs_struct5 Tryd.underlying117 (by kernel_rfl) (by rfl) (by kernel_rfl) (by kernel_rfl) (by kernel_rfl) (by kernel_rfl) (rs_str Tryd.underlying9) (rs_int Tryd.underlying3) (rs_int Tryd.underlying3) (rs_str Tryd.underlying9) (rs_str Tryd.underlying9)
theorem rd_Link21 : RdS ec Tryd.prog w base sp held 119 encK goodK21 :=
  rs_map (fun x : Int × ByteArray × Int × Int × ByteArray × ByteArray => (x.1, x.2.1, x.2.2.1, x.2.2.2.1, x.2.2.2.2.1, x.2.2.2.2.2, ()))
    (rs_struct2 Tryd.underlying119 (by kernel_rfl) (by rfl) (by kernel_rfl) (rs_int Tryd.underlying3) rd_Rule21) (fun _ => rfl) (fun _ h => ⟨h.1, h.2.1, h.2.2.1, h.2.2.2.1, h.2.2.2.2.1, h.2.2.2.2.2⟩)
theorem rd_Texts21 : RdS ec Tryd.prog w base sp held 23 (fun x : Slc × List ByteArray => [.slice x.1.a x.1.len x.1.cap]) (GoodN eS 1 16 w.heap goodT21) :=
  rs_slice Tryd.underlying23 (by kernel_rfl) (by kernel_rfl) (rs_str Tryd.underlying9)
theorem rd_Links21 : RdS ec Tryd.prog w base sp held 49 (fun x : Slc × List LinkT => [.slice x.1.a x.1.len x.1.cap]) (GoodN encK 6 72 w.heap goodK21) :=
  rs_slice Tryd.underlying49 (by kernel_rfl) (by kernel_rfl) rd_Link21
theorem rd_Advert21 : RdS ec Tryd.prog w base sp held 51 encA21 (goodA21 w.heap) :=
  rs_struct4 Tryd.underlying51 (by kernel_rfl) (by rfl) (by kernel_rfl) (by kernel_rfl) (by kernel_rfl) (rs_int Tryd.underlying3) (rs_int Tryd.underlying2) rd_Texts21 rd_Links21
theorem rd_Adverts21 : RdS ec Tryd.prog w base sp held 71 (fun x : Slc × List Adv21 => [.slice x.1.a x.1.len x.1.cap]) (GoodN encA21 4 64 w.heap (goodA21 w.heap)) :=
  rs_slice Tryd.underlying71 (by kernel_rfl) (by kernel_rfl) rd_Advert21
theorem rd_Ints21 : RdS ec Tryd.prog w base sp held 72 (fun x : Slc × List Int => [.slice x.1.a x.1.len x.1.cap]) (GoodN (fun x : Int => [Value.int .i64 x]) 1 8 w.heap (fun x => (Lit.int .i64 x).wf = true)) :=
  rs_slice Tryd.underlying72 (by kernel_rfl) (by kernel_rfl) (rs_int Tryd.underlying3)
end

theorem reach_big {n : Nat} (h : n ≤ reachBytes) : n ≤ bigB := Nat.le_trans h (by decide)
theorem cut_sz {h : Heap} {x : Adv21} (g : goodA21 h x) : szA (cutA x.1 x.2.1 x.2.2.1.2 x.2.2.2.2) :=
  ⟨fun f hf => reach_big (g.2.2.1.good f (List.mem_of_mem_take hf)), fun l hl => by
    have := g.2.2.2.good l (List.mem_of_mem_take hl)
    exact ⟨reach_big this.2.1, reach_big this.2.2.2.2.1, reach_big this.2.2.2.2.2⟩⟩

end Go.Proofs.YtmdagnoknmfhcaaDoor
