/-
  Har: how arrays of two numbers that came in are read.
-/
import Derived.Test.YtmdagnoknmfhcaaDoorHC
import Derived.OpenShut
namespace Go.H
set_option linter.unusedSimpArgs false
set_option linter.unusedVariables false

section
variable {H : Type} {ec : TypeId × Value → H} {P : Program} {w : World} {base : Nat} {sp : Nat → Bool} {held : Bool}

theorem okWide_array {t : TypeId} {n : Nat} {e : TypeId} {r : Reach} {b0 : Nat} {v : Value} (ht : P.underlying t = some (.array n e)) (h : Value.okWide P w r b0 t v) : ∃ cs, v = .agg cs := by
  simp only [Value.okWide, ht] at h
  obtain ⟨cs, h1, _⟩ := h
  exact ⟨cs, h1⟩

theorem rs_array2 {α : Type} {t e : TypeId} {enc : α → List Value} {good : α → Prop} (ht : P.underlying t = some (.array 2 e)) (hc : P.cellsOf e = 1) (hct : P.cellsOf t = 2) (he : RdS ec P w base sp held e enc good) (h1 : ∀ x, (enc x).length = 1) :
    RdS ec P w base sp held t (fun x : α × α => enc x.1 ++ enc x.2) (fun x => good x.1 ∧ good x.2) := fun fuel cs y h hw => by
  obtain ⟨xs, m, _, hy, hl, hx, hf⟩ := DataW.trod_array ht h
  subst hy
  have hwe : ∀ (i : Nat) (hi : i < xs.length), ∀ n ∈ (xs[i]'hi).1.weights P e, n ≤ reachBytes := fun i hi n hn => hw n (by
    simp only [DataW.weights, ht]
    exact weightsAll_mem (d := (xs[i]'hi).1) (List.mem_map_of_mem (List.getElem_mem hi)) _ hn)
  have h0 := hf 0 (by decide)
  have h2 := hf 1 (by decide)
  rw [List.getElem?_eq_getElem (by omega)] at h0 h2
  obtain ⟨x0, c0, g0⟩ := he m _ _ h0 (hwe 0 (by omega))
  obtain ⟨x1, c1, g1⟩ := he m _ _ h2 (hwe 1 (by omega))
  refine ⟨(x0, x1), ?_, g0, g1⟩
  rw [hct] at hl
  rw [hc] at c0 c1
  simp only [← c0, ← c1]
  match cs, hl with
  | [a, b], _ => rfl
end
end Go.H
