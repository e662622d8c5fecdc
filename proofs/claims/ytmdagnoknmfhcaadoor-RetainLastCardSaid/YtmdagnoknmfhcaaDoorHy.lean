/-
  Hy: how long the texts in a slice of texts are.
-/
import Derived.Test.YtmdagnoknmfhcaaDoorHp
namespace Go.H
set_option linter.unusedSimpArgs false
set_option linter.unusedVariables false
open Go.RowKit

theorem sized_texts {H : Type} {ec : TypeId × Value → H} {P : Program} {w : World} {base : Nat} {sp : Nat → Bool} {held : Bool} {t e : TypeId}
    (ht : P.underlying t = some (.slice e)) (he : P.underlying e = some .string) (hc : P.cellsOf e = 1)
    {x : Slc × List ByteArray} {d : DataW H} {p : List MemPlace} (h : ∃ fuel, DataW.trod ec P w base sp held fuel t (Value.slice x.1.a x.1.len x.1.cap).cells.toList = some (d, p)) (hw : ∀ n ∈ d.weights P t, n ≤ reachBytes)
    (hr : RowAt (fun y : ByteArray => [.string y]) 1 w.heap x.1 x.2) : ∀ y ∈ x.2, y.size ≤ reachBytes := by
  obtain ⟨fuel, h⟩ := h
  have hcells : (Value.slice x.1.a x.1.len x.1.cap).cells.toList = [.slice x.1.a x.1.len x.1.cap] := rfl
  rw [hcells] at h
  intro y hy
  obtain ⟨i, hi⟩ := List.getElem?_of_mem hy
  have hil := (List.getElem?_eq_some_iff.1 hi).1
  obtain ⟨a', ha', hca⟩ := hr.2.2 i y hi
  have hlen := hr.1
  rcases DataW.trod_slice ht h with ⟨h2, _⟩ | ⟨a, len, cap, elems, rest, n, _, h2, h3, _, _, _, hel2, hel, _, _⟩
  · simp only [List.cons.injEq, Value.slice.injEq, and_true] at h2
    omega
  · simp only [List.cons.injEq, Value.slice.injEq, and_true] at h2
    obtain ⟨q1, q2, q3⟩ := h2
    have hilen : i < len := by omega
    have h4 := hel i hilen
    rw [List.getElem?_eq_getElem (by omega), Option.bind_eq_some_iff] at h4
    obtain ⟨cs', h5, h6⟩ := h4
    obtain ⟨h50, h51, h52⟩ := World.cells?_some h5
    obtain ⟨s, h8, h9, _⟩ := DataW.trod_string he h6
    have hcell := h52 0 (by rw [hc]; decide)
    rw [h8] at hcell
    have ha : a' = a := by rw [ha'] at q1; exact Option.some.inj q1
    subst ha
    have hc2 := hca 0 _ rfl
    rw [← cell_eq] at hc2
    rw [hc] at hcell
    have hss : s = y := by
      have := hcell.symm.trans hc2
      have := Option.some.inj this
      cases this
      rfl
    subst hss
    have hie : i < elems.length := by omega
    have hd : d = .slice (elems.map (·.1)) (rest.map (·.1)) := congrArg Prod.fst h3
    have hm : s.data.toList.length ∈ d.weights P t := by
      rw [hd]
      simp only [DataW.weights, ht, List.mem_cons, List.mem_append]
      refine .inr (.inl (weightsAll_mem (d := (elems[i]'hie).1) (List.mem_map_of_mem (List.getElem_mem hie)) _ ?_))
      rw [h9]
      simp [DataW.weights]
    have := hw _ hm
    rw [Array.length_toList] at this
    exact this

end Go.H
