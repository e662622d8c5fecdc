/-
  Hp: how long the strings are that stand in the elements of a slice that came in: by the reach that a reading has.
-/
import Derived.Test.YtmdagnoknmfhcaaDoorHo
import Derived.SizedLaws
namespace Go.H
set_option linter.unusedSimpArgs false
set_option linter.unusedVariables false

theorem weightsAll_mem {H : Type} {P : Program} {e : TypeId} : ∀ {l : List (DataW H)} {d : DataW H}, d ∈ l → ∀ n ∈ d.weights P e, n ∈ DataW.weightsAll P e l
  | [], _, h, _, _ => by simp at h
  | x :: l, d, h, n, hn => by
    simp only [DataW.weightsAll, List.mem_append]
    rcases List.mem_cons.1 h with rfl | h
    · exact .inl hn
    · exact .inr (weightsAll_mem h n hn)

theorem sized_rows {H : Type} {ec : TypeId × Value → H} {P : Program} {w : World} {base : Nat} {sp : Nat → Bool} {held : Bool} {α : Type} {enc : α → List Value} {size : Nat} {t e : TypeId} {fs : Array Field} {f : Field} {j o : Nat}
    (ht : P.underlying t = some (.slice e)) (he : P.underlying e = some (.struct fs)) (hc : P.cellsOf e = size) (hf : fs[j]? = some f) (hs : P.underlying f.type = some .string) (ho : f.offset = o) (h1 : P.cellsOf f.type = 1)
    {x : Slc × List α} {d : DataW H} {p : List MemPlace} (h : ∃ fuel, DataW.trod ec P w base sp held fuel t (Value.slice x.1.a x.1.len x.1.cap).cells.toList = some (d, p)) (hw : ∀ n ∈ d.weights P t, n ≤ reachBytes)
    (hr : RowAt enc size w.heap x.1 x.2) {str : α → ByteArray} (hstr : ∀ y, (enc y)[o]? = some (.string (str y))) : ∀ y ∈ x.2, (str y).size ≤ reachBytes := by
  subst hc
  obtain ⟨fuel, h⟩ := h
  have hcells : (Value.slice x.1.a x.1.len x.1.cap).cells.toList = [.slice x.1.a x.1.len x.1.cap] := rfl
  rw [hcells] at h
  intro y hy
  obtain ⟨i, hi⟩ := List.getElem?_of_mem hy
  have hil := (List.getElem?_eq_some_iff.1 hi).1
  obtain ⟨a', ha', hca⟩ := hr.2.2 i y hi
  have hlen := hr.1
  rcases DataW.trod_slice ht h with ⟨h2, _⟩ | ⟨a, len, cap, elems, rest, n, _, h2, h3, _, _, _, hel2, hel, _, _⟩
  · simp only [List.cons.injEq, Value.slice.injEq, and_true] at h2
    omega
  · simp only [List.cons.injEq, Value.slice.injEq, and_true] at h2
    obtain ⟨q1, q2, q3⟩ := h2
    have hilen : i < len := by omega
    have h4 := hel i hilen
    rw [List.getElem?_eq_getElem (by omega), Option.bind_eq_some_iff] at h4
    obtain ⟨cs', h5, h6⟩ := h4
    obtain ⟨h50, h51, h52⟩ := World.cells?_some h5
    obtain ⟨xs, n', _, hx1, _, hx3, hx4⟩ := DataW.trod_struct he h6
    have h7 := hx4 j f hf
    have hjx : j < xs.length := by
      have := (Array.getElem?_eq_some_iff.1 hf).1
      omega
    rw [List.getElem?_eq_getElem hjx, h1, ho] at h7
    obtain ⟨s, h8, h9, _⟩ := DataW.trod_string hs h7
    have hcs : cs'[o]? = some (.string s) := by
      have := congrArg (·[0]?) h8
      simpa [List.getElem?_take, List.getElem?_drop] using this
    have hol : o < cs'.length := (List.getElem?_eq_some_iff.1 hcs).1
    have hcell := h52 o (by omega)
    rw [hcs] at hcell
    have ha : a' = a := by rw [ha'] at q1; exact Option.some.inj q1
    subst ha
    have hc2 := hca o _ (hstr y)
    rw [← cell_eq, hcell] at hc2
    have hss : s = str y := by
      have := Option.some.inj hc2
      cases this
      rfl
    subst hss
    have hie : i < elems.length := by omega
    have hd : d = .slice (elems.map (·.1)) (rest.map (·.1)) := congrArg Prod.fst h3
    have hm : (str y).data.toList.length ∈ d.weights P t := by
      rw [hd]
      simp only [DataW.weights, ht, List.mem_cons, List.mem_append]
      refine .inr (.inl (weightsAll_mem (d := (elems[i]'hie).1) (List.mem_map_of_mem (List.getElem_mem hie)) _ ?_))
      have he1 : (elems[i]'hie).1 = .agg (xs.map (·.1)) := by rw [hx1]
      rw [he1]
      simp only [DataW.weights, he]
      refine DataW.weights_mem_each (j := j) (t := f.type) (d := (xs[j]'hjx).1) ?_ ?_ _ ?_
      · rw [List.getElem?_map, Array.getElem?_toList, hf]; rfl
      · rw [List.getElem?_map, List.getElem?_eq_getElem hjx]; rfl
      · rw [h9]
        simp [DataW.weights]
    have := hw _ hm
    rw [Array.length_toList] at this
    exact this

end Go.H
