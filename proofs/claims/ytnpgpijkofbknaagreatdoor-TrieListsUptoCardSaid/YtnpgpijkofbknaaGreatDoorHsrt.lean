/-
  Hsrt: slices.SortFunc over heaps, at structs: by the shelf's contract.
-/
import Derived.Test.YtnpgpijkofbknaaGreatDoorHB
import Derived.Shelf.SlSortCmp.NoneTotal
namespace Go.H
set_option linter.unusedSimpArgs false
set_option linter.unusedVariables false
open Go.RowKit Go.Sort Go.Shelf Go.Proofs

section
variable {α : Type} [Inhabited α] {enc : α → List Value} {size : Nat} {h : Heap} {R : List Asn}

theorem flatK_eq (henc : ∀ x, (enc x).length = size) (hsz : 0 < size) (d : Array α) : flatK enc size d = (d.toList.flatMap enc).toArray := by
  apply Array.ext_getElem?
  intro t
  have hlen : (d.toList.flatMap enc).length = d.size * size := by rw [flat_len henc]; simp
  by_cases ht : t < d.size * size
  · have hq : t / size < d.size := by rw [Nat.div_lt_iff_lt_mul hsz]; exact ht
    have hr : t % size < size := Nat.mod_lt _ hsz
    have h1 := get_flatK enc size d t ht
    rw [getElem!_pos _ t (by simpa using ht)] at h1
    have hx : d.toList[t / size]? = some d[t / size] := by simp [hq]
    have hv : (enc d[t / size])[t % size]? = some ((enc d[t / size])[t % size]!) := by
      rw [List.getElem?_eq_getElem (by rw [henc]; exact hr), getElem!_pos _ _ (by rw [henc]; exact hr)]
    have h2 := flat_get henc d.toList _ _ hx _ _ hv
    rw [show t / size * size + t % size = t from by rw [Nat.mul_comm]; exact Nat.div_add_mod t size] at h2
    rw [Array.getElem?_eq_getElem (by simpa using ht), h1, List.getElem?_toArray, h2, getElem!_pos d _ hq]
  · rw [Array.getElem?_eq_none (by simp; omega), List.getElem?_toArray, List.getElem?_eq_none (by omega)]

theorem sort_own (henc : ∀ x, (enc x).length = size) (hsz : 0 < size) (h1 : ∀ x, ∀ v ∈ enc x, v.oneCell' = true) {P : Program} {ρ : Ren} (L : SlLaysF0.n6 P ρ) (aE : ∀ w, (isAgg (ρ.t 24)).run P w = .ok true w) (zE : ∀ w, (Go.sizeOf (ρ.t 24)).run P w = .ok size w)
    (cf : α → α → Int) (hO : SWO (ltOf cf)) (g : Nat) (eg : ∀ args w, (callFunc g args).run P w = .ok (.enter g args) w)
    (hcmp : ∀ x y W, Calls P g #[.agg (enc x).toArray, .agg (enc y).toArray] W fun e w' => e = .returned (.int .i64 (cf x y)) ∧ ∃ q os', w' = grow (W.drewN q) os')
    {s : Slc} {xs : List α} (hs : sat h (ownS enc size s xs :: R)) (hl : xs.length < 4611686018427387904) {Q : Value → Heap → Prop}
    (hq : ∀ (ys : List α) h', ys.Perm xs → ys.Pairwise (fun a b => ltOf cf b a = false) → sat h' (ownS enc size s ys :: R) → Q (.tuple #[]) h') :
    HCalls P (ρ.f 6) #[.slice s.a s.len s.cap, .func (.func g) #[] #[]] h Q := fun w hw => by
  subst hw
  rcases ownS_cases hs with ⟨g1, g2, rfl, hs1⟩ | ⟨b, o, cs, ho, hs1⟩
  · have hs0 := hs.own_len
    rw [List.length_nil] at hs0
    rw [hs0]
    refine (AnyF.slices_SortFunc_none L s.a s.cap _ w).mono ?_
    rintro e w' ⟨rfl, rfl⟩
    exact ⟨_, rfl, ⟨rfl, rfl, rfl⟩, hq [] w'.heap (List.Perm.refl _) List.Pairwise.nil hs⟩
  · have hlen := ho.len
    have hcs := ho.csize
    have hle := ho.le
    have hmul : s.len * size ≤ s.cap * size := Nat.mul_le_mul_right _ hle
    rw [Nat.add_mul] at hcs
    have hF : flatK enc size xs.toArray = (xs.flatMap enc).toArray := flatK_eq henc hsz _
    have hsize : (xs.flatMap enc).length = s.len * size := by rw [flat_len henc, hlen]
    have hH : HoldsK enc size w b (o * size) xs.toArray := by
      unfold HoldsK Holds
      rw [hF]
      intro j hj
      have hj' : j < s.len * size := by simpa [hsize] using hj
      refine ⟨?_, hs1.free _⟩
      have h2 : w.cell? ⟨b, o * size + j, none⟩ = cs[o * size + j]? := hs1.cell _
      have h3 : ((cs.toList.drop (o * size)).take (s.len * size))[j]? = cs[o * size + j]? := by
        rw [List.getElem?_take, if_pos hj', List.getElem?_drop]
        simp
      rw [h2, ← h3, ho.front, getElem!_pos _ j hj]
      rw [List.getElem?_eq_getElem (by simpa using hj)]
      rfl
    have hblk : b < w.heap.size := hs1.cells_lt
    rw [ho.a]
    have hsl : (Value.slice (some ⟨b, o * size, none⟩) s.len s.cap) = .slice (some ⟨b, o * size, none⟩) xs.toArray.size s.cap := by rw [hlen]; rfl
    rw [hsl]
    refine (AnyQ.slices_SortFunc L size aE zE enc henc h1 cf hO g #[] b (o * size) s.cap xs.toArray w eg (fun m os dk _ x y => hcmp x y _) hH hblk (by simpa using hl)).mono ?_
    rintro e w' ⟨rfl, d', n, os, ⟨hps, -, hpp⟩, hsrt, rfl⟩
    have hperm : d'.toList.Perm xs := by
      rw [Array.extract_eq_self_of_le (by omega), Array.extract_eq_self_of_le (by omega)] at hpp
      exact hpp
    refine ⟨_, rfl, ⟨rfl, rfl, rfl⟩, hq d'.toList _ hperm ?_ ?_⟩
    · rw [List.pairwise_iff_getElem]
      intro i j hi hj hij
      have hi' : i < d'.size := by simpa using hi
      have hj' : j < d'.size := by simpa using hj
      have := hsrt i j (Nat.zero_le _) hij (by omega)
      rw [getElem!_pos d' i hi', getElem!_pos d' j hj'] at this
      simpa using this
    · have hF' : flatK enc size d' = (d'.toList.flatMap enc).toArray := flatK_eq henc hsz _
      have hsize' : (d'.toList.flatMap enc).length = s.len * size := by rw [flat_len henc, hlen, hperm.length_eq]
      obtain ⟨T, hb⟩ := cells_iff.1 hs1
      have hget := hb.get
      have hs2 : sat (putRowK enc size (Sort.ahead w n) b (o * size) d').heap (blk b (.cells (putCells id (o * size) (flatK enc size d') cs) T (0, 0)) :: R) := by
        refine hb.turn ?_ fun k hk => ?_
        · show (w.heap.modify b _)[b]? = _
          rw [Array.getElem?_modify, if_pos rfl, hget]
          rfl
        · show (w.heap.modify b _)[k]? = _
          rw [Array.getElem?_modify, if_neg (fun e => hk e.symm)]
      have hs3 : sat (sortWorldK enc size w b (o * size) n d' os).heap (blk b (.cells (putCells id (o * size) (flatK enc size d') cs) T (0, 0)) :: R) := by
        refine hs2.grow fun k ob hk => ?_
        show ((putRowK enc size (Sort.ahead w n) b (o * size) d').heap ++ os)[k]? = some ob
        rw [Array.getElem?_append_left (Array.getElem?_eq_some_iff.1 hk).1]
        exact hk
      refine ownS_mk (b := b) (o := o) ⟨ho.a, ho.le, by rw [hlen, hperm.length_eq], ?_, ?_⟩ (cells_iff.2 ⟨T, hs3⟩)
      · rw [Nat.add_mul]
        simpa [putCells] using hcs
      · rw [hF']
        apply List.ext_getElem?
        intro j
        by_cases hj : j < s.len * size
        · rw [List.getElem?_take, if_pos hj, List.getElem?_drop, Array.getElem?_toList, putCells, Array.getElem?_mapIdx]
          have hlt : o * size + j < cs.size := by omega
          rw [Array.getElem?_eq_getElem hlt]
          simp only [Option.map_some]
          rw [if_pos ⟨by omega, by simp [hsize']; omega⟩, Nat.add_sub_cancel_left]
          rw [getElem!_pos _ j (by simpa [hsize'] using hj), List.getElem?_eq_getElem (by omega)]
          rfl
        · rw [List.getElem?_take, if_neg hj, List.getElem?_eq_none (by omega)]
end
end Go.H
