/-
  Hv: slices that came in: cut without room, and appended to.
-/
import Derived.Test.YtnpgpijkofbknaaGreatDoorHB
namespace Go.H
set_option linter.unusedSimpArgs false
set_option linter.unusedVariables false
section
variable {α : Type} {enc : α → List Value} {size : Nat} {h h0 : Heap} {s : Slc} {xs : List α} {R : List Asn}

theorem slice_row3 (hr : RowAt enc size h0 s xs) {n : Nat} (hn : n ≤ xs.length) {Q : Slc → Heap → Prop}
    (hq : ∀ s', RowAt enc size h0 s' (xs.take n) → s'.cap = s'.len → Q s' h) : HM.slice s none (some (n : Int)) (some (n : Int)) size h Q := by
  have h1 := hr.1
  have h2 := hr.2.1
  refine ⟨0, n, n, ⟨rfl, by omega⟩, ⟨rfl, Nat.le_refl _⟩, rfl, hq _ ⟨?_, ?_, ?_⟩ ?_⟩
  · simp [sliceOf]; omega
  · simp [sliceOf]
  · intro i x hx
    obtain ⟨a, ha, hc⟩ := hr.2.2 i x (by
      rw [List.getElem?_take] at hx
      split at hx
      · exact hx
      · cases hx)
    refine ⟨a, ?_, hc⟩
    simp only [sliceOf, ha]
    split
    · rfl
    · simp [add_zero]
  · simp [sliceOf]

theorem flat_inv (henc : ∀ x, (enc x).length = size) : ∀ (xs : List α) (i : Nat) (v : Value), (xs.flatMap enc)[i]? = some v → ∃ q x r, xs[q]? = some x ∧ (enc x)[r]? = some v ∧ i = q * size + r
  | [], i, v, h => by simp at h
  | x :: xs, i, v, h => by
    rw [List.flatMap_cons] at h
    rcases Nat.lt_or_ge i size with hi | hi
    · rw [List.getElem?_append_left (by rw [henc]; exact hi)] at h
      exact ⟨0, x, i, rfl, h, by simp⟩
    · rw [List.getElem?_append_right (by rw [henc]; exact hi), henc] at h
      obtain ⟨q, y, r, h1, h2, h3⟩ := flat_inv henc xs _ v h
      exact ⟨q + 1, y, r, by simpa using h1, h2, by rw [Nat.succ_mul]; omega⟩

theorem add_add' (a : Addr) (m r : Nat) : (a.add m).add r = a.add (m + r) := by
  unfold Addr.add
  by_cases h1 : m = 0 <;> by_cases h2 : r = 0 <;> simp [h1, h2, Nat.add_assoc]

theorem row_reads (henc : ∀ x, (enc x).length = size) (hr : RowAt enc size h s xs) (hsz : 0 < size) : readsH h s.a (s.len * size) (xs.flatMap enc).toArray := by
  unfold readsH
  cases ha : s.a with
  | none =>
    cases xs with
    | nil => rfl
    | cons x xs =>
      obtain ⟨a, h1, _⟩ := hr.2.2 0 x rfl
      rw [ha] at h1; cases h1
  | some a =>
    refine ⟨by simp [flat_len henc, hr.1], fun i v hi => ?_⟩
    obtain ⟨q, x, r, h1, h2, rfl⟩ := flat_inv henc xs i v (by simpa using hi)
    obtain ⟨a', h3, h4⟩ := hr.2.2 q x h1
    rw [ha] at h3; cases h3
    have := h4 r v h2
    rwa [add_add'] at this

/-- append to a slice without room: a block of one's own -/
theorem append_full (henc : ∀ x, (enc x).length = size) (hcell : ∀ x, ∀ v ∈ enc x, v.oneCell' = true) {elem : TypeId} {bytes n : Nat} {zero : Array Value} (hz : zero.size = size) {src : Heap → Array Value → Prop} {ys : List α} {Q : Slc → Heap → Prop}
    (hs : sat h R) (hr : RowAt enc size h s xs) (hcap : s.cap = s.len) (hn : ys.length = n) (hsrc : src h (ys.flatMap enc).toArray) (hsz : 0 < size) (hb0 : 0 < bytes) (h0 : 0 < n) (hb : (xs.length + n) * bytes ≤ 140737488355328)
    (hq : ∀ s' h', sat h' (ownS enc size s' (xs ++ ys) :: R) → Q s' h') : HM.append elem size bytes zero s n src h Q := by
  have hl := hr.1
  have hbig : xs.length + n ≤ 140737488355328 := Nat.le_trans (Nat.le_mul_of_pos_right _ hb0) hb
  constructor
  · intro hc; omega
  · intro hc
    refine ⟨by omega, growslice_fits hc (by rw [hl]; exact hb), (xs.flatMap enc).toArray, _, row_reads henc hr hsz, hsrc, fun c hcc _ => hq _ _ ?_⟩
    have ho : (xs.flatMap enc).toArray.size = s.len * size := by simp [flat_len henc, hl]
    refine ownS_mk (o := 0) ⟨by simp, hcc, by simp [hl, hn], Nat.le_of_eq ?_, ?_⟩ hs.push_cells
    · simp only [Nat.zero_add, Array.size_append, ho, Builtin.zeroCells, Array.size_map, Array.size_range, hz, List.size_toArray, flat_len henc, hn]
      rw [hl, ← Nat.add_mul, ← Nat.add_mul]
      congr 1
      omega
    · simp only [Array.toList_append, List.flatMap_append, Nat.zero_mul, List.drop_zero]
      rw [List.take_append_of_le_length (by simp only [List.length_append, flat_len henc]; rw [hl, Nat.add_mul, hn]; exact Nat.le_refl _)]
      rw [List.take_of_length_le]
      simp only [List.length_append, flat_len henc]
      rw [hl, Nat.add_mul, hn]
      exact Nat.le_refl _

end
end Go.H
