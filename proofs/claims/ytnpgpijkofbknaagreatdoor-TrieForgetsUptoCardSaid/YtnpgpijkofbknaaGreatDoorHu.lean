/-
  Hu: stores into the elements of a slice of one's own.
-/
import Derived.Test.YtnpgpijkofbknaaGreatDoorHB
namespace Go.H
set_option linter.unusedSimpArgs false
set_option linter.unusedVariables false
section
variable {α : Type} {enc : α → List Value} {size : Nat} {h : Heap} {s : Slc} {xs : List α} {R : List Asn}

theorem flat_set (henc : ∀ x, (enc x).length = size) {j : Nat} {v : Value} (hj : j < size) : ∀ (xs : List α) (i : Nat) (x x' : α), xs[i]? = some x → enc x' = (enc x).set j v → (xs.flatMap enc).set (i * size + j) v = (xs.set i x').flatMap enc
  | [], i, x, x', hx, _ => by simp at hx
  | y :: xs, 0, x, x', hx, he => by
    simp only [List.getElem?_cons_zero, Option.some.injEq] at hx
    subst hx
    rw [List.set_cons_zero, List.flatMap_cons, List.flatMap_cons, he, Nat.zero_mul, Nat.zero_add, List.set_append_left _ _ (by rw [henc]; exact hj)]
  | y :: xs, i + 1, x, x', hx, he => by
    rw [List.getElem?_cons_succ] at hx
    rw [List.set_cons_succ, List.flatMap_cons, List.flatMap_cons, List.set_append_right _ _ (by rw [henc, Nat.succ_mul]; omega), henc]
    rw [show (i + 1) * size + j - size = i * size + j from by rw [Nat.succ_mul]; omega, flat_set henc hj xs i x x' hx he]

theorem idx_own (henc : ∀ x, (enc x).length = size) (hs : sat h (ownS enc size s xs :: R)) {i : Nat} {x : α} (hx : xs[i]? = some x) {Q : Addr → Heap → Prop}
    (hq : ∀ p : Addr, (∀ j v, (enc x)[j]? = some v → cellH h (p.add j) = some v) →
      (∀ (j : Nat) (v : Value) (x' : α) (Q' : Unit → Heap → Prop), j < size → enc x' = (enc x).set j v → v.oneCell' = true → (∀ h', sat h' (ownS enc size s (xs.set i x') :: R) → Q' () h') → HM.store1 (p.add j) v h Q') → Q p h) :
    HM.idx s.a s.len (i : Int) size h Q := by
  have hil := (List.getElem?_eq_some_iff.1 hx).1
  rcases ownS_cases hs with ⟨-, -, rfl, -⟩ | ⟨b, o, cs, ho, hs1⟩
  · simp at hx
  have hrow := hs.own_row henc
  obtain ⟨a, ha, hc⟩ := hrow.2.2 i x hx
  have hao : a = ⟨b, o * size, none⟩ := by rw [ho.a] at ha; exact (Option.some.inj ha).symm
  subst hao
  refine ⟨_, ho.a, Int.natCast_nonneg _, by rw [ho.len]; omega, ?_⟩
  rw [Int.toNat_natCast]
  refine hq _ hc fun j v x' Q' hj he hv hq' => ?_
  rw [Addr.add_at, Addr.add_at]
  have hin : o * size + i * size + j < cs.size := by
    refine Nat.lt_of_lt_of_le ?_ ho.csize
    have h1 : (i + 1) * size ≤ s.cap * size := Nat.mul_le_mul_right _ (by have := ho.le; have := ho.len; omega)
    rw [Nat.succ_mul] at h1
    rw [Nat.add_mul]
    omega
  refine store1_cells hs1 hin hv fun h' hs' => hq' h' (ownS_mk (b := b) (o := o) ⟨ho.a, ho.le, by rw [List.length_set]; exact ho.len, by rw [Array.size_setIfInBounds]; exact ho.csize, ?_⟩ hs')
  rw [Array.toList_setIfInBounds, List.drop_set, if_neg (by omega), List.take_set, ho.front, show o * size + i * size + j - o * size = i * size + j by omega]
  exact flat_set henc hj xs i x x' hx he
end
end Go.H
