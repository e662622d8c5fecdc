/-
  Hw: from a call over heaps to the walk that a row's frame asks for; rows that came in, read.
-/
import Derived.Test.YtmdagnoknmfhcaaDoorHm
import Derived.Below
namespace Go.H
set_option linter.unusedSimpArgs false
set_option linter.unusedVariables false
open Go.RowKit

/-- old memory stands: 'Below' -/
theorem below_of {w w' : World} {R : List Asn} (hs : Same w w') (ho : sat w'.heap (old w.heap :: R)) : Below w.heap.size w w' := by
  refine ⟨hs.os, hs.tape, hs.output, ?_, fun k hk => ?_⟩
  · rcases Nat.eq_zero_or_pos w.heap.size with h0 | hp
    · omega
    · have hg : w.heap[w.heap.size - 1]? = some w.heap[w.heap.size - 1] := Array.getElem?_eq_getElem (by omega)
      have := (Array.getElem?_eq_some_iff.1 (ho.old_get hg)).1
      omega
  · rw [ho.old_get (Array.getElem?_eq_getElem hk), Array.getElem?_eq_getElem hk]

theorem walk_of {P : Program} {f : FuncId} {args : Array Value} {w : World} {v : Value}
    (hc : HCalls P f args w.heap fun v' h' => v' = v ∧ ∃ R, sat h' (old w.heap :: R)) : Calls P f args w fun e w' => e = .returned v ∧ Below w.heap.size w w' :=
  (hc w rfl).mono fun e w' ⟨_, he, hs, hv, R, ho⟩ => ⟨by rw [he, hv], below_of hs ho⟩

/-- a row in old memory: the elements xs, each of 'size' cells -/
def RowAt {α : Type} (enc : α → List Value) (size : Nat) (h0 : Heap) (s : Slc) (xs : List α) : Prop :=
  s.len = xs.length ∧ s.len ≤ s.cap ∧ ∀ (i : Nat) x, xs[i]? = some x → ∃ a, s.a = some a ∧ ∀ j v, (enc x)[j]? = some v → cellH h0 ((a.add (i * size)).add j) = some v

section
variable {α β : Type} {enc : α → List Value} {size : Nat} {h0 h : Heap} {s : Slc} {xs : List α}

theorem idx_row (hr : RowAt enc size h0 s xs) {i : Nat} {x : α} (hx : xs[i]? = some x) {Q : Addr → Heap → Prop}
    (hq : ∀ a, (∀ j v, (enc x)[j]? = some v → cellH h0 (a.add j) = some v) → Q a h) : HM.idx s.a s.len (i : Int) size h Q := by
  obtain ⟨a, ha, hc⟩ := hr.2.2 i x hx
  have hlt := (List.getElem?_eq_some_iff.1 hx).1
  exact ⟨a, ha, by omega, by have := hr.1; omega, hq _ (by simpa using hc)⟩

theorem slice_row (hr : RowAt enc size h0 s xs) {n : Nat} (hn : n ≤ xs.length) {Q : Slc → Heap → Prop}
    (hq : ∀ s', RowAt enc size h0 s' (xs.take n) → Q s' h) : HM.slice s none (some (n : Int)) none size h Q := by
  refine ⟨0, n, s.cap, rfl, ⟨rfl, by have := hr.1; have := hr.2.1; omega⟩, rfl, hq _ ⟨?_, ?_, ?_⟩⟩
  · simp [sliceOf]; omega
  · have := hr.1; have := hr.2.1; simp [sliceOf]; omega
  · intro i x hx
    obtain ⟨a, ha, hc⟩ := hr.2.2 i x (by
      rw [List.getElem?_take] at hx
      split at hx
      · exact hx
      · cases hx)
    refine ⟨a, ?_, hc⟩
    simp only [sliceOf, ha]
    split
    · rfl
    · simp [add_zero]

end

theorem row_ints {k : IntKind} {w : World} {a : Option Addr} {len cap : Nat} {zs : List Int} (hr : (a = none ∧ len = 0 ∧ cap = 0 ∧ zs = []) ∨
    ∃ x, a = some x ∧ len ≤ cap ∧ cap ≤ maxLen ∧ zs.length = cap ∧ (∀ i, i < zs.length → w.cell? (x.add i) = some (.int k (zs.getD i 0))) ∧ ∀ n ∈ zs, (Lit.int k n).wf = true) :
    RowAt (fun x : Int => [Value.int k x]) 1 w.heap ⟨a, len, cap⟩ (zs.take len) := by
  rcases hr with ⟨rfl, rfl, rfl, rfl⟩ | ⟨x, rfl, h1, h2, h3, h4, h5⟩
  · exact ⟨rfl, Nat.le_refl _, fun i x hx => by simp at hx⟩
  · refine ⟨by simp; omega, h1, fun i y hy => ⟨x, rfl, fun j v hv => ?_⟩⟩
    rw [List.getElem?_take] at hy
    split at hy
    · have hlt := (List.getElem?_eq_some_iff.1 hy).1
      cases j with
      | succ j => simp at hv
      | zero =>
        simp only [List.getElem?_cons_zero, Option.some.injEq] at hv
        subst hv
        have h6 := h4 i hlt
        rw [List.getD_eq_getElem?_getD, hy] at h6
        rw [Nat.mul_one, add_zero]
        exact h6
    · cases hy

end Go.H
