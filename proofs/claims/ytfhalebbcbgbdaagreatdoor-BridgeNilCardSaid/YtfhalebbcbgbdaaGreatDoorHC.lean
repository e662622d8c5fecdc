/-
  HC: Ho: how arguments that came in are read: by the shapes of their types. The theorems on structs of k fields are written by program (wip/tools/ho.py).
  Hp: how long the strings are that stand in the elements of a slice that came in: by the reach that a reading has.
  Hy: how long the texts in a slice of texts are.
  Hn: how arguments that came in are read within reach: strings and slices come with their sizes. The theorems on structs of k fields are written by program (wip/tools/hn.py).
  Hz: a row's claim from its contract, which is told the world's shape, too.
-/
import Derived.Test.YtfhalebbcbgbdaaGreatDoorHB
import Derived.ChangeArms
import Derived.DataReads
import Derived.SizedLaws
import Derived.Handed

namespace Go.H
set_option linter.unusedSimpArgs false
set_option linter.unusedVariables false

section
variable {H : Type} (ec : TypeId × Value → H) (P : Program) (w : World) (base : Nat) (sp : Nat → Bool) (held : Bool)

/-- what reads at type t are the cells of some x that is good -/
def RdOK {α : Type} (t : TypeId) (enc : α → List Value) (good : α → Prop) : Prop :=
  ∀ fuel cs y, DataW.trod ec P w base sp held fuel t cs = some y → ∃ x, cs = enc x ∧ good x
end

section
variable {H : Type} {ec : TypeId × Value → H} {P : Program} {w : World} {base : Nat} {sp : Nat → Bool} {held : Bool}

theorem okWide_struct {t : TypeId} {fs : Array Field} {r : Reach} {b0 : Nat} {v : Value} (ht : P.underlying t = some (.struct fs)) (h : Value.okWide P w r b0 t v) : ∃ cs, v = .agg cs := by
  simp only [Value.okWide, ht] at h
  obtain ⟨cs, h1, _⟩ := h
  exact ⟨cs, h1⟩
theorem rd_int {t : TypeId} {k : IntKind} (ht : P.underlying t = some (.int k)) : RdOK ec P w base sp held t (fun x : Int => [.int k x]) (fun x => (Lit.int k x).wf = true) := fun _ _ _ h => by
  obtain ⟨n, h1, _, h2⟩ := DataW.trod_int ht h
  exact ⟨n, h1, h2⟩
theorem rd_bool {t : TypeId} (ht : P.underlying t = some .bool) : RdOK ec P w base sp held t (fun x : Bool => [.bool x]) (fun _ => True) := fun _ _ _ h => by
  obtain ⟨n, h1, _⟩ := DataW.trod_bool ht h
  exact ⟨n, h1, trivial⟩
theorem rd_str {t : TypeId} (ht : P.underlying t = some .string) : RdOK ec P w base sp held t (fun x : ByteArray => [.string x]) (fun x => x.size ≤ maxLen) := fun _ _ _ h => by
  obtain ⟨n, h1, _, h2⟩ := DataW.trod_string ht h
  exact ⟨n, h1, h2⟩

/-- a slice and its elements -/
structure GoodS {α : Type} (enc : α → List Value) (size : Nat) (h : Heap) (good : α → Prop) (x : Slc × List α) : Prop where
  row : RowAt enc size h x.1 x.2
  good : ∀ y ∈ x.2, good y
  cap : x.1.cap ≤ maxLen

theorem drop_split (cs : List Value) (a b : Nat) : cs.drop a = (cs.drop a).take b ++ cs.drop (a + b) := by
  rw [← List.drop_drop, List.take_append_drop]

theorem list_of {α : Type} {p : Nat → α → Prop} : ∀ (n : Nat), (∀ i, i < n → ∃ x, p i x) → ∃ xs : List α, xs.length = n ∧ ∀ (i : Nat) x, xs[i]? = some x → p i x
  | 0, _ => ⟨[], rfl, fun i x hx => by simp at hx⟩
  | n + 1, hp => by
    obtain ⟨xs, h1, h2⟩ := list_of n (fun i hi => hp i (by omega))
    obtain ⟨x, hx⟩ := hp n (by omega)
    refine ⟨xs ++ [x], by simp [h1], fun i y hy => ?_⟩
    rw [List.getElem?_append] at hy
    split at hy
    · exact h2 i y hy
    · rename_i hi
      have h3 := (List.getElem?_eq_some_iff.1 hy).1
      simp only [List.length_cons, List.length_nil] at h3
      have hin : i = n := by omega
      subst hin
      rw [h1, Nat.sub_self] at hy
      cases hy
      exact hx

theorem rd_slice {α : Type} {t e : TypeId} {enc : α → List Value} {good : α → Prop} (ht : P.underlying t = some (.slice e)) {size : Nat} (hc : P.cellsOf e = size) (he : RdOK ec P w base sp held e enc good) :
    RdOK ec P w base sp held t (fun x : Slc × List α => [.slice x.1.a x.1.len x.1.cap]) (GoodS enc size w.heap good) := fun fuel cs y h => by
  subst hc
  rcases DataW.trod_slice ht h with ⟨rfl, _⟩ | ⟨a, len, cap, elems, rest, n, _, rfl, _, _, hl, hm, hlen, hel, _, _⟩
  · exact ⟨(⟨none, 0, 0⟩, []), rfl, .nil, fun y hy => by simp at hy, Nat.zero_le _⟩
  · have h1 : ∀ i, i < len → ∃ x, good x ∧ ∀ j v, (enc x)[j]? = some v → cellH w.heap ((a.add (i * P.cellsOf e)).add j) = some v := by
      intro i hi
      have h2 := hel i hi
      rw [List.getElem?_eq_getElem (by omega), Option.bind_eq_some_iff] at h2
      obtain ⟨cs', h3, h4⟩ := h2
      obtain ⟨x, rfl, hg⟩ := he _ _ _ h4
      obtain ⟨_, h5, h6⟩ := World.cells?_some h3
      refine ⟨x, hg, fun j v hv => ?_⟩
      rw [← cell_eq, h6 j (by rw [← h5]; exact (List.getElem?_eq_some_iff.1 hv).1)]
      exact hv
    obtain ⟨xs, h2, h3⟩ := list_of len h1
    refine ⟨(⟨some a, len, cap⟩, xs), rfl, ⟨h2.symm, hl, fun i x hx => ⟨a, rfl, (h3 i x hx).2⟩⟩, fun y hy => ?_, hm⟩
    obtain ⟨i, hi⟩ := List.getElem?_of_mem hy
    exact (h3 i y hi).1

theorem rd_struct2 {α0 α1 : Type} {t : TypeId} {f0 f1 : Field} {e0 : α0 → List Value} {g0 : α0 → Prop} {e1 : α1 → List Value} {g1 : α1 → Prop} (ht : P.underlying t = some (.struct #[f0, f1])) (hc : P.cellsOf t = P.cellsOf f0.type + P.cellsOf f1.type) (o0 : f0.offset = 0) (o1 : f1.offset = P.cellsOf f0.type) (h0 : RdOK ec P w base sp held f0.type e0 g0) (h1 : RdOK ec P w base sp held f1.type e1 g1) :
    RdOK ec P w base sp held t (fun x : α0 × α1 => e0 x.1 ++ e1 x.2) (fun x => g0 x.1 ∧ g1 x.2) := fun fuel cs y h => by
  obtain ⟨xs, n, _, _, hl, hx, hf⟩ := DataW.trod_struct ht h
  obtain ⟨x0, c0, k0⟩ := h0 n _ (xs[0]'(by rw [hx]; simp)) ((hf 0 f0 rfl).trans (List.getElem?_eq_getElem (by rw [hx]; simp)))
  obtain ⟨x1, c1, k1⟩ := h1 n _ (xs[1]'(by rw [hx]; simp)) ((hf 1 f1 rfl).trans (List.getElem?_eq_getElem (by rw [hx]; simp)))
  refine ⟨(x0, x1), ?_, k0, k1⟩
  simp only [← c0, ← c1, o0, o1]
  rw [hc] at hl
  have l0 : cs.drop 0 = cs := rfl
  have t0 := drop_split cs (0) (P.cellsOf f0.type)
  have t1 := drop_split cs (P.cellsOf f0.type) (P.cellsOf f1.type)
  have te : cs.drop (P.cellsOf f0.type + P.cellsOf f1.type) = [] := List.drop_of_length_le (by omega)
  rw [List.drop_zero, Nat.zero_add] at t0
  refine t0.trans ?_
  refine congrArg _ (t1.trans ?_)
  rw [te, List.append_nil]

theorem rd_struct3 {α0 α1 α2 : Type} {t : TypeId} {f0 f1 f2 : Field} {e0 : α0 → List Value} {g0 : α0 → Prop} {e1 : α1 → List Value} {g1 : α1 → Prop} {e2 : α2 → List Value} {g2 : α2 → Prop} (ht : P.underlying t = some (.struct #[f0, f1, f2])) (hc : P.cellsOf t = P.cellsOf f0.type + P.cellsOf f1.type + P.cellsOf f2.type) (o0 : f0.offset = 0) (o1 : f1.offset = P.cellsOf f0.type) (o2 : f2.offset = P.cellsOf f0.type + P.cellsOf f1.type) (h0 : RdOK ec P w base sp held f0.type e0 g0) (h1 : RdOK ec P w base sp held f1.type e1 g1) (h2 : RdOK ec P w base sp held f2.type e2 g2) :
    RdOK ec P w base sp held t (fun x : α0 × α1 × α2 => e0 x.1 ++ e1 x.2.1 ++ e2 x.2.2) (fun x => g0 x.1 ∧ g1 x.2.1 ∧ g2 x.2.2) := fun fuel cs y h => by
  obtain ⟨xs, n, _, _, hl, hx, hf⟩ := DataW.trod_struct ht h
  obtain ⟨x0, c0, k0⟩ := h0 n _ (xs[0]'(by rw [hx]; simp)) ((hf 0 f0 rfl).trans (List.getElem?_eq_getElem (by rw [hx]; simp)))
  obtain ⟨x1, c1, k1⟩ := h1 n _ (xs[1]'(by rw [hx]; simp)) ((hf 1 f1 rfl).trans (List.getElem?_eq_getElem (by rw [hx]; simp)))
  obtain ⟨x2, c2, k2⟩ := h2 n _ (xs[2]'(by rw [hx]; simp)) ((hf 2 f2 rfl).trans (List.getElem?_eq_getElem (by rw [hx]; simp)))
  refine ⟨(x0, x1, x2), ?_, k0, k1, k2⟩
  simp only [← c0, ← c1, ← c2, o0, o1, o2]
  rw [hc] at hl
  have l0 : cs.drop 0 = cs := rfl
  have t0 := drop_split cs (0) (P.cellsOf f0.type)
  have t1 := drop_split cs (P.cellsOf f0.type) (P.cellsOf f1.type)
  have t2 := drop_split cs (P.cellsOf f0.type + P.cellsOf f1.type) (P.cellsOf f2.type)
  have te : cs.drop (P.cellsOf f0.type + P.cellsOf f1.type + P.cellsOf f2.type) = [] := List.drop_of_length_le (by omega)
  rw [List.drop_zero, Nat.zero_add] at t0
  refine t0.trans ?_
  simp only [List.append_assoc]
  refine congrArg _ (t1.trans ?_)
  refine congrArg _ (t2.trans ?_)
  rw [te, List.append_nil]

theorem rd_struct4 {α0 α1 α2 α3 : Type} {t : TypeId} {f0 f1 f2 f3 : Field} {e0 : α0 → List Value} {g0 : α0 → Prop} {e1 : α1 → List Value} {g1 : α1 → Prop} {e2 : α2 → List Value} {g2 : α2 → Prop} {e3 : α3 → List Value} {g3 : α3 → Prop} (ht : P.underlying t = some (.struct #[f0, f1, f2, f3])) (hc : P.cellsOf t = P.cellsOf f0.type + P.cellsOf f1.type + P.cellsOf f2.type + P.cellsOf f3.type) (o0 : f0.offset = 0) (o1 : f1.offset = P.cellsOf f0.type) (o2 : f2.offset = P.cellsOf f0.type + P.cellsOf f1.type) (o3 : f3.offset = P.cellsOf f0.type + P.cellsOf f1.type + P.cellsOf f2.type) (h0 : RdOK ec P w base sp held f0.type e0 g0) (h1 : RdOK ec P w base sp held f1.type e1 g1) (h2 : RdOK ec P w base sp held f2.type e2 g2) (h3 : RdOK ec P w base sp held f3.type e3 g3) :
    RdOK ec P w base sp held t (fun x : α0 × α1 × α2 × α3 => e0 x.1 ++ e1 x.2.1 ++ e2 x.2.2.1 ++ e3 x.2.2.2) (fun x => g0 x.1 ∧ g1 x.2.1 ∧ g2 x.2.2.1 ∧ g3 x.2.2.2) := fun fuel cs y h => by
  obtain ⟨xs, n, _, _, hl, hx, hf⟩ := DataW.trod_struct ht h
  obtain ⟨x0, c0, k0⟩ := h0 n _ (xs[0]'(by rw [hx]; simp)) ((hf 0 f0 rfl).trans (List.getElem?_eq_getElem (by rw [hx]; simp)))
  obtain ⟨x1, c1, k1⟩ := h1 n _ (xs[1]'(by rw [hx]; simp)) ((hf 1 f1 rfl).trans (List.getElem?_eq_getElem (by rw [hx]; simp)))
  obtain ⟨x2, c2, k2⟩ := h2 n _ (xs[2]'(by rw [hx]; simp)) ((hf 2 f2 rfl).trans (List.getElem?_eq_getElem (by rw [hx]; simp)))
  obtain ⟨x3, c3, k3⟩ := h3 n _ (xs[3]'(by rw [hx]; simp)) ((hf 3 f3 rfl).trans (List.getElem?_eq_getElem (by rw [hx]; simp)))
  refine ⟨(x0, x1, x2, x3), ?_, k0, k1, k2, k3⟩
  simp only [← c0, ← c1, ← c2, ← c3, o0, o1, o2, o3]
  rw [hc] at hl
  have l0 : cs.drop 0 = cs := rfl
  have t0 := drop_split cs (0) (P.cellsOf f0.type)
  have t1 := drop_split cs (P.cellsOf f0.type) (P.cellsOf f1.type)
  have t2 := drop_split cs (P.cellsOf f0.type + P.cellsOf f1.type) (P.cellsOf f2.type)
  have t3 := drop_split cs (P.cellsOf f0.type + P.cellsOf f1.type + P.cellsOf f2.type) (P.cellsOf f3.type)
  have te : cs.drop (P.cellsOf f0.type + P.cellsOf f1.type + P.cellsOf f2.type + P.cellsOf f3.type) = [] := List.drop_of_length_le (by omega)
  rw [List.drop_zero, Nat.zero_add] at t0
  refine t0.trans ?_
  simp only [List.append_assoc]
  refine congrArg _ (t1.trans ?_)
  refine congrArg _ (t2.trans ?_)
  refine congrArg _ (t3.trans ?_)
  rw [te, List.append_nil]

theorem rd_struct5 {α0 α1 α2 α3 α4 : Type} {t : TypeId} {f0 f1 f2 f3 f4 : Field} {e0 : α0 → List Value} {g0 : α0 → Prop} {e1 : α1 → List Value} {g1 : α1 → Prop} {e2 : α2 → List Value} {g2 : α2 → Prop} {e3 : α3 → List Value} {g3 : α3 → Prop} {e4 : α4 → List Value} {g4 : α4 → Prop} (ht : P.underlying t = some (.struct #[f0, f1, f2, f3, f4])) (hc : P.cellsOf t = P.cellsOf f0.type + P.cellsOf f1.type + P.cellsOf f2.type + P.cellsOf f3.type + P.cellsOf f4.type) (o0 : f0.offset = 0) (o1 : f1.offset = P.cellsOf f0.type) (o2 : f2.offset = P.cellsOf f0.type + P.cellsOf f1.type) (o3 : f3.offset = P.cellsOf f0.type + P.cellsOf f1.type + P.cellsOf f2.type) (o4 : f4.offset = P.cellsOf f0.type + P.cellsOf f1.type + P.cellsOf f2.type + P.cellsOf f3.type) (h0 : RdOK ec P w base sp held f0.type e0 g0) (h1 : RdOK ec P w base sp held f1.type e1 g1) (h2 : RdOK ec P w base sp held f2.type e2 g2) (h3 : RdOK ec P w base sp held f3.type e3 g3) (h4 : RdOK ec P w base sp held f4.type e4 g4) :
    RdOK ec P w base sp held t (fun x : α0 × α1 × α2 × α3 × α4 => e0 x.1 ++ e1 x.2.1 ++ e2 x.2.2.1 ++ e3 x.2.2.2.1 ++ e4 x.2.2.2.2) (fun x => g0 x.1 ∧ g1 x.2.1 ∧ g2 x.2.2.1 ∧ g3 x.2.2.2.1 ∧ g4 x.2.2.2.2) := fun fuel cs y h => by
  obtain ⟨xs, n, _, _, hl, hx, hf⟩ := DataW.trod_struct ht h
  obtain ⟨x0, c0, k0⟩ := h0 n _ (xs[0]'(by rw [hx]; simp)) ((hf 0 f0 rfl).trans (List.getElem?_eq_getElem (by rw [hx]; simp)))
  obtain ⟨x1, c1, k1⟩ := h1 n _ (xs[1]'(by rw [hx]; simp)) ((hf 1 f1 rfl).trans (List.getElem?_eq_getElem (by rw [hx]; simp)))
  obtain ⟨x2, c2, k2⟩ := h2 n _ (xs[2]'(by rw [hx]; simp)) ((hf 2 f2 rfl).trans (List.getElem?_eq_getElem (by rw [hx]; simp)))
  obtain ⟨x3, c3, k3⟩ := h3 n _ (xs[3]'(by rw [hx]; simp)) ((hf 3 f3 rfl).trans (List.getElem?_eq_getElem (by rw [hx]; simp)))
  obtain ⟨x4, c4, k4⟩ := h4 n _ (xs[4]'(by rw [hx]; simp)) ((hf 4 f4 rfl).trans (List.getElem?_eq_getElem (by rw [hx]; simp)))
  refine ⟨(x0, x1, x2, x3, x4), ?_, k0, k1, k2, k3, k4⟩
  simp only [← c0, ← c1, ← c2, ← c3, ← c4, o0, o1, o2, o3, o4]
  rw [hc] at hl
  have l0 : cs.drop 0 = cs := rfl
  have t0 := drop_split cs (0) (P.cellsOf f0.type)
  have t1 := drop_split cs (P.cellsOf f0.type) (P.cellsOf f1.type)
  have t2 := drop_split cs (P.cellsOf f0.type + P.cellsOf f1.type) (P.cellsOf f2.type)
  have t3 := drop_split cs (P.cellsOf f0.type + P.cellsOf f1.type + P.cellsOf f2.type) (P.cellsOf f3.type)
  have t4 := drop_split cs (P.cellsOf f0.type + P.cellsOf f1.type + P.cellsOf f2.type + P.cellsOf f3.type) (P.cellsOf f4.type)
  have te : cs.drop (P.cellsOf f0.type + P.cellsOf f1.type + P.cellsOf f2.type + P.cellsOf f3.type + P.cellsOf f4.type) = [] := List.drop_of_length_le (by omega)
  rw [List.drop_zero, Nat.zero_add] at t0
  refine t0.trans ?_
  simp only [List.append_assoc]
  refine congrArg _ (t1.trans ?_)
  refine congrArg _ (t2.trans ?_)
  refine congrArg _ (t3.trans ?_)
  refine congrArg _ (t4.trans ?_)
  rw [te, List.append_nil]

theorem rd_struct6 {α0 α1 α2 α3 α4 α5 : Type} {t : TypeId} {f0 f1 f2 f3 f4 f5 : Field} {e0 : α0 → List Value} {g0 : α0 → Prop} {e1 : α1 → List Value} {g1 : α1 → Prop} {e2 : α2 → List Value} {g2 : α2 → Prop} {e3 : α3 → List Value} {g3 : α3 → Prop} {e4 : α4 → List Value} {g4 : α4 → Prop} {e5 : α5 → List Value} {g5 : α5 → Prop} (ht : P.underlying t = some (.struct #[f0, f1, f2, f3, f4, f5])) (hc : P.cellsOf t = P.cellsOf f0.type + P.cellsOf f1.type + P.cellsOf f2.type + P.cellsOf f3.type + P.cellsOf f4.type + P.cellsOf f5.type) (o0 : f0.offset = 0) (o1 : f1.offset = P.cellsOf f0.type) (o2 : f2.offset = P.cellsOf f0.type + P.cellsOf f1.type) (o3 : f3.offset = P.cellsOf f0.type + P.cellsOf f1.type + P.cellsOf f2.type) (o4 : f4.offset = P.cellsOf f0.type + P.cellsOf f1.type + P.cellsOf f2.type + P.cellsOf f3.type) (o5 : f5.offset = P.cellsOf f0.type + P.cellsOf f1.type + P.cellsOf f2.type + P.cellsOf f3.type + P.cellsOf f4.type) (h0 : RdOK ec P w base sp held f0.type e0 g0) (h1 : RdOK ec P w base sp held f1.type e1 g1) (h2 : RdOK ec P w base sp held f2.type e2 g2) (h3 : RdOK ec P w base sp held f3.type e3 g3) (h4 : RdOK ec P w base sp held f4.type e4 g4) (h5 : RdOK ec P w base sp held f5.type e5 g5) :
    RdOK ec P w base sp held t (fun x : α0 × α1 × α2 × α3 × α4 × α5 => e0 x.1 ++ e1 x.2.1 ++ e2 x.2.2.1 ++ e3 x.2.2.2.1 ++ e4 x.2.2.2.2.1 ++ e5 x.2.2.2.2.2) (fun x => g0 x.1 ∧ g1 x.2.1 ∧ g2 x.2.2.1 ∧ g3 x.2.2.2.1 ∧ g4 x.2.2.2.2.1 ∧ g5 x.2.2.2.2.2) := fun fuel cs y h => by
  obtain ⟨xs, n, _, _, hl, hx, hf⟩ := DataW.trod_struct ht h
  obtain ⟨x0, c0, k0⟩ := h0 n _ (xs[0]'(by rw [hx]; simp)) ((hf 0 f0 rfl).trans (List.getElem?_eq_getElem (by rw [hx]; simp)))
  obtain ⟨x1, c1, k1⟩ := h1 n _ (xs[1]'(by rw [hx]; simp)) ((hf 1 f1 rfl).trans (List.getElem?_eq_getElem (by rw [hx]; simp)))
  obtain ⟨x2, c2, k2⟩ := h2 n _ (xs[2]'(by rw [hx]; simp)) ((hf 2 f2 rfl).trans (List.getElem?_eq_getElem (by rw [hx]; simp)))
  obtain ⟨x3, c3, k3⟩ := h3 n _ (xs[3]'(by rw [hx]; simp)) ((hf 3 f3 rfl).trans (List.getElem?_eq_getElem (by rw [hx]; simp)))
  obtain ⟨x4, c4, k4⟩ := h4 n _ (xs[4]'(by rw [hx]; simp)) ((hf 4 f4 rfl).trans (List.getElem?_eq_getElem (by rw [hx]; simp)))
  obtain ⟨x5, c5, k5⟩ := h5 n _ (xs[5]'(by rw [hx]; simp)) ((hf 5 f5 rfl).trans (List.getElem?_eq_getElem (by rw [hx]; simp)))
  refine ⟨(x0, x1, x2, x3, x4, x5), ?_, k0, k1, k2, k3, k4, k5⟩
  simp only [← c0, ← c1, ← c2, ← c3, ← c4, ← c5, o0, o1, o2, o3, o4, o5]
  rw [hc] at hl
  have l0 : cs.drop 0 = cs := rfl
  have t0 := drop_split cs (0) (P.cellsOf f0.type)
  have t1 := drop_split cs (P.cellsOf f0.type) (P.cellsOf f1.type)
  have t2 := drop_split cs (P.cellsOf f0.type + P.cellsOf f1.type) (P.cellsOf f2.type)
  have t3 := drop_split cs (P.cellsOf f0.type + P.cellsOf f1.type + P.cellsOf f2.type) (P.cellsOf f3.type)
  have t4 := drop_split cs (P.cellsOf f0.type + P.cellsOf f1.type + P.cellsOf f2.type + P.cellsOf f3.type) (P.cellsOf f4.type)
  have t5 := drop_split cs (P.cellsOf f0.type + P.cellsOf f1.type + P.cellsOf f2.type + P.cellsOf f3.type + P.cellsOf f4.type) (P.cellsOf f5.type)
  have te : cs.drop (P.cellsOf f0.type + P.cellsOf f1.type + P.cellsOf f2.type + P.cellsOf f3.type + P.cellsOf f4.type + P.cellsOf f5.type) = [] := List.drop_of_length_le (by omega)
  rw [List.drop_zero, Nat.zero_add] at t0
  refine t0.trans ?_
  simp only [List.append_assoc]
  refine congrArg _ (t1.trans ?_)
  refine congrArg _ (t2.trans ?_)
  refine congrArg _ (t3.trans ?_)
  refine congrArg _ (t4.trans ?_)
  refine congrArg _ (t5.trans ?_)
  rw [te, List.append_nil]

theorem rd_struct7 {α0 α1 α2 α3 α4 α5 α6 : Type} {t : TypeId} {f0 f1 f2 f3 f4 f5 f6 : Field} {e0 : α0 → List Value} {g0 : α0 → Prop} {e1 : α1 → List Value} {g1 : α1 → Prop} {e2 : α2 → List Value} {g2 : α2 → Prop} {e3 : α3 → List Value} {g3 : α3 → Prop} {e4 : α4 → List Value} {g4 : α4 → Prop} {e5 : α5 → List Value} {g5 : α5 → Prop} {e6 : α6 → List Value} {g6 : α6 → Prop} (ht : P.underlying t = some (.struct #[f0, f1, f2, f3, f4, f5, f6])) (hc : P.cellsOf t = P.cellsOf f0.type + P.cellsOf f1.type + P.cellsOf f2.type + P.cellsOf f3.type + P.cellsOf f4.type + P.cellsOf f5.type + P.cellsOf f6.type) (o0 : f0.offset = 0) (o1 : f1.offset = P.cellsOf f0.type) (o2 : f2.offset = P.cellsOf f0.type + P.cellsOf f1.type) (o3 : f3.offset = P.cellsOf f0.type + P.cellsOf f1.type + P.cellsOf f2.type) (o4 : f4.offset = P.cellsOf f0.type + P.cellsOf f1.type + P.cellsOf f2.type + P.cellsOf f3.type) (o5 : f5.offset = P.cellsOf f0.type + P.cellsOf f1.type + P.cellsOf f2.type + P.cellsOf f3.type + P.cellsOf f4.type) (o6 : f6.offset = P.cellsOf f0.type + P.cellsOf f1.type + P.cellsOf f2.type + P.cellsOf f3.type + P.cellsOf f4.type + P.cellsOf f5.type) (h0 : RdOK ec P w base sp held f0.type e0 g0) (h1 : RdOK ec P w base sp held f1.type e1 g1) (h2 : RdOK ec P w base sp held f2.type e2 g2) (h3 : RdOK ec P w base sp held f3.type e3 g3) (h4 : RdOK ec P w base sp held f4.type e4 g4) (h5 : RdOK ec P w base sp held f5.type e5 g5) (h6 : RdOK ec P w base sp held f6.type e6 g6) :
    RdOK ec P w base sp held t (fun x : α0 × α1 × α2 × α3 × α4 × α5 × α6 => e0 x.1 ++ e1 x.2.1 ++ e2 x.2.2.1 ++ e3 x.2.2.2.1 ++ e4 x.2.2.2.2.1 ++ e5 x.2.2.2.2.2.1 ++ e6 x.2.2.2.2.2.2) (fun x => g0 x.1 ∧ g1 x.2.1 ∧ g2 x.2.2.1 ∧ g3 x.2.2.2.1 ∧ g4 x.2.2.2.2.1 ∧ g5 x.2.2.2.2.2.1 ∧ g6 x.2.2.2.2.2.2) := fun fuel cs y h => by
  obtain ⟨xs, n, _, _, hl, hx, hf⟩ := DataW.trod_struct ht h
  obtain ⟨x0, c0, k0⟩ := h0 n _ (xs[0]'(by rw [hx]; simp)) ((hf 0 f0 rfl).trans (List.getElem?_eq_getElem (by rw [hx]; simp)))
  obtain ⟨x1, c1, k1⟩ := h1 n _ (xs[1]'(by rw [hx]; simp)) ((hf 1 f1 rfl).trans (List.getElem?_eq_getElem (by rw [hx]; simp)))
  obtain ⟨x2, c2, k2⟩ := h2 n _ (xs[2]'(by rw [hx]; simp)) ((hf 2 f2 rfl).trans (List.getElem?_eq_getElem (by rw [hx]; simp)))
  obtain ⟨x3, c3, k3⟩ := h3 n _ (xs[3]'(by rw [hx]; simp)) ((hf 3 f3 rfl).trans (List.getElem?_eq_getElem (by rw [hx]; simp)))
  obtain ⟨x4, c4, k4⟩ := h4 n _ (xs[4]'(by rw [hx]; simp)) ((hf 4 f4 rfl).trans (List.getElem?_eq_getElem (by rw [hx]; simp)))
  obtain ⟨x5, c5, k5⟩ := h5 n _ (xs[5]'(by rw [hx]; simp)) ((hf 5 f5 rfl).trans (List.getElem?_eq_getElem (by rw [hx]; simp)))
  obtain ⟨x6, c6, k6⟩ := h6 n _ (xs[6]'(by rw [hx]; simp)) ((hf 6 f6 rfl).trans (List.getElem?_eq_getElem (by rw [hx]; simp)))
  refine ⟨(x0, x1, x2, x3, x4, x5, x6), ?_, k0, k1, k2, k3, k4, k5, k6⟩
  simp only [← c0, ← c1, ← c2, ← c3, ← c4, ← c5, ← c6, o0, o1, o2, o3, o4, o5, o6]
  rw [hc] at hl
  have l0 : cs.drop 0 = cs := rfl
  have t0 := drop_split cs (0) (P.cellsOf f0.type)
  have t1 := drop_split cs (P.cellsOf f0.type) (P.cellsOf f1.type)
  have t2 := drop_split cs (P.cellsOf f0.type + P.cellsOf f1.type) (P.cellsOf f2.type)
  have t3 := drop_split cs (P.cellsOf f0.type + P.cellsOf f1.type + P.cellsOf f2.type) (P.cellsOf f3.type)
  have t4 := drop_split cs (P.cellsOf f0.type + P.cellsOf f1.type + P.cellsOf f2.type + P.cellsOf f3.type) (P.cellsOf f4.type)
  have t5 := drop_split cs (P.cellsOf f0.type + P.cellsOf f1.type + P.cellsOf f2.type + P.cellsOf f3.type + P.cellsOf f4.type) (P.cellsOf f5.type)
  have t6 := drop_split cs (P.cellsOf f0.type + P.cellsOf f1.type + P.cellsOf f2.type + P.cellsOf f3.type + P.cellsOf f4.type + P.cellsOf f5.type) (P.cellsOf f6.type)
  have te : cs.drop (P.cellsOf f0.type + P.cellsOf f1.type + P.cellsOf f2.type + P.cellsOf f3.type + P.cellsOf f4.type + P.cellsOf f5.type + P.cellsOf f6.type) = [] := List.drop_of_length_le (by omega)
  rw [List.drop_zero, Nat.zero_add] at t0
  refine t0.trans ?_
  simp only [List.append_assoc]
  refine congrArg _ (t1.trans ?_)
  refine congrArg _ (t2.trans ?_)
  refine congrArg _ (t3.trans ?_)
  refine congrArg _ (t4.trans ?_)
  refine congrArg _ (t5.trans ?_)
  refine congrArg _ (t6.trans ?_)
  rw [te, List.append_nil]

theorem rd_struct8 {α0 α1 α2 α3 α4 α5 α6 α7 : Type} {t : TypeId} {f0 f1 f2 f3 f4 f5 f6 f7 : Field} {e0 : α0 → List Value} {g0 : α0 → Prop} {e1 : α1 → List Value} {g1 : α1 → Prop} {e2 : α2 → List Value} {g2 : α2 → Prop} {e3 : α3 → List Value} {g3 : α3 → Prop} {e4 : α4 → List Value} {g4 : α4 → Prop} {e5 : α5 → List Value} {g5 : α5 → Prop} {e6 : α6 → List Value} {g6 : α6 → Prop} {e7 : α7 → List Value} {g7 : α7 → Prop} (ht : P.underlying t = some (.struct #[f0, f1, f2, f3, f4, f5, f6, f7])) (hc : P.cellsOf t = P.cellsOf f0.type + P.cellsOf f1.type + P.cellsOf f2.type + P.cellsOf f3.type + P.cellsOf f4.type + P.cellsOf f5.type + P.cellsOf f6.type + P.cellsOf f7.type) (o0 : f0.offset = 0) (o1 : f1.offset = P.cellsOf f0.type) (o2 : f2.offset = P.cellsOf f0.type + P.cellsOf f1.type) (o3 : f3.offset = P.cellsOf f0.type + P.cellsOf f1.type + P.cellsOf f2.type) (o4 : f4.offset = P.cellsOf f0.type + P.cellsOf f1.type + P.cellsOf f2.type + P.cellsOf f3.type) (o5 : f5.offset = P.cellsOf f0.type + P.cellsOf f1.type + P.cellsOf f2.type + P.cellsOf f3.type + P.cellsOf f4.type) (o6 : f6.offset = P.cellsOf f0.type + P.cellsOf f1.type + P.cellsOf f2.type + P.cellsOf f3.type + P.cellsOf f4.type + P.cellsOf f5.type) (o7 : f7.offset = P.cellsOf f0.type + P.cellsOf f1.type + P.cellsOf f2.type + P.cellsOf f3.type + P.cellsOf f4.type + P.cellsOf f5.type + P.cellsOf f6.type) (h0 : RdOK ec P w base sp held f0.type e0 g0) (h1 : RdOK ec P w base sp held f1.type e1 g1) (h2 : RdOK ec P w base sp held f2.type e2 g2) (h3 : RdOK ec P w base sp held f3.type e3 g3) (h4 : RdOK ec P w base sp held f4.type e4 g4) (h5 : RdOK ec P w base sp held f5.type e5 g5) (h6 : RdOK ec P w base sp held f6.type e6 g6) (h7 : RdOK ec P w base sp held f7.type e7 g7) :
    RdOK ec P w base sp held t (fun x : α0 × α1 × α2 × α3 × α4 × α5 × α6 × α7 => e0 x.1 ++ e1 x.2.1 ++ e2 x.2.2.1 ++ e3 x.2.2.2.1 ++ e4 x.2.2.2.2.1 ++ e5 x.2.2.2.2.2.1 ++ e6 x.2.2.2.2.2.2.1 ++ e7 x.2.2.2.2.2.2.2) (fun x => g0 x.1 ∧ g1 x.2.1 ∧ g2 x.2.2.1 ∧ g3 x.2.2.2.1 ∧ g4 x.2.2.2.2.1 ∧ g5 x.2.2.2.2.2.1 ∧ g6 x.2.2.2.2.2.2.1 ∧ g7 x.2.2.2.2.2.2.2) := fun fuel cs y h => by
  obtain ⟨xs, n, _, _, hl, hx, hf⟩ := DataW.trod_struct ht h
  obtain ⟨x0, c0, k0⟩ := h0 n _ (xs[0]'(by rw [hx]; simp)) ((hf 0 f0 rfl).trans (List.getElem?_eq_getElem (by rw [hx]; simp)))
  obtain ⟨x1, c1, k1⟩ := h1 n _ (xs[1]'(by rw [hx]; simp)) ((hf 1 f1 rfl).trans (List.getElem?_eq_getElem (by rw [hx]; simp)))
  obtain ⟨x2, c2, k2⟩ := h2 n _ (xs[2]'(by rw [hx]; simp)) ((hf 2 f2 rfl).trans (List.getElem?_eq_getElem (by rw [hx]; simp)))
  obtain ⟨x3, c3, k3⟩ := h3 n _ (xs[3]'(by rw [hx]; simp)) ((hf 3 f3 rfl).trans (List.getElem?_eq_getElem (by rw [hx]; simp)))
  obtain ⟨x4, c4, k4⟩ := h4 n _ (xs[4]'(by rw [hx]; simp)) ((hf 4 f4 rfl).trans (List.getElem?_eq_getElem (by rw [hx]; simp)))
  obtain ⟨x5, c5, k5⟩ := h5 n _ (xs[5]'(by rw [hx]; simp)) ((hf 5 f5 rfl).trans (List.getElem?_eq_getElem (by rw [hx]; simp)))
  obtain ⟨x6, c6, k6⟩ := h6 n _ (xs[6]'(by rw [hx]; simp)) ((hf 6 f6 rfl).trans (List.getElem?_eq_getElem (by rw [hx]; simp)))
  obtain ⟨x7, c7, k7⟩ := h7 n _ (xs[7]'(by rw [hx]; simp)) ((hf 7 f7 rfl).trans (List.getElem?_eq_getElem (by rw [hx]; simp)))
  refine ⟨(x0, x1, x2, x3, x4, x5, x6, x7), ?_, k0, k1, k2, k3, k4, k5, k6, k7⟩
  simp only [← c0, ← c1, ← c2, ← c3, ← c4, ← c5, ← c6, ← c7, o0, o1, o2, o3, o4, o5, o6, o7]
  rw [hc] at hl
  have l0 : cs.drop 0 = cs := rfl
  have t0 := drop_split cs (0) (P.cellsOf f0.type)
  have t1 := drop_split cs (P.cellsOf f0.type) (P.cellsOf f1.type)
  have t2 := drop_split cs (P.cellsOf f0.type + P.cellsOf f1.type) (P.cellsOf f2.type)
  have t3 := drop_split cs (P.cellsOf f0.type + P.cellsOf f1.type + P.cellsOf f2.type) (P.cellsOf f3.type)
  have t4 := drop_split cs (P.cellsOf f0.type + P.cellsOf f1.type + P.cellsOf f2.type + P.cellsOf f3.type) (P.cellsOf f4.type)
  have t5 := drop_split cs (P.cellsOf f0.type + P.cellsOf f1.type + P.cellsOf f2.type + P.cellsOf f3.type + P.cellsOf f4.type) (P.cellsOf f5.type)
  have t6 := drop_split cs (P.cellsOf f0.type + P.cellsOf f1.type + P.cellsOf f2.type + P.cellsOf f3.type + P.cellsOf f4.type + P.cellsOf f5.type) (P.cellsOf f6.type)
  have t7 := drop_split cs (P.cellsOf f0.type + P.cellsOf f1.type + P.cellsOf f2.type + P.cellsOf f3.type + P.cellsOf f4.type + P.cellsOf f5.type + P.cellsOf f6.type) (P.cellsOf f7.type)
  have te : cs.drop (P.cellsOf f0.type + P.cellsOf f1.type + P.cellsOf f2.type + P.cellsOf f3.type + P.cellsOf f4.type + P.cellsOf f5.type + P.cellsOf f6.type + P.cellsOf f7.type) = [] := List.drop_of_length_le (by omega)
  rw [List.drop_zero, Nat.zero_add] at t0
  refine t0.trans ?_
  simp only [List.append_assoc]
  refine congrArg _ (t1.trans ?_)
  refine congrArg _ (t2.trans ?_)
  refine congrArg _ (t3.trans ?_)
  refine congrArg _ (t4.trans ?_)
  refine congrArg _ (t5.trans ?_)
  refine congrArg _ (t6.trans ?_)
  refine congrArg _ (t7.trans ?_)
  rw [te, List.append_nil]

theorem rd_struct9 {α0 α1 α2 α3 α4 α5 α6 α7 α8 : Type} {t : TypeId} {f0 f1 f2 f3 f4 f5 f6 f7 f8 : Field} {e0 : α0 → List Value} {g0 : α0 → Prop} {e1 : α1 → List Value} {g1 : α1 → Prop} {e2 : α2 → List Value} {g2 : α2 → Prop} {e3 : α3 → List Value} {g3 : α3 → Prop} {e4 : α4 → List Value} {g4 : α4 → Prop} {e5 : α5 → List Value} {g5 : α5 → Prop} {e6 : α6 → List Value} {g6 : α6 → Prop} {e7 : α7 → List Value} {g7 : α7 → Prop} {e8 : α8 → List Value} {g8 : α8 → Prop} (ht : P.underlying t = some (.struct #[f0, f1, f2, f3, f4, f5, f6, f7, f8])) (hc : P.cellsOf t = P.cellsOf f0.type + P.cellsOf f1.type + P.cellsOf f2.type + P.cellsOf f3.type + P.cellsOf f4.type + P.cellsOf f5.type + P.cellsOf f6.type + P.cellsOf f7.type + P.cellsOf f8.type) (o0 : f0.offset = 0) (o1 : f1.offset = P.cellsOf f0.type) (o2 : f2.offset = P.cellsOf f0.type + P.cellsOf f1.type) (o3 : f3.offset = P.cellsOf f0.type + P.cellsOf f1.type + P.cellsOf f2.type) (o4 : f4.offset = P.cellsOf f0.type + P.cellsOf f1.type + P.cellsOf f2.type + P.cellsOf f3.type) (o5 : f5.offset = P.cellsOf f0.type + P.cellsOf f1.type + P.cellsOf f2.type + P.cellsOf f3.type + P.cellsOf f4.type) (o6 : f6.offset = P.cellsOf f0.type + P.cellsOf f1.type + P.cellsOf f2.type + P.cellsOf f3.type + P.cellsOf f4.type + P.cellsOf f5.type) (o7 : f7.offset = P.cellsOf f0.type + P.cellsOf f1.type + P.cellsOf f2.type + P.cellsOf f3.type + P.cellsOf f4.type + P.cellsOf f5.type + P.cellsOf f6.type) (o8 : f8.offset = P.cellsOf f0.type + P.cellsOf f1.type + P.cellsOf f2.type + P.cellsOf f3.type + P.cellsOf f4.type + P.cellsOf f5.type + P.cellsOf f6.type + P.cellsOf f7.type) (h0 : RdOK ec P w base sp held f0.type e0 g0) (h1 : RdOK ec P w base sp held f1.type e1 g1) (h2 : RdOK ec P w base sp held f2.type e2 g2) (h3 : RdOK ec P w base sp held f3.type e3 g3) (h4 : RdOK ec P w base sp held f4.type e4 g4) (h5 : RdOK ec P w base sp held f5.type e5 g5) (h6 : RdOK ec P w base sp held f6.type e6 g6) (h7 : RdOK ec P w base sp held f7.type e7 g7) (h8 : RdOK ec P w base sp held f8.type e8 g8) :
    RdOK ec P w base sp held t (fun x : α0 × α1 × α2 × α3 × α4 × α5 × α6 × α7 × α8 => e0 x.1 ++ e1 x.2.1 ++ e2 x.2.2.1 ++ e3 x.2.2.2.1 ++ e4 x.2.2.2.2.1 ++ e5 x.2.2.2.2.2.1 ++ e6 x.2.2.2.2.2.2.1 ++ e7 x.2.2.2.2.2.2.2.1 ++ e8 x.2.2.2.2.2.2.2.2) (fun x => g0 x.1 ∧ g1 x.2.1 ∧ g2 x.2.2.1 ∧ g3 x.2.2.2.1 ∧ g4 x.2.2.2.2.1 ∧ g5 x.2.2.2.2.2.1 ∧ g6 x.2.2.2.2.2.2.1 ∧ g7 x.2.2.2.2.2.2.2.1 ∧ g8 x.2.2.2.2.2.2.2.2) := fun fuel cs y h => by
  obtain ⟨xs, n, _, _, hl, hx, hf⟩ := DataW.trod_struct ht h
  obtain ⟨x0, c0, k0⟩ := h0 n _ (xs[0]'(by rw [hx]; simp)) ((hf 0 f0 rfl).trans (List.getElem?_eq_getElem (by rw [hx]; simp)))
  obtain ⟨x1, c1, k1⟩ := h1 n _ (xs[1]'(by rw [hx]; simp)) ((hf 1 f1 rfl).trans (List.getElem?_eq_getElem (by rw [hx]; simp)))
  obtain ⟨x2, c2, k2⟩ := h2 n _ (xs[2]'(by rw [hx]; simp)) ((hf 2 f2 rfl).trans (List.getElem?_eq_getElem (by rw [hx]; simp)))
  obtain ⟨x3, c3, k3⟩ := h3 n _ (xs[3]'(by rw [hx]; simp)) ((hf 3 f3 rfl).trans (List.getElem?_eq_getElem (by rw [hx]; simp)))
  obtain ⟨x4, c4, k4⟩ := h4 n _ (xs[4]'(by rw [hx]; simp)) ((hf 4 f4 rfl).trans (List.getElem?_eq_getElem (by rw [hx]; simp)))
  obtain ⟨x5, c5, k5⟩ := h5 n _ (xs[5]'(by rw [hx]; simp)) ((hf 5 f5 rfl).trans (List.getElem?_eq_getElem (by rw [hx]; simp)))
  obtain ⟨x6, c6, k6⟩ := h6 n _ (xs[6]'(by rw [hx]; simp)) ((hf 6 f6 rfl).trans (List.getElem?_eq_getElem (by rw [hx]; simp)))
  obtain ⟨x7, c7, k7⟩ := h7 n _ (xs[7]'(by rw [hx]; simp)) ((hf 7 f7 rfl).trans (List.getElem?_eq_getElem (by rw [hx]; simp)))
  obtain ⟨x8, c8, k8⟩ := h8 n _ (xs[8]'(by rw [hx]; simp)) ((hf 8 f8 rfl).trans (List.getElem?_eq_getElem (by rw [hx]; simp)))
  refine ⟨(x0, x1, x2, x3, x4, x5, x6, x7, x8), ?_, k0, k1, k2, k3, k4, k5, k6, k7, k8⟩
  simp only [← c0, ← c1, ← c2, ← c3, ← c4, ← c5, ← c6, ← c7, ← c8, o0, o1, o2, o3, o4, o5, o6, o7, o8]
  rw [hc] at hl
  have l0 : cs.drop 0 = cs := rfl
  have t0 := drop_split cs (0) (P.cellsOf f0.type)
  have t1 := drop_split cs (P.cellsOf f0.type) (P.cellsOf f1.type)
  have t2 := drop_split cs (P.cellsOf f0.type + P.cellsOf f1.type) (P.cellsOf f2.type)
  have t3 := drop_split cs (P.cellsOf f0.type + P.cellsOf f1.type + P.cellsOf f2.type) (P.cellsOf f3.type)
  have t4 := drop_split cs (P.cellsOf f0.type + P.cellsOf f1.type + P.cellsOf f2.type + P.cellsOf f3.type) (P.cellsOf f4.type)
  have t5 := drop_split cs (P.cellsOf f0.type + P.cellsOf f1.type + P.cellsOf f2.type + P.cellsOf f3.type + P.cellsOf f4.type) (P.cellsOf f5.type)
  have t6 := drop_split cs (P.cellsOf f0.type + P.cellsOf f1.type + P.cellsOf f2.type + P.cellsOf f3.type + P.cellsOf f4.type + P.cellsOf f5.type) (P.cellsOf f6.type)
  have t7 := drop_split cs (P.cellsOf f0.type + P.cellsOf f1.type + P.cellsOf f2.type + P.cellsOf f3.type + P.cellsOf f4.type + P.cellsOf f5.type + P.cellsOf f6.type) (P.cellsOf f7.type)
  have t8 := drop_split cs (P.cellsOf f0.type + P.cellsOf f1.type + P.cellsOf f2.type + P.cellsOf f3.type + P.cellsOf f4.type + P.cellsOf f5.type + P.cellsOf f6.type + P.cellsOf f7.type) (P.cellsOf f8.type)
  have te : cs.drop (P.cellsOf f0.type + P.cellsOf f1.type + P.cellsOf f2.type + P.cellsOf f3.type + P.cellsOf f4.type + P.cellsOf f5.type + P.cellsOf f6.type + P.cellsOf f7.type + P.cellsOf f8.type) = [] := List.drop_of_length_le (by omega)
  rw [List.drop_zero, Nat.zero_add] at t0
  refine t0.trans ?_
  simp only [List.append_assoc]
  refine congrArg _ (t1.trans ?_)
  refine congrArg _ (t2.trans ?_)
  refine congrArg _ (t3.trans ?_)
  refine congrArg _ (t4.trans ?_)
  refine congrArg _ (t5.trans ?_)
  refine congrArg _ (t6.trans ?_)
  refine congrArg _ (t7.trans ?_)
  refine congrArg _ (t8.trans ?_)
  rw [te, List.append_nil]

end

end Go.H

namespace Go.H
set_option linter.unusedSimpArgs false
set_option linter.unusedVariables false

theorem weightsAll_mem {H : Type} {P : Program} {e : TypeId} : ∀ {l : List (DataW H)} {d : DataW H}, d ∈ l → ∀ n ∈ d.weights P e, n ∈ DataW.weightsAll P e l
  | [], _, h, _, _ => by simp at h
  | x :: l, d, h, n, hn => by
    simp only [DataW.weightsAll, List.mem_append]
    rcases List.mem_cons.1 h with rfl | h
    · exact .inl hn
    · exact .inr (weightsAll_mem h n hn)

theorem sized_rows {H : Type} {ec : TypeId × Value → H} {P : Program} {w : World} {base : Nat} {sp : Nat → Bool} {held : Bool} {α : Type} {enc : α → List Value} {size : Nat} {t e : TypeId} {fs : Array Field} {f : Field} {j o : Nat}
    (ht : P.underlying t = some (.slice e)) (he : P.underlying e = some (.struct fs)) (hc : P.cellsOf e = size) (hf : fs[j]? = some f) (hs : P.underlying f.type = some .string) (ho : f.offset = o) (h1 : P.cellsOf f.type = 1)
    {x : Slc × List α} {d : DataW H} {p : List MemPlace} (h : ∃ fuel, DataW.trod ec P w base sp held fuel t (Value.slice x.1.a x.1.len x.1.cap).cells.toList = some (d, p)) (hw : ∀ n ∈ d.weights P t, n ≤ reachBytes)
    (hr : RowAt enc size w.heap x.1 x.2) {str : α → ByteArray} (hstr : ∀ y, (enc y)[o]? = some (.string (str y))) : ∀ y ∈ x.2, (str y).size ≤ reachBytes := by
  subst hc
  obtain ⟨fuel, h⟩ := h
  have hcells : (Value.slice x.1.a x.1.len x.1.cap).cells.toList = [.slice x.1.a x.1.len x.1.cap] := rfl
  rw [hcells] at h
  intro y hy
  obtain ⟨i, hi⟩ := List.getElem?_of_mem hy
  have hil := (List.getElem?_eq_some_iff.1 hi).1
  obtain ⟨a', ha', hca⟩ := hr.2.2 i y hi
  have hlen := hr.1
  rcases DataW.trod_slice ht h with ⟨h2, _⟩ | ⟨a, len, cap, elems, rest, n, _, h2, h3, _, _, _, hel2, hel, _, _⟩
  · simp only [List.cons.injEq, Value.slice.injEq, and_true] at h2
    omega
  · simp only [List.cons.injEq, Value.slice.injEq, and_true] at h2
    obtain ⟨q1, q2, q3⟩ := h2
    have hilen : i < len := by omega
    have h4 := hel i hilen
    rw [List.getElem?_eq_getElem (by omega), Option.bind_eq_some_iff] at h4
    obtain ⟨cs', h5, h6⟩ := h4
    obtain ⟨h50, h51, h52⟩ := World.cells?_some h5
    obtain ⟨xs, n', _, hx1, _, hx3, hx4⟩ := DataW.trod_struct he h6
    have h7 := hx4 j f hf
    have hjx : j < xs.length := by
      have := (Array.getElem?_eq_some_iff.1 hf).1
      omega
    rw [List.getElem?_eq_getElem hjx, h1, ho] at h7
    obtain ⟨s, h8, h9, _⟩ := DataW.trod_string hs h7
    have hcs : cs'[o]? = some (.string s) := by
      have := congrArg (·[0]?) h8
      simpa [List.getElem?_take, List.getElem?_drop] using this
    have hol : o < cs'.length := (List.getElem?_eq_some_iff.1 hcs).1
    have hcell := h52 o (by omega)
    rw [hcs] at hcell
    have ha : a' = a := by rw [ha'] at q1; exact Option.some.inj q1
    subst ha
    have hc2 := hca o _ (hstr y)
    rw [← cell_eq, hcell] at hc2
    have hss : s = str y := by
      have := Option.some.inj hc2
      cases this
      rfl
    subst hss
    have hie : i < elems.length := by omega
    have hd : d = .slice (elems.map (·.1)) (rest.map (·.1)) := congrArg Prod.fst h3
    have hm : (str y).data.toList.length ∈ d.weights P t := by
      rw [hd]
      simp only [DataW.weights, ht, List.mem_cons, List.mem_append]
      refine .inr (.inl (weightsAll_mem (d := (elems[i]'hie).1) (List.mem_map_of_mem (List.getElem_mem hie)) _ ?_))
      have he1 : (elems[i]'hie).1 = .agg (xs.map (·.1)) := by rw [hx1]
      rw [he1]
      simp only [DataW.weights, he]
      refine DataW.weights_mem_each (j := j) (t := f.type) (d := (xs[j]'hjx).1) ?_ ?_ _ ?_
      · rw [List.getElem?_map, Array.getElem?_toList, hf]; rfl
      · rw [List.getElem?_map, List.getElem?_eq_getElem hjx]; rfl
      · rw [h9]
        simp [DataW.weights]
    have := hw _ hm
    rw [Array.length_toList] at this
    exact this

end Go.H

namespace Go.H
set_option linter.unusedSimpArgs false
set_option linter.unusedVariables false
open Go.RowKit

theorem sized_texts {H : Type} {ec : TypeId × Value → H} {P : Program} {w : World} {base : Nat} {sp : Nat → Bool} {held : Bool} {t e : TypeId}
    (ht : P.underlying t = some (.slice e)) (he : P.underlying e = some .string) (hc : P.cellsOf e = 1)
    {x : Slc × List ByteArray} {d : DataW H} {p : List MemPlace} (h : ∃ fuel, DataW.trod ec P w base sp held fuel t (Value.slice x.1.a x.1.len x.1.cap).cells.toList = some (d, p)) (hw : ∀ n ∈ d.weights P t, n ≤ reachBytes)
    (hr : RowAt (fun y : ByteArray => [.string y]) 1 w.heap x.1 x.2) : ∀ y ∈ x.2, y.size ≤ reachBytes := by
  obtain ⟨fuel, h⟩ := h
  have hcells : (Value.slice x.1.a x.1.len x.1.cap).cells.toList = [.slice x.1.a x.1.len x.1.cap] := rfl
  rw [hcells] at h
  intro y hy
  obtain ⟨i, hi⟩ := List.getElem?_of_mem hy
  have hil := (List.getElem?_eq_some_iff.1 hi).1
  obtain ⟨a', ha', hca⟩ := hr.2.2 i y hi
  have hlen := hr.1
  rcases DataW.trod_slice ht h with ⟨h2, _⟩ | ⟨a, len, cap, elems, rest, n, _, h2, h3, _, _, _, hel2, hel, _, _⟩
  · simp only [List.cons.injEq, Value.slice.injEq, and_true] at h2
    omega
  · simp only [List.cons.injEq, Value.slice.injEq, and_true] at h2
    obtain ⟨q1, q2, q3⟩ := h2
    have hilen : i < len := by omega
    have h4 := hel i hilen
    rw [List.getElem?_eq_getElem (by omega), Option.bind_eq_some_iff] at h4
    obtain ⟨cs', h5, h6⟩ := h4
    obtain ⟨h50, h51, h52⟩ := World.cells?_some h5
    obtain ⟨s, h8, h9, _⟩ := DataW.trod_string he h6
    have hcell := h52 0 (by rw [hc]; decide)
    rw [h8] at hcell
    have ha : a' = a := by rw [ha'] at q1; exact Option.some.inj q1
    subst ha
    have hc2 := hca 0 _ rfl
    rw [← cell_eq] at hc2
    rw [hc] at hcell
    have hss : s = y := by
      have := hcell.symm.trans hc2
      have := Option.some.inj this
      cases this
      rfl
    subst hss
    have hie : i < elems.length := by omega
    have hd : d = .slice (elems.map (·.1)) (rest.map (·.1)) := congrArg Prod.fst h3
    have hm : s.data.toList.length ∈ d.weights P t := by
      rw [hd]
      simp only [DataW.weights, ht, List.mem_cons, List.mem_append]
      refine .inr (.inl (weightsAll_mem (d := (elems[i]'hie).1) (List.mem_map_of_mem (List.getElem_mem hie)) _ ?_))
      rw [h9]
      simp [DataW.weights]
    have := hw _ hm
    rw [Array.length_toList] at this
    exact this

end Go.H

namespace Go.H
set_option linter.unusedSimpArgs false
set_option linter.unusedVariables false

section
variable {H : Type} (ec : TypeId × Value → H) (P : Program) (w : World) (base : Nat) (sp : Nat → Bool) (held : Bool)

/-- what reads at type t, within reach, are the cells of some x that is good -/
def RdS {α : Type} (t : TypeId) (enc : α → List Value) (good : α → Prop) : Prop :=
  ∀ fuel cs y, DataW.trod ec P w base sp held fuel t cs = some y → (∀ n ∈ y.1.weights P t, n ≤ reachBytes) → ∃ x, cs = enc x ∧ good x
end

section
variable {H : Type} {ec : TypeId × Value → H} {P : Program} {w : World} {base : Nat} {sp : Nat → Bool} {held : Bool}

theorem rs_int {t : TypeId} {k : IntKind} (ht : P.underlying t = some (.int k)) : RdS ec P w base sp held t (fun x : Int => [.int k x]) (fun x => (Lit.int k x).wf = true) := fun _ _ _ h _ => by
  obtain ⟨n, h1, _, h2⟩ := DataW.trod_int ht h
  exact ⟨n, h1, h2⟩
theorem rs_bool {t : TypeId} (ht : P.underlying t = some .bool) : RdS ec P w base sp held t (fun x : Bool => [.bool x]) (fun _ => True) := fun _ _ _ h _ => by
  obtain ⟨n, h1, _⟩ := DataW.trod_bool ht h
  exact ⟨n, h1, trivial⟩
theorem rs_str {t : TypeId} (ht : P.underlying t = some .string) : RdS ec P w base sp held t (fun x : ByteArray => [.string x]) (fun x => x.size ≤ reachBytes) := fun _ _ _ h hw => by
  obtain ⟨n, h1, rfl, h2⟩ := DataW.trod_string ht h
  refine ⟨n, h1, ?_⟩
  have := hw n.data.toList.length (by simp [DataW.weights])
  rwa [Array.length_toList] at this

/-- a slice and its elements -/
structure GoodN {α : Type} (enc : α → List Value) (size bytes : Nat) (h : Heap) (good : α → Prop) (x : Slc × List α) : Prop where
  row : RowAt enc size h x.1 x.2
  good : ∀ y ∈ x.2, good y
  cap : x.1.cap ≤ maxLen
  reach : x.2.length * bytes ≤ reachBytes

theorem rs_slice {α : Type} {t e : TypeId} {enc : α → List Value} {good : α → Prop} (ht : P.underlying t = some (.slice e)) {size bytes : Nat} (hc : P.cellsOf e = size) (hb : P.bytesOf e = bytes) (he : RdS ec P w base sp held e enc good) :
    RdS ec P w base sp held t (fun x : Slc × List α => [.slice x.1.a x.1.len x.1.cap]) (GoodN enc size bytes w.heap good) := fun fuel cs y h hw => by
  subst hc
  subst hb
  rcases DataW.trod_slice ht h with ⟨rfl, _⟩ | ⟨a, len, cap, elems, rest, n, _, rfl, rfl, _, hl, hm, hlen, hel, _, _⟩
  · exact ⟨(⟨none, 0, 0⟩, []), rfl, .nil, fun y hy => by simp at hy, Nat.zero_le _, by simp⟩
  · have hw2 : ∀ i (hi : i < elems.length), ∀ n ∈ (elems[i]'hi).1.weights P e, n ≤ reachBytes := fun i hi n hn => hw n (by
      simp only [DataW.weights, ht, List.mem_cons, List.mem_append]
      exact .inr (.inl (weightsAll_mem (d := (elems[i]'hi).1) (List.mem_map_of_mem (List.getElem_mem hi)) _ hn)))
    have hw3 := hw ((elems.length + rest.length) * P.bytesOf e) (by simp [DataW.weights, ht])
    have h1 : ∀ i, i < len → ∃ x, good x ∧ ∀ j v, (enc x)[j]? = some v → cellH w.heap ((a.add (i * P.cellsOf e)).add j) = some v := by
      intro i hi
      have h2 := hel i hi
      rw [List.getElem?_eq_getElem (by omega), Option.bind_eq_some_iff] at h2
      obtain ⟨cs', h3, h4⟩ := h2
      obtain ⟨x, rfl, hg⟩ := he _ _ _ h4 (hw2 i (by omega))
      obtain ⟨_, h5, h6⟩ := World.cells?_some h3
      refine ⟨x, hg, fun j v hv => ?_⟩
      rw [← cell_eq, h6 j (by rw [← h5]; exact (List.getElem?_eq_some_iff.1 hv).1)]
      exact hv
    obtain ⟨xs, h2, h3⟩ := list_of len h1
    refine ⟨(⟨some a, len, cap⟩, xs), rfl, ⟨h2.symm, hl, fun i x hx => ⟨a, rfl, (h3 i x hx).2⟩⟩, fun y hy => ?_, hm, ?_⟩
    · obtain ⟨i, hi⟩ := List.getElem?_of_mem hy
      exact (h3 i y hi).1
    · simp only
      refine Nat.le_trans (Nat.mul_le_mul_right _ ?_) hw3
      omega

theorem rs_struct2 {α0 α1 : Type} {t : TypeId} {f0 f1 : Field} {e0 : α0 → List Value} {g0 : α0 → Prop} {e1 : α1 → List Value} {g1 : α1 → Prop} (ht : P.underlying t = some (.struct #[f0, f1])) (hc : P.cellsOf t = P.cellsOf f0.type + P.cellsOf f1.type) (o0 : f0.offset = 0) (o1 : f1.offset = P.cellsOf f0.type) (h0 : RdS ec P w base sp held f0.type e0 g0) (h1 : RdS ec P w base sp held f1.type e1 g1) :
    RdS ec P w base sp held t (fun x : α0 × α1 => e0 x.1 ++ e1 x.2) (fun x => g0 x.1 ∧ g1 x.2) := fun fuel cs y h hw => by
  obtain ⟨xs, n, _, hy, hl, hx, hf⟩ := DataW.trod_struct ht h
  subst hy
  have hwe : ∀ (i : Nat) (f : Field) (hi : i < xs.length), #[f0, f1][i]? = some f → ∀ n ∈ (xs[i]'hi).1.weights P f.type, n ≤ reachBytes := fun i f hi hfi n hn => hw n (by
    simp only [DataW.weights, ht]
    exact DataW.weights_mem_each (j := i) (t := f.type) (d := (xs[i]'hi).1) (by rw [List.getElem?_map, Array.getElem?_toList, hfi]; rfl) (by rw [List.getElem?_map, List.getElem?_eq_getElem hi]; rfl) _ hn)
  obtain ⟨x0, c0, k0⟩ := h0 n _ (xs[0]'(by rw [hx]; simp)) ((hf 0 f0 rfl).trans (List.getElem?_eq_getElem (by rw [hx]; simp))) (hwe 0 f0 (by rw [hx]; simp) rfl)
  obtain ⟨x1, c1, k1⟩ := h1 n _ (xs[1]'(by rw [hx]; simp)) ((hf 1 f1 rfl).trans (List.getElem?_eq_getElem (by rw [hx]; simp))) (hwe 1 f1 (by rw [hx]; simp) rfl)
  refine ⟨(x0, x1), ?_, k0, k1⟩
  simp only [← c0, ← c1, o0, o1]
  rw [hc] at hl
  have l0 : cs.drop 0 = cs := rfl
  have t0 := drop_split cs (0) (P.cellsOf f0.type)
  have t1 := drop_split cs (P.cellsOf f0.type) (P.cellsOf f1.type)
  have te : cs.drop (P.cellsOf f0.type + P.cellsOf f1.type) = [] := List.drop_of_length_le (by omega)
  rw [List.drop_zero, Nat.zero_add] at t0
  refine t0.trans ?_
  refine congrArg _ (t1.trans ?_)
  rw [te, List.append_nil]

theorem rs_struct3 {α0 α1 α2 : Type} {t : TypeId} {f0 f1 f2 : Field} {e0 : α0 → List Value} {g0 : α0 → Prop} {e1 : α1 → List Value} {g1 : α1 → Prop} {e2 : α2 → List Value} {g2 : α2 → Prop} (ht : P.underlying t = some (.struct #[f0, f1, f2])) (hc : P.cellsOf t = P.cellsOf f0.type + P.cellsOf f1.type + P.cellsOf f2.type) (o0 : f0.offset = 0) (o1 : f1.offset = P.cellsOf f0.type) (o2 : f2.offset = P.cellsOf f0.type + P.cellsOf f1.type) (h0 : RdS ec P w base sp held f0.type e0 g0) (h1 : RdS ec P w base sp held f1.type e1 g1) (h2 : RdS ec P w base sp held f2.type e2 g2) :
    RdS ec P w base sp held t (fun x : α0 × α1 × α2 => e0 x.1 ++ e1 x.2.1 ++ e2 x.2.2) (fun x => g0 x.1 ∧ g1 x.2.1 ∧ g2 x.2.2) := fun fuel cs y h hw => by
  obtain ⟨xs, n, _, hy, hl, hx, hf⟩ := DataW.trod_struct ht h
  subst hy
  have hwe : ∀ (i : Nat) (f : Field) (hi : i < xs.length), #[f0, f1, f2][i]? = some f → ∀ n ∈ (xs[i]'hi).1.weights P f.type, n ≤ reachBytes := fun i f hi hfi n hn => hw n (by
    simp only [DataW.weights, ht]
    exact DataW.weights_mem_each (j := i) (t := f.type) (d := (xs[i]'hi).1) (by rw [List.getElem?_map, Array.getElem?_toList, hfi]; rfl) (by rw [List.getElem?_map, List.getElem?_eq_getElem hi]; rfl) _ hn)
  obtain ⟨x0, c0, k0⟩ := h0 n _ (xs[0]'(by rw [hx]; simp)) ((hf 0 f0 rfl).trans (List.getElem?_eq_getElem (by rw [hx]; simp))) (hwe 0 f0 (by rw [hx]; simp) rfl)
  obtain ⟨x1, c1, k1⟩ := h1 n _ (xs[1]'(by rw [hx]; simp)) ((hf 1 f1 rfl).trans (List.getElem?_eq_getElem (by rw [hx]; simp))) (hwe 1 f1 (by rw [hx]; simp) rfl)
  obtain ⟨x2, c2, k2⟩ := h2 n _ (xs[2]'(by rw [hx]; simp)) ((hf 2 f2 rfl).trans (List.getElem?_eq_getElem (by rw [hx]; simp))) (hwe 2 f2 (by rw [hx]; simp) rfl)
  refine ⟨(x0, x1, x2), ?_, k0, k1, k2⟩
  simp only [← c0, ← c1, ← c2, o0, o1, o2]
  rw [hc] at hl
  have l0 : cs.drop 0 = cs := rfl
  have t0 := drop_split cs (0) (P.cellsOf f0.type)
  have t1 := drop_split cs (P.cellsOf f0.type) (P.cellsOf f1.type)
  have t2 := drop_split cs (P.cellsOf f0.type + P.cellsOf f1.type) (P.cellsOf f2.type)
  have te : cs.drop (P.cellsOf f0.type + P.cellsOf f1.type + P.cellsOf f2.type) = [] := List.drop_of_length_le (by omega)
  rw [List.drop_zero, Nat.zero_add] at t0
  refine t0.trans ?_
  simp only [List.append_assoc]
  refine congrArg _ (t1.trans ?_)
  refine congrArg _ (t2.trans ?_)
  rw [te, List.append_nil]

theorem rs_struct4 {α0 α1 α2 α3 : Type} {t : TypeId} {f0 f1 f2 f3 : Field} {e0 : α0 → List Value} {g0 : α0 → Prop} {e1 : α1 → List Value} {g1 : α1 → Prop} {e2 : α2 → List Value} {g2 : α2 → Prop} {e3 : α3 → List Value} {g3 : α3 → Prop} (ht : P.underlying t = some (.struct #[f0, f1, f2, f3])) (hc : P.cellsOf t = P.cellsOf f0.type + P.cellsOf f1.type + P.cellsOf f2.type + P.cellsOf f3.type) (o0 : f0.offset = 0) (o1 : f1.offset = P.cellsOf f0.type) (o2 : f2.offset = P.cellsOf f0.type + P.cellsOf f1.type) (o3 : f3.offset = P.cellsOf f0.type + P.cellsOf f1.type + P.cellsOf f2.type) (h0 : RdS ec P w base sp held f0.type e0 g0) (h1 : RdS ec P w base sp held f1.type e1 g1) (h2 : RdS ec P w base sp held f2.type e2 g2) (h3 : RdS ec P w base sp held f3.type e3 g3) :
    RdS ec P w base sp held t (fun x : α0 × α1 × α2 × α3 => e0 x.1 ++ e1 x.2.1 ++ e2 x.2.2.1 ++ e3 x.2.2.2) (fun x => g0 x.1 ∧ g1 x.2.1 ∧ g2 x.2.2.1 ∧ g3 x.2.2.2) := fun fuel cs y h hw => by
  obtain ⟨xs, n, _, hy, hl, hx, hf⟩ := DataW.trod_struct ht h
  subst hy
  have hwe : ∀ (i : Nat) (f : Field) (hi : i < xs.length), #[f0, f1, f2, f3][i]? = some f → ∀ n ∈ (xs[i]'hi).1.weights P f.type, n ≤ reachBytes := fun i f hi hfi n hn => hw n (by
    simp only [DataW.weights, ht]
    exact DataW.weights_mem_each (j := i) (t := f.type) (d := (xs[i]'hi).1) (by rw [List.getElem?_map, Array.getElem?_toList, hfi]; rfl) (by rw [List.getElem?_map, List.getElem?_eq_getElem hi]; rfl) _ hn)
  obtain ⟨x0, c0, k0⟩ := h0 n _ (xs[0]'(by rw [hx]; simp)) ((hf 0 f0 rfl).trans (List.getElem?_eq_getElem (by rw [hx]; simp))) (hwe 0 f0 (by rw [hx]; simp) rfl)
  obtain ⟨x1, c1, k1⟩ := h1 n _ (xs[1]'(by rw [hx]; simp)) ((hf 1 f1 rfl).trans (List.getElem?_eq_getElem (by rw [hx]; simp))) (hwe 1 f1 (by rw [hx]; simp) rfl)
  obtain ⟨x2, c2, k2⟩ := h2 n _ (xs[2]'(by rw [hx]; simp)) ((hf 2 f2 rfl).trans (List.getElem?_eq_getElem (by rw [hx]; simp))) (hwe 2 f2 (by rw [hx]; simp) rfl)
  obtain ⟨x3, c3, k3⟩ := h3 n _ (xs[3]'(by rw [hx]; simp)) ((hf 3 f3 rfl).trans (List.getElem?_eq_getElem (by rw [hx]; simp))) (hwe 3 f3 (by rw [hx]; simp) rfl)
  refine ⟨(x0, x1, x2, x3), ?_, k0, k1, k2, k3⟩
  simp only [← c0, ← c1, ← c2, ← c3, o0, o1, o2, o3]
  rw [hc] at hl
  have l0 : cs.drop 0 = cs := rfl
  have t0 := drop_split cs (0) (P.cellsOf f0.type)
  have t1 := drop_split cs (P.cellsOf f0.type) (P.cellsOf f1.type)
  have t2 := drop_split cs (P.cellsOf f0.type + P.cellsOf f1.type) (P.cellsOf f2.type)
  have t3 := drop_split cs (P.cellsOf f0.type + P.cellsOf f1.type + P.cellsOf f2.type) (P.cellsOf f3.type)
  have te : cs.drop (P.cellsOf f0.type + P.cellsOf f1.type + P.cellsOf f2.type + P.cellsOf f3.type) = [] := List.drop_of_length_le (by omega)
  rw [List.drop_zero, Nat.zero_add] at t0
  refine t0.trans ?_
  simp only [List.append_assoc]
  refine congrArg _ (t1.trans ?_)
  refine congrArg _ (t2.trans ?_)
  refine congrArg _ (t3.trans ?_)
  rw [te, List.append_nil]

theorem rs_struct5 {α0 α1 α2 α3 α4 : Type} {t : TypeId} {f0 f1 f2 f3 f4 : Field} {e0 : α0 → List Value} {g0 : α0 → Prop} {e1 : α1 → List Value} {g1 : α1 → Prop} {e2 : α2 → List Value} {g2 : α2 → Prop} {e3 : α3 → List Value} {g3 : α3 → Prop} {e4 : α4 → List Value} {g4 : α4 → Prop} (ht : P.underlying t = some (.struct #[f0, f1, f2, f3, f4])) (hc : P.cellsOf t = P.cellsOf f0.type + P.cellsOf f1.type + P.cellsOf f2.type + P.cellsOf f3.type + P.cellsOf f4.type) (o0 : f0.offset = 0) (o1 : f1.offset = P.cellsOf f0.type) (o2 : f2.offset = P.cellsOf f0.type + P.cellsOf f1.type) (o3 : f3.offset = P.cellsOf f0.type + P.cellsOf f1.type + P.cellsOf f2.type) (o4 : f4.offset = P.cellsOf f0.type + P.cellsOf f1.type + P.cellsOf f2.type + P.cellsOf f3.type) (h0 : RdS ec P w base sp held f0.type e0 g0) (h1 : RdS ec P w base sp held f1.type e1 g1) (h2 : RdS ec P w base sp held f2.type e2 g2) (h3 : RdS ec P w base sp held f3.type e3 g3) (h4 : RdS ec P w base sp held f4.type e4 g4) :
    RdS ec P w base sp held t (fun x : α0 × α1 × α2 × α3 × α4 => e0 x.1 ++ e1 x.2.1 ++ e2 x.2.2.1 ++ e3 x.2.2.2.1 ++ e4 x.2.2.2.2) (fun x => g0 x.1 ∧ g1 x.2.1 ∧ g2 x.2.2.1 ∧ g3 x.2.2.2.1 ∧ g4 x.2.2.2.2) := fun fuel cs y h hw => by
  obtain ⟨xs, n, _, hy, hl, hx, hf⟩ := DataW.trod_struct ht h
  subst hy
  have hwe : ∀ (i : Nat) (f : Field) (hi : i < xs.length), #[f0, f1, f2, f3, f4][i]? = some f → ∀ n ∈ (xs[i]'hi).1.weights P f.type, n ≤ reachBytes := fun i f hi hfi n hn => hw n (by
    simp only [DataW.weights, ht]
    exact DataW.weights_mem_each (j := i) (t := f.type) (d := (xs[i]'hi).1) (by rw [List.getElem?_map, Array.getElem?_toList, hfi]; rfl) (by rw [List.getElem?_map, List.getElem?_eq_getElem hi]; rfl) _ hn)
  obtain ⟨x0, c0, k0⟩ := h0 n _ (xs[0]'(by rw [hx]; simp)) ((hf 0 f0 rfl).trans (List.getElem?_eq_getElem (by rw [hx]; simp))) (hwe 0 f0 (by rw [hx]; simp) rfl)
  obtain ⟨x1, c1, k1⟩ := h1 n _ (xs[1]'(by rw [hx]; simp)) ((hf 1 f1 rfl).trans (List.getElem?_eq_getElem (by rw [hx]; simp))) (hwe 1 f1 (by rw [hx]; simp) rfl)
  obtain ⟨x2, c2, k2⟩ := h2 n _ (xs[2]'(by rw [hx]; simp)) ((hf 2 f2 rfl).trans (List.getElem?_eq_getElem (by rw [hx]; simp))) (hwe 2 f2 (by rw [hx]; simp) rfl)
  obtain ⟨x3, c3, k3⟩ := h3 n _ (xs[3]'(by rw [hx]; simp)) ((hf 3 f3 rfl).trans (List.getElem?_eq_getElem (by rw [hx]; simp))) (hwe 3 f3 (by rw [hx]; simp) rfl)
  obtain ⟨x4, c4, k4⟩ := h4 n _ (xs[4]'(by rw [hx]; simp)) ((hf 4 f4 rfl).trans (List.getElem?_eq_getElem (by rw [hx]; simp))) (hwe 4 f4 (by rw [hx]; simp) rfl)
  refine ⟨(x0, x1, x2, x3, x4), ?_, k0, k1, k2, k3, k4⟩
  simp only [← c0, ← c1, ← c2, ← c3, ← c4, o0, o1, o2, o3, o4]
  rw [hc] at hl
  have l0 : cs.drop 0 = cs := rfl
  have t0 := drop_split cs (0) (P.cellsOf f0.type)
  have t1 := drop_split cs (P.cellsOf f0.type) (P.cellsOf f1.type)
  have t2 := drop_split cs (P.cellsOf f0.type + P.cellsOf f1.type) (P.cellsOf f2.type)
  have t3 := drop_split cs (P.cellsOf f0.type + P.cellsOf f1.type + P.cellsOf f2.type) (P.cellsOf f3.type)
  have t4 := drop_split cs (P.cellsOf f0.type + P.cellsOf f1.type + P.cellsOf f2.type + P.cellsOf f3.type) (P.cellsOf f4.type)
  have te : cs.drop (P.cellsOf f0.type + P.cellsOf f1.type + P.cellsOf f2.type + P.cellsOf f3.type + P.cellsOf f4.type) = [] := List.drop_of_length_le (by omega)
  rw [List.drop_zero, Nat.zero_add] at t0
  refine t0.trans ?_
  simp only [List.append_assoc]
  refine congrArg _ (t1.trans ?_)
  refine congrArg _ (t2.trans ?_)
  refine congrArg _ (t3.trans ?_)
  refine congrArg _ (t4.trans ?_)
  rw [te, List.append_nil]

theorem rs_struct6 {α0 α1 α2 α3 α4 α5 : Type} {t : TypeId} {f0 f1 f2 f3 f4 f5 : Field} {e0 : α0 → List Value} {g0 : α0 → Prop} {e1 : α1 → List Value} {g1 : α1 → Prop} {e2 : α2 → List Value} {g2 : α2 → Prop} {e3 : α3 → List Value} {g3 : α3 → Prop} {e4 : α4 → List Value} {g4 : α4 → Prop} {e5 : α5 → List Value} {g5 : α5 → Prop} (ht : P.underlying t = some (.struct #[f0, f1, f2, f3, f4, f5])) (hc : P.cellsOf t = P.cellsOf f0.type + P.cellsOf f1.type + P.cellsOf f2.type + P.cellsOf f3.type + P.cellsOf f4.type + P.cellsOf f5.type) (o0 : f0.offset = 0) (o1 : f1.offset = P.cellsOf f0.type) (o2 : f2.offset = P.cellsOf f0.type + P.cellsOf f1.type) (o3 : f3.offset = P.cellsOf f0.type + P.cellsOf f1.type + P.cellsOf f2.type) (o4 : f4.offset = P.cellsOf f0.type + P.cellsOf f1.type + P.cellsOf f2.type + P.cellsOf f3.type) (o5 : f5.offset = P.cellsOf f0.type + P.cellsOf f1.type + P.cellsOf f2.type + P.cellsOf f3.type + P.cellsOf f4.type) (h0 : RdS ec P w base sp held f0.type e0 g0) (h1 : RdS ec P w base sp held f1.type e1 g1) (h2 : RdS ec P w base sp held f2.type e2 g2) (h3 : RdS ec P w base sp held f3.type e3 g3) (h4 : RdS ec P w base sp held f4.type e4 g4) (h5 : RdS ec P w base sp held f5.type e5 g5) :
    RdS ec P w base sp held t (fun x : α0 × α1 × α2 × α3 × α4 × α5 => e0 x.1 ++ e1 x.2.1 ++ e2 x.2.2.1 ++ e3 x.2.2.2.1 ++ e4 x.2.2.2.2.1 ++ e5 x.2.2.2.2.2) (fun x => g0 x.1 ∧ g1 x.2.1 ∧ g2 x.2.2.1 ∧ g3 x.2.2.2.1 ∧ g4 x.2.2.2.2.1 ∧ g5 x.2.2.2.2.2) := fun fuel cs y h hw => by
  obtain ⟨xs, n, _, hy, hl, hx, hf⟩ := DataW.trod_struct ht h
  subst hy
  have hwe : ∀ (i : Nat) (f : Field) (hi : i < xs.length), #[f0, f1, f2, f3, f4, f5][i]? = some f → ∀ n ∈ (xs[i]'hi).1.weights P f.type, n ≤ reachBytes := fun i f hi hfi n hn => hw n (by
    simp only [DataW.weights, ht]
    exact DataW.weights_mem_each (j := i) (t := f.type) (d := (xs[i]'hi).1) (by rw [List.getElem?_map, Array.getElem?_toList, hfi]; rfl) (by rw [List.getElem?_map, List.getElem?_eq_getElem hi]; rfl) _ hn)
  obtain ⟨x0, c0, k0⟩ := h0 n _ (xs[0]'(by rw [hx]; simp)) ((hf 0 f0 rfl).trans (List.getElem?_eq_getElem (by rw [hx]; simp))) (hwe 0 f0 (by rw [hx]; simp) rfl)
  obtain ⟨x1, c1, k1⟩ := h1 n _ (xs[1]'(by rw [hx]; simp)) ((hf 1 f1 rfl).trans (List.getElem?_eq_getElem (by rw [hx]; simp))) (hwe 1 f1 (by rw [hx]; simp) rfl)
  obtain ⟨x2, c2, k2⟩ := h2 n _ (xs[2]'(by rw [hx]; simp)) ((hf 2 f2 rfl).trans (List.getElem?_eq_getElem (by rw [hx]; simp))) (hwe 2 f2 (by rw [hx]; simp) rfl)
  obtain ⟨x3, c3, k3⟩ := h3 n _ (xs[3]'(by rw [hx]; simp)) ((hf 3 f3 rfl).trans (List.getElem?_eq_getElem (by rw [hx]; simp))) (hwe 3 f3 (by rw [hx]; simp) rfl)
  obtain ⟨x4, c4, k4⟩ := h4 n _ (xs[4]'(by rw [hx]; simp)) ((hf 4 f4 rfl).trans (List.getElem?_eq_getElem (by rw [hx]; simp))) (hwe 4 f4 (by rw [hx]; simp) rfl)
  obtain ⟨x5, c5, k5⟩ := h5 n _ (xs[5]'(by rw [hx]; simp)) ((hf 5 f5 rfl).trans (List.getElem?_eq_getElem (by rw [hx]; simp))) (hwe 5 f5 (by rw [hx]; simp) rfl)
  refine ⟨(x0, x1, x2, x3, x4, x5), ?_, k0, k1, k2, k3, k4, k5⟩
  simp only [← c0, ← c1, ← c2, ← c3, ← c4, ← c5, o0, o1, o2, o3, o4, o5]
  rw [hc] at hl
  have l0 : cs.drop 0 = cs := rfl
  have t0 := drop_split cs (0) (P.cellsOf f0.type)
  have t1 := drop_split cs (P.cellsOf f0.type) (P.cellsOf f1.type)
  have t2 := drop_split cs (P.cellsOf f0.type + P.cellsOf f1.type) (P.cellsOf f2.type)
  have t3 := drop_split cs (P.cellsOf f0.type + P.cellsOf f1.type + P.cellsOf f2.type) (P.cellsOf f3.type)
  have t4 := drop_split cs (P.cellsOf f0.type + P.cellsOf f1.type + P.cellsOf f2.type + P.cellsOf f3.type) (P.cellsOf f4.type)
  have t5 := drop_split cs (P.cellsOf f0.type + P.cellsOf f1.type + P.cellsOf f2.type + P.cellsOf f3.type + P.cellsOf f4.type) (P.cellsOf f5.type)
  have te : cs.drop (P.cellsOf f0.type + P.cellsOf f1.type + P.cellsOf f2.type + P.cellsOf f3.type + P.cellsOf f4.type + P.cellsOf f5.type) = [] := List.drop_of_length_le (by omega)
  rw [List.drop_zero, Nat.zero_add] at t0
  refine t0.trans ?_
  simp only [List.append_assoc]
  refine congrArg _ (t1.trans ?_)
  refine congrArg _ (t2.trans ?_)
  refine congrArg _ (t3.trans ?_)
  refine congrArg _ (t4.trans ?_)
  refine congrArg _ (t5.trans ?_)
  rw [te, List.append_nil]

theorem rs_struct7 {α0 α1 α2 α3 α4 α5 α6 : Type} {t : TypeId} {f0 f1 f2 f3 f4 f5 f6 : Field} {e0 : α0 → List Value} {g0 : α0 → Prop} {e1 : α1 → List Value} {g1 : α1 → Prop} {e2 : α2 → List Value} {g2 : α2 → Prop} {e3 : α3 → List Value} {g3 : α3 → Prop} {e4 : α4 → List Value} {g4 : α4 → Prop} {e5 : α5 → List Value} {g5 : α5 → Prop} {e6 : α6 → List Value} {g6 : α6 → Prop} (ht : P.underlying t = some (.struct #[f0, f1, f2, f3, f4, f5, f6])) (hc : P.cellsOf t = P.cellsOf f0.type + P.cellsOf f1.type + P.cellsOf f2.type + P.cellsOf f3.type + P.cellsOf f4.type + P.cellsOf f5.type + P.cellsOf f6.type) (o0 : f0.offset = 0) (o1 : f1.offset = P.cellsOf f0.type) (o2 : f2.offset = P.cellsOf f0.type + P.cellsOf f1.type) (o3 : f3.offset = P.cellsOf f0.type + P.cellsOf f1.type + P.cellsOf f2.type) (o4 : f4.offset = P.cellsOf f0.type + P.cellsOf f1.type + P.cellsOf f2.type + P.cellsOf f3.type) (o5 : f5.offset = P.cellsOf f0.type + P.cellsOf f1.type + P.cellsOf f2.type + P.cellsOf f3.type + P.cellsOf f4.type) (o6 : f6.offset = P.cellsOf f0.type + P.cellsOf f1.type + P.cellsOf f2.type + P.cellsOf f3.type + P.cellsOf f4.type + P.cellsOf f5.type) (h0 : RdS ec P w base sp held f0.type e0 g0) (h1 : RdS ec P w base sp held f1.type e1 g1) (h2 : RdS ec P w base sp held f2.type e2 g2) (h3 : RdS ec P w base sp held f3.type e3 g3) (h4 : RdS ec P w base sp held f4.type e4 g4) (h5 : RdS ec P w base sp held f5.type e5 g5) (h6 : RdS ec P w base sp held f6.type e6 g6) :
    RdS ec P w base sp held t (fun x : α0 × α1 × α2 × α3 × α4 × α5 × α6 => e0 x.1 ++ e1 x.2.1 ++ e2 x.2.2.1 ++ e3 x.2.2.2.1 ++ e4 x.2.2.2.2.1 ++ e5 x.2.2.2.2.2.1 ++ e6 x.2.2.2.2.2.2) (fun x => g0 x.1 ∧ g1 x.2.1 ∧ g2 x.2.2.1 ∧ g3 x.2.2.2.1 ∧ g4 x.2.2.2.2.1 ∧ g5 x.2.2.2.2.2.1 ∧ g6 x.2.2.2.2.2.2) := fun fuel cs y h hw => by
  obtain ⟨xs, n, _, hy, hl, hx, hf⟩ := DataW.trod_struct ht h
  subst hy
  have hwe : ∀ (i : Nat) (f : Field) (hi : i < xs.length), #[f0, f1, f2, f3, f4, f5, f6][i]? = some f → ∀ n ∈ (xs[i]'hi).1.weights P f.type, n ≤ reachBytes := fun i f hi hfi n hn => hw n (by
    simp only [DataW.weights, ht]
    exact DataW.weights_mem_each (j := i) (t := f.type) (d := (xs[i]'hi).1) (by rw [List.getElem?_map, Array.getElem?_toList, hfi]; rfl) (by rw [List.getElem?_map, List.getElem?_eq_getElem hi]; rfl) _ hn)
  obtain ⟨x0, c0, k0⟩ := h0 n _ (xs[0]'(by rw [hx]; simp)) ((hf 0 f0 rfl).trans (List.getElem?_eq_getElem (by rw [hx]; simp))) (hwe 0 f0 (by rw [hx]; simp) rfl)
  obtain ⟨x1, c1, k1⟩ := h1 n _ (xs[1]'(by rw [hx]; simp)) ((hf 1 f1 rfl).trans (List.getElem?_eq_getElem (by rw [hx]; simp))) (hwe 1 f1 (by rw [hx]; simp) rfl)
  obtain ⟨x2, c2, k2⟩ := h2 n _ (xs[2]'(by rw [hx]; simp)) ((hf 2 f2 rfl).trans (List.getElem?_eq_getElem (by rw [hx]; simp))) (hwe 2 f2 (by rw [hx]; simp) rfl)
  obtain ⟨x3, c3, k3⟩ := h3 n _ (xs[3]'(by rw [hx]; simp)) ((hf 3 f3 rfl).trans (List.getElem?_eq_getElem (by rw [hx]; simp))) (hwe 3 f3 (by rw [hx]; simp) rfl)
  obtain ⟨x4, c4, k4⟩ := h4 n _ (xs[4]'(by rw [hx]; simp)) ((hf 4 f4 rfl).trans (List.getElem?_eq_getElem (by rw [hx]; simp))) (hwe 4 f4 (by rw [hx]; simp) rfl)
  obtain ⟨x5, c5, k5⟩ := h5 n _ (xs[5]'(by rw [hx]; simp)) ((hf 5 f5 rfl).trans (List.getElem?_eq_getElem (by rw [hx]; simp))) (hwe 5 f5 (by rw [hx]; simp) rfl)
  obtain ⟨x6, c6, k6⟩ := h6 n _ (xs[6]'(by rw [hx]; simp)) ((hf 6 f6 rfl).trans (List.getElem?_eq_getElem (by rw [hx]; simp))) (hwe 6 f6 (by rw [hx]; simp) rfl)
  refine ⟨(x0, x1, x2, x3, x4, x5, x6), ?_, k0, k1, k2, k3, k4, k5, k6⟩
  simp only [← c0, ← c1, ← c2, ← c3, ← c4, ← c5, ← c6, o0, o1, o2, o3, o4, o5, o6]
  rw [hc] at hl
  have l0 : cs.drop 0 = cs := rfl
  have t0 := drop_split cs (0) (P.cellsOf f0.type)
  have t1 := drop_split cs (P.cellsOf f0.type) (P.cellsOf f1.type)
  have t2 := drop_split cs (P.cellsOf f0.type + P.cellsOf f1.type) (P.cellsOf f2.type)
  have t3 := drop_split cs (P.cellsOf f0.type + P.cellsOf f1.type + P.cellsOf f2.type) (P.cellsOf f3.type)
  have t4 := drop_split cs (P.cellsOf f0.type + P.cellsOf f1.type + P.cellsOf f2.type + P.cellsOf f3.type) (P.cellsOf f4.type)
  have t5 := drop_split cs (P.cellsOf f0.type + P.cellsOf f1.type + P.cellsOf f2.type + P.cellsOf f3.type + P.cellsOf f4.type) (P.cellsOf f5.type)
  have t6 := drop_split cs (P.cellsOf f0.type + P.cellsOf f1.type + P.cellsOf f2.type + P.cellsOf f3.type + P.cellsOf f4.type + P.cellsOf f5.type) (P.cellsOf f6.type)
  have te : cs.drop (P.cellsOf f0.type + P.cellsOf f1.type + P.cellsOf f2.type + P.cellsOf f3.type + P.cellsOf f4.type + P.cellsOf f5.type + P.cellsOf f6.type) = [] := List.drop_of_length_le (by omega)
  rw [List.drop_zero, Nat.zero_add] at t0
  refine t0.trans ?_
  simp only [List.append_assoc]
  refine congrArg _ (t1.trans ?_)
  refine congrArg _ (t2.trans ?_)
  refine congrArg _ (t3.trans ?_)
  refine congrArg _ (t4.trans ?_)
  refine congrArg _ (t5.trans ?_)
  refine congrArg _ (t6.trans ?_)
  rw [te, List.append_nil]

theorem rs_struct8 {α0 α1 α2 α3 α4 α5 α6 α7 : Type} {t : TypeId} {f0 f1 f2 f3 f4 f5 f6 f7 : Field} {e0 : α0 → List Value} {g0 : α0 → Prop} {e1 : α1 → List Value} {g1 : α1 → Prop} {e2 : α2 → List Value} {g2 : α2 → Prop} {e3 : α3 → List Value} {g3 : α3 → Prop} {e4 : α4 → List Value} {g4 : α4 → Prop} {e5 : α5 → List Value} {g5 : α5 → Prop} {e6 : α6 → List Value} {g6 : α6 → Prop} {e7 : α7 → List Value} {g7 : α7 → Prop} (ht : P.underlying t = some (.struct #[f0, f1, f2, f3, f4, f5, f6, f7])) (hc : P.cellsOf t = P.cellsOf f0.type + P.cellsOf f1.type + P.cellsOf f2.type + P.cellsOf f3.type + P.cellsOf f4.type + P.cellsOf f5.type + P.cellsOf f6.type + P.cellsOf f7.type) (o0 : f0.offset = 0) (o1 : f1.offset = P.cellsOf f0.type) (o2 : f2.offset = P.cellsOf f0.type + P.cellsOf f1.type) (o3 : f3.offset = P.cellsOf f0.type + P.cellsOf f1.type + P.cellsOf f2.type) (o4 : f4.offset = P.cellsOf f0.type + P.cellsOf f1.type + P.cellsOf f2.type + P.cellsOf f3.type) (o5 : f5.offset = P.cellsOf f0.type + P.cellsOf f1.type + P.cellsOf f2.type + P.cellsOf f3.type + P.cellsOf f4.type) (o6 : f6.offset = P.cellsOf f0.type + P.cellsOf f1.type + P.cellsOf f2.type + P.cellsOf f3.type + P.cellsOf f4.type + P.cellsOf f5.type) (o7 : f7.offset = P.cellsOf f0.type + P.cellsOf f1.type + P.cellsOf f2.type + P.cellsOf f3.type + P.cellsOf f4.type + P.cellsOf f5.type + P.cellsOf f6.type) (h0 : RdS ec P w base sp held f0.type e0 g0) (h1 : RdS ec P w base sp held f1.type e1 g1) (h2 : RdS ec P w base sp held f2.type e2 g2) (h3 : RdS ec P w base sp held f3.type e3 g3) (h4 : RdS ec P w base sp held f4.type e4 g4) (h5 : RdS ec P w base sp held f5.type e5 g5) (h6 : RdS ec P w base sp held f6.type e6 g6) (h7 : RdS ec P w base sp held f7.type e7 g7) :
    RdS ec P w base sp held t (fun x : α0 × α1 × α2 × α3 × α4 × α5 × α6 × α7 => e0 x.1 ++ e1 x.2.1 ++ e2 x.2.2.1 ++ e3 x.2.2.2.1 ++ e4 x.2.2.2.2.1 ++ e5 x.2.2.2.2.2.1 ++ e6 x.2.2.2.2.2.2.1 ++ e7 x.2.2.2.2.2.2.2) (fun x => g0 x.1 ∧ g1 x.2.1 ∧ g2 x.2.2.1 ∧ g3 x.2.2.2.1 ∧ g4 x.2.2.2.2.1 ∧ g5 x.2.2.2.2.2.1 ∧ g6 x.2.2.2.2.2.2.1 ∧ g7 x.2.2.2.2.2.2.2) := fun fuel cs y h hw => by
  obtain ⟨xs, n, _, hy, hl, hx, hf⟩ := DataW.trod_struct ht h
  subst hy
  have hwe : ∀ (i : Nat) (f : Field) (hi : i < xs.length), #[f0, f1, f2, f3, f4, f5, f6, f7][i]? = some f → ∀ n ∈ (xs[i]'hi).1.weights P f.type, n ≤ reachBytes := fun i f hi hfi n hn => hw n (by
    simp only [DataW.weights, ht]
    exact DataW.weights_mem_each (j := i) (t := f.type) (d := (xs[i]'hi).1) (by rw [List.getElem?_map, Array.getElem?_toList, hfi]; rfl) (by rw [List.getElem?_map, List.getElem?_eq_getElem hi]; rfl) _ hn)
  obtain ⟨x0, c0, k0⟩ := h0 n _ (xs[0]'(by rw [hx]; simp)) ((hf 0 f0 rfl).trans (List.getElem?_eq_getElem (by rw [hx]; simp))) (hwe 0 f0 (by rw [hx]; simp) rfl)
  obtain ⟨x1, c1, k1⟩ := h1 n _ (xs[1]'(by rw [hx]; simp)) ((hf 1 f1 rfl).trans (List.getElem?_eq_getElem (by rw [hx]; simp))) (hwe 1 f1 (by rw [hx]; simp) rfl)
  obtain ⟨x2, c2, k2⟩ := h2 n _ (xs[2]'(by rw [hx]; simp)) ((hf 2 f2 rfl).trans (List.getElem?_eq_getElem (by rw [hx]; simp))) (hwe 2 f2 (by rw [hx]; simp) rfl)
  obtain ⟨x3, c3, k3⟩ := h3 n _ (xs[3]'(by rw [hx]; simp)) ((hf 3 f3 rfl).trans (List.getElem?_eq_getElem (by rw [hx]; simp))) (hwe 3 f3 (by rw [hx]; simp) rfl)
  obtain ⟨x4, c4, k4⟩ := h4 n _ (xs[4]'(by rw [hx]; simp)) ((hf 4 f4 rfl).trans (List.getElem?_eq_getElem (by rw [hx]; simp))) (hwe 4 f4 (by rw [hx]; simp) rfl)
  obtain ⟨x5, c5, k5⟩ := h5 n _ (xs[5]'(by rw [hx]; simp)) ((hf 5 f5 rfl).trans (List.getElem?_eq_getElem (by rw [hx]; simp))) (hwe 5 f5 (by rw [hx]; simp) rfl)
  obtain ⟨x6, c6, k6⟩ := h6 n _ (xs[6]'(by rw [hx]; simp)) ((hf 6 f6 rfl).trans (List.getElem?_eq_getElem (by rw [hx]; simp))) (hwe 6 f6 (by rw [hx]; simp) rfl)
  obtain ⟨x7, c7, k7⟩ := h7 n _ (xs[7]'(by rw [hx]; simp)) ((hf 7 f7 rfl).trans (List.getElem?_eq_getElem (by rw [hx]; simp))) (hwe 7 f7 (by rw [hx]; simp) rfl)
  refine ⟨(x0, x1, x2, x3, x4, x5, x6, x7), ?_, k0, k1, k2, k3, k4, k5, k6, k7⟩
  simp only [← c0, ← c1, ← c2, ← c3, ← c4, ← c5, ← c6, ← c7, o0, o1, o2, o3, o4, o5, o6, o7]
  rw [hc] at hl
  have l0 : cs.drop 0 = cs := rfl
  have t0 := drop_split cs (0) (P.cellsOf f0.type)
  have t1 := drop_split cs (P.cellsOf f0.type) (P.cellsOf f1.type)
  have t2 := drop_split cs (P.cellsOf f0.type + P.cellsOf f1.type) (P.cellsOf f2.type)
  have t3 := drop_split cs (P.cellsOf f0.type + P.cellsOf f1.type + P.cellsOf f2.type) (P.cellsOf f3.type)
  have t4 := drop_split cs (P.cellsOf f0.type + P.cellsOf f1.type + P.cellsOf f2.type + P.cellsOf f3.type) (P.cellsOf f4.type)
  have t5 := drop_split cs (P.cellsOf f0.type + P.cellsOf f1.type + P.cellsOf f2.type + P.cellsOf f3.type + P.cellsOf f4.type) (P.cellsOf f5.type)
  have t6 := drop_split cs (P.cellsOf f0.type + P.cellsOf f1.type + P.cellsOf f2.type + P.cellsOf f3.type + P.cellsOf f4.type + P.cellsOf f5.type) (P.cellsOf f6.type)
  have t7 := drop_split cs (P.cellsOf f0.type + P.cellsOf f1.type + P.cellsOf f2.type + P.cellsOf f3.type + P.cellsOf f4.type + P.cellsOf f5.type + P.cellsOf f6.type) (P.cellsOf f7.type)
  have te : cs.drop (P.cellsOf f0.type + P.cellsOf f1.type + P.cellsOf f2.type + P.cellsOf f3.type + P.cellsOf f4.type + P.cellsOf f5.type + P.cellsOf f6.type + P.cellsOf f7.type) = [] := List.drop_of_length_le (by omega)
  rw [List.drop_zero, Nat.zero_add] at t0
  refine t0.trans ?_
  simp only [List.append_assoc]
  refine congrArg _ (t1.trans ?_)
  refine congrArg _ (t2.trans ?_)
  refine congrArg _ (t3.trans ?_)
  refine congrArg _ (t4.trans ?_)
  refine congrArg _ (t5.trans ?_)
  refine congrArg _ (t6.trans ?_)
  refine congrArg _ (t7.trans ?_)
  rw [te, List.append_nil]

theorem rs_struct9 {α0 α1 α2 α3 α4 α5 α6 α7 α8 : Type} {t : TypeId} {f0 f1 f2 f3 f4 f5 f6 f7 f8 : Field} {e0 : α0 → List Value} {g0 : α0 → Prop} {e1 : α1 → List Value} {g1 : α1 → Prop} {e2 : α2 → List Value} {g2 : α2 → Prop} {e3 : α3 → List Value} {g3 : α3 → Prop} {e4 : α4 → List Value} {g4 : α4 → Prop} {e5 : α5 → List Value} {g5 : α5 → Prop} {e6 : α6 → List Value} {g6 : α6 → Prop} {e7 : α7 → List Value} {g7 : α7 → Prop} {e8 : α8 → List Value} {g8 : α8 → Prop} (ht : P.underlying t = some (.struct #[f0, f1, f2, f3, f4, f5, f6, f7, f8])) (hc : P.cellsOf t = P.cellsOf f0.type + P.cellsOf f1.type + P.cellsOf f2.type + P.cellsOf f3.type + P.cellsOf f4.type + P.cellsOf f5.type + P.cellsOf f6.type + P.cellsOf f7.type + P.cellsOf f8.type) (o0 : f0.offset = 0) (o1 : f1.offset = P.cellsOf f0.type) (o2 : f2.offset = P.cellsOf f0.type + P.cellsOf f1.type) (o3 : f3.offset = P.cellsOf f0.type + P.cellsOf f1.type + P.cellsOf f2.type) (o4 : f4.offset = P.cellsOf f0.type + P.cellsOf f1.type + P.cellsOf f2.type + P.cellsOf f3.type) (o5 : f5.offset = P.cellsOf f0.type + P.cellsOf f1.type + P.cellsOf f2.type + P.cellsOf f3.type + P.cellsOf f4.type) (o6 : f6.offset = P.cellsOf f0.type + P.cellsOf f1.type + P.cellsOf f2.type + P.cellsOf f3.type + P.cellsOf f4.type + P.cellsOf f5.type) (o7 : f7.offset = P.cellsOf f0.type + P.cellsOf f1.type + P.cellsOf f2.type + P.cellsOf f3.type + P.cellsOf f4.type + P.cellsOf f5.type + P.cellsOf f6.type) (o8 : f8.offset = P.cellsOf f0.type + P.cellsOf f1.type + P.cellsOf f2.type + P.cellsOf f3.type + P.cellsOf f4.type + P.cellsOf f5.type + P.cellsOf f6.type + P.cellsOf f7.type) (h0 : RdS ec P w base sp held f0.type e0 g0) (h1 : RdS ec P w base sp held f1.type e1 g1) (h2 : RdS ec P w base sp held f2.type e2 g2) (h3 : RdS ec P w base sp held f3.type e3 g3) (h4 : RdS ec P w base sp held f4.type e4 g4) (h5 : RdS ec P w base sp held f5.type e5 g5) (h6 : RdS ec P w base sp held f6.type e6 g6) (h7 : RdS ec P w base sp held f7.type e7 g7) (h8 : RdS ec P w base sp held f8.type e8 g8) :
    RdS ec P w base sp held t (fun x : α0 × α1 × α2 × α3 × α4 × α5 × α6 × α7 × α8 => e0 x.1 ++ e1 x.2.1 ++ e2 x.2.2.1 ++ e3 x.2.2.2.1 ++ e4 x.2.2.2.2.1 ++ e5 x.2.2.2.2.2.1 ++ e6 x.2.2.2.2.2.2.1 ++ e7 x.2.2.2.2.2.2.2.1 ++ e8 x.2.2.2.2.2.2.2.2) (fun x => g0 x.1 ∧ g1 x.2.1 ∧ g2 x.2.2.1 ∧ g3 x.2.2.2.1 ∧ g4 x.2.2.2.2.1 ∧ g5 x.2.2.2.2.2.1 ∧ g6 x.2.2.2.2.2.2.1 ∧ g7 x.2.2.2.2.2.2.2.1 ∧ g8 x.2.2.2.2.2.2.2.2) := fun fuel cs y h hw => by
  obtain ⟨xs, n, _, hy, hl, hx, hf⟩ := DataW.trod_struct ht h
  subst hy
  have hwe : ∀ (i : Nat) (f : Field) (hi : i < xs.length), #[f0, f1, f2, f3, f4, f5, f6, f7, f8][i]? = some f → ∀ n ∈ (xs[i]'hi).1.weights P f.type, n ≤ reachBytes := fun i f hi hfi n hn => hw n (by
    simp only [DataW.weights, ht]
    exact DataW.weights_mem_each (j := i) (t := f.type) (d := (xs[i]'hi).1) (by rw [List.getElem?_map, Array.getElem?_toList, hfi]; rfl) (by rw [List.getElem?_map, List.getElem?_eq_getElem hi]; rfl) _ hn)
  obtain ⟨x0, c0, k0⟩ := h0 n _ (xs[0]'(by rw [hx]; simp)) ((hf 0 f0 rfl).trans (List.getElem?_eq_getElem (by rw [hx]; simp))) (hwe 0 f0 (by rw [hx]; simp) rfl)
  obtain ⟨x1, c1, k1⟩ := h1 n _ (xs[1]'(by rw [hx]; simp)) ((hf 1 f1 rfl).trans (List.getElem?_eq_getElem (by rw [hx]; simp))) (hwe 1 f1 (by rw [hx]; simp) rfl)
  obtain ⟨x2, c2, k2⟩ := h2 n _ (xs[2]'(by rw [hx]; simp)) ((hf 2 f2 rfl).trans (List.getElem?_eq_getElem (by rw [hx]; simp))) (hwe 2 f2 (by rw [hx]; simp) rfl)
  obtain ⟨x3, c3, k3⟩ := h3 n _ (xs[3]'(by rw [hx]; simp)) ((hf 3 f3 rfl).trans (List.getElem?_eq_getElem (by rw [hx]; simp))) (hwe 3 f3 (by rw [hx]; simp) rfl)
  obtain ⟨x4, c4, k4⟩ := h4 n _ (xs[4]'(by rw [hx]; simp)) ((hf 4 f4 rfl).trans (List.getElem?_eq_getElem (by rw [hx]; simp))) (hwe 4 f4 (by rw [hx]; simp) rfl)
  obtain ⟨x5, c5, k5⟩ := h5 n _ (xs[5]'(by rw [hx]; simp)) ((hf 5 f5 rfl).trans (List.getElem?_eq_getElem (by rw [hx]; simp))) (hwe 5 f5 (by rw [hx]; simp) rfl)
  obtain ⟨x6, c6, k6⟩ := h6 n _ (xs[6]'(by rw [hx]; simp)) ((hf 6 f6 rfl).trans (List.getElem?_eq_getElem (by rw [hx]; simp))) (hwe 6 f6 (by rw [hx]; simp) rfl)
  obtain ⟨x7, c7, k7⟩ := h7 n _ (xs[7]'(by rw [hx]; simp)) ((hf 7 f7 rfl).trans (List.getElem?_eq_getElem (by rw [hx]; simp))) (hwe 7 f7 (by rw [hx]; simp) rfl)
  obtain ⟨x8, c8, k8⟩ := h8 n _ (xs[8]'(by rw [hx]; simp)) ((hf 8 f8 rfl).trans (List.getElem?_eq_getElem (by rw [hx]; simp))) (hwe 8 f8 (by rw [hx]; simp) rfl)
  refine ⟨(x0, x1, x2, x3, x4, x5, x6, x7, x8), ?_, k0, k1, k2, k3, k4, k5, k6, k7, k8⟩
  simp only [← c0, ← c1, ← c2, ← c3, ← c4, ← c5, ← c6, ← c7, ← c8, o0, o1, o2, o3, o4, o5, o6, o7, o8]
  rw [hc] at hl
  have l0 : cs.drop 0 = cs := rfl
  have t0 := drop_split cs (0) (P.cellsOf f0.type)
  have t1 := drop_split cs (P.cellsOf f0.type) (P.cellsOf f1.type)
  have t2 := drop_split cs (P.cellsOf f0.type + P.cellsOf f1.type) (P.cellsOf f2.type)
  have t3 := drop_split cs (P.cellsOf f0.type + P.cellsOf f1.type + P.cellsOf f2.type) (P.cellsOf f3.type)
  have t4 := drop_split cs (P.cellsOf f0.type + P.cellsOf f1.type + P.cellsOf f2.type + P.cellsOf f3.type) (P.cellsOf f4.type)
  have t5 := drop_split cs (P.cellsOf f0.type + P.cellsOf f1.type + P.cellsOf f2.type + P.cellsOf f3.type + P.cellsOf f4.type) (P.cellsOf f5.type)
  have t6 := drop_split cs (P.cellsOf f0.type + P.cellsOf f1.type + P.cellsOf f2.type + P.cellsOf f3.type + P.cellsOf f4.type + P.cellsOf f5.type) (P.cellsOf f6.type)
  have t7 := drop_split cs (P.cellsOf f0.type + P.cellsOf f1.type + P.cellsOf f2.type + P.cellsOf f3.type + P.cellsOf f4.type + P.cellsOf f5.type + P.cellsOf f6.type) (P.cellsOf f7.type)
  have t8 := drop_split cs (P.cellsOf f0.type + P.cellsOf f1.type + P.cellsOf f2.type + P.cellsOf f3.type + P.cellsOf f4.type + P.cellsOf f5.type + P.cellsOf f6.type + P.cellsOf f7.type) (P.cellsOf f8.type)
  have te : cs.drop (P.cellsOf f0.type + P.cellsOf f1.type + P.cellsOf f2.type + P.cellsOf f3.type + P.cellsOf f4.type + P.cellsOf f5.type + P.cellsOf f6.type + P.cellsOf f7.type + P.cellsOf f8.type) = [] := List.drop_of_length_le (by omega)
  rw [List.drop_zero, Nat.zero_add] at t0
  refine t0.trans ?_
  simp only [List.append_assoc]
  refine congrArg _ (t1.trans ?_)
  refine congrArg _ (t2.trans ?_)
  refine congrArg _ (t3.trans ?_)
  refine congrArg _ (t4.trans ?_)
  refine congrArg _ (t5.trans ?_)
  refine congrArg _ (t6.trans ?_)
  refine congrArg _ (t7.trans ?_)
  refine congrArg _ (t8.trans ?_)
  rw [te, List.append_nil]

end

end Go.H

namespace Go.Proofs

variable {H : Type} {enc : TypeId × Value → H}

theorem returnsInHanded_shaped {a : Assume} {C : Checked} {os : Os} {f : FuncId} {fn : Func} {s : ChangeSpec} {conds : List PathCond} {apart fresh handsOn again : Bool} {X : World → Array Value → Prop}
    (hX : ∀ (w w' : World) (args : Array Value), w.heap = w'.heap → X w args → X w' args)
    (own : ownKnob C.prog.godebug = none) (started : os.Started) (noInit : C.prog.inits.idxOf? f = none) (hfn : C.prog.funcs[f]? = some fn)
    (witness : ∃ (w : World) (tape : Tape) (i : Input), w.os = os ∧ (w.forCall tape i).Shaped C.prog ∧ i.vars = [] ∧ Input.okWide C.prog (w.forCall tape i) .any w.heap.size f i ∧
      ((s.pre enc C.prog fn conds apart (w.forCall tape i).memory i.args ∧ X (w.forCall tape i).memory i.args) ∧ sizedMet enc C.prog fn (OpenSpec.ofChange s) apart (w.forCall tape i).memory i.args) ∧ a.holds C.prog (lone (Frame.enter C.prog f i.args .normal) [] (w.forCall tape i)))
    (contract : ∀ (W : World) (base : Nat) (args : Array Value) (ds gs : List (DataW H)) (before : List MemPlace),
      (∀ (j : Nat) t v, fn.params[j]? = some t → args[j]? = some v → Value.okWide C.prog W .any base t v) →
      DataW.Whole enc C.prog fn.params.toList s.vars apart W args.toList ds gs before →
      conds.all (PathCond.test C.prog ⟨fn.params.toList, ds, s.plain.varTypes C.prog, gs⟩) = true →
      (DataW.weightsEach C.prog (fn.params.toList ++ s.plain.varTypes C.prog) (ds ++ gs)).all (· ≤ reachBytes) = true → X W args → W.ShapedOpen C.prog →
      a.holds C.prog (lone (Frame.enter C.prog f args .normal) [] W) →
      Calls C.prog f args W fun e W' => ∃ v, e = .returned v ∧ s.post enc C.prog fn apart fresh handsOn again W args v W') :
    ReturnsInHanded a C os f .any (fun w args => (s.pre enc C.prog fn conds apart w args ∧ X w args) ∧ sizedMet enc C.prog fn (OpenSpec.ofChange s) apart w args) (s.post enc C.prog fn apart fresh handsOn again) := by
  refine returnsInHanded_of_calls own started noInit witness ?_
  intro w tape i _ hsh _ hok hpre hholds
  obtain ⟨_, _, _, fn', hfn', _, _, _, _, hval⟩ := hok
  have e : fn' = fn := Option.some.inj (hfn'.symm.trans hfn)
  subst e
  obtain ⟨⟨⟨ds, gs, before, hw, hc⟩, hx⟩, hz⟩ := hpre
  have hw' := DataW.Whole.of_heap (w' := w.forCall tape i) (by rfl) hw
  refine (contract (w.forCall tape i) w.heap.size i.args ds gs before hval hw' hc (hz.weights hw) (hX _ _ _ (by rfl) hx) hsh hholds).mono fun e W' ⟨v, he, hp⟩ => ?_
  subst he
  exact ChangeSpec.post_blind hp

end Go.Proofs
