/-
  Ho: how arguments that came in are read: by the shapes of their types. The theorems on structs of k fields are written by program (wip/tools/ho.py).
-/
import Derived.Test.YtmdagnoknmfhcaaDoorHr
import Derived.ChangeArms
import Derived.DataReads
namespace Go.H
set_option linter.unusedSimpArgs false
set_option linter.unusedVariables false

section
variable {H : Type} (ec : TypeId × Value → H) (P : Program) (w : World) (base : Nat) (sp : Nat → Bool) (held : Bool)

/-- what reads at type t are the cells of some x that is good -/
def RdOK {α : Type} (t : TypeId) (enc : α → List Value) (good : α → Prop) : Prop :=
  ∀ fuel cs y, DataW.trod ec P w base sp held fuel t cs = some y → ∃ x, cs = enc x ∧ good x
end

section
variable {H : Type} {ec : TypeId × Value → H} {P : Program} {w : World} {base : Nat} {sp : Nat → Bool} {held : Bool}

theorem okWide_struct {t : TypeId} {fs : Array Field} {r : Reach} {b0 : Nat} {v : Value} (ht : P.underlying t = some (.struct fs)) (h : Value.okWide P w r b0 t v) : ∃ cs, v = .agg cs := by
  simp only [Value.okWide, ht] at h
  obtain ⟨cs, h1, _⟩ := h
  exact ⟨cs, h1⟩
theorem rd_int {t : TypeId} {k : IntKind} (ht : P.underlying t = some (.int k)) : RdOK ec P w base sp held t (fun x : Int => [.int k x]) (fun x => (Lit.int k x).wf = true) := fun _ _ _ h => by
  obtain ⟨n, h1, _, h2⟩ := DataW.trod_int ht h
  exact ⟨n, h1, h2⟩
theorem rd_bool {t : TypeId} (ht : P.underlying t = some .bool) : RdOK ec P w base sp held t (fun x : Bool => [.bool x]) (fun _ => True) := fun _ _ _ h => by
  obtain ⟨n, h1, _⟩ := DataW.trod_bool ht h
  exact ⟨n, h1, trivial⟩
theorem rd_str {t : TypeId} (ht : P.underlying t = some .string) : RdOK ec P w base sp held t (fun x : ByteArray => [.string x]) (fun x => x.size ≤ maxLen) := fun _ _ _ h => by
  obtain ⟨n, h1, _, h2⟩ := DataW.trod_string ht h
  exact ⟨n, h1, h2⟩

/-- a slice and its elements -/
structure GoodS {α : Type} (enc : α → List Value) (size : Nat) (h : Heap) (good : α → Prop) (x : Slc × List α) : Prop where
  row : RowAt enc size h x.1 x.2
  good : ∀ y ∈ x.2, good y
  cap : x.1.cap ≤ maxLen

theorem drop_split (cs : List Value) (a b : Nat) : cs.drop a = (cs.drop a).take b ++ cs.drop (a + b) := by
  rw [← List.drop_drop, List.take_append_drop]

theorem list_of {α : Type} {p : Nat → α → Prop} : ∀ (n : Nat), (∀ i, i < n → ∃ x, p i x) → ∃ xs : List α, xs.length = n ∧ ∀ (i : Nat) x, xs[i]? = some x → p i x
  | 0, _ => ⟨[], rfl, fun i x hx => by simp at hx⟩
  | n + 1, hp => by
    obtain ⟨xs, h1, h2⟩ := list_of n (fun i hi => hp i (by omega))
    obtain ⟨x, hx⟩ := hp n (by omega)
    refine ⟨xs ++ [x], by simp [h1], fun i y hy => ?_⟩
    rw [List.getElem?_append] at hy
    split at hy
    · exact h2 i y hy
    · rename_i hi
      have h3 := (List.getElem?_eq_some_iff.1 hy).1
      simp only [List.length_cons, List.length_nil] at h3
      have hin : i = n := by omega
      subst hin
      rw [h1, Nat.sub_self] at hy
      cases hy
      exact hx

theorem rd_slice {α : Type} {t e : TypeId} {enc : α → List Value} {good : α → Prop} (ht : P.underlying t = some (.slice e)) {size : Nat} (hc : P.cellsOf e = size) (he : RdOK ec P w base sp held e enc good) :
    RdOK ec P w base sp held t (fun x : Slc × List α => [.slice x.1.a x.1.len x.1.cap]) (GoodS enc size w.heap good) := fun fuel cs y h => by
  subst hc
  rcases DataW.trod_slice ht h with ⟨rfl, _⟩ | ⟨a, len, cap, elems, rest, n, _, rfl, _, _, hl, hm, hlen, hel, _, _⟩
  · exact ⟨(⟨none, 0, 0⟩, []), rfl, .nil, fun y hy => by simp at hy, Nat.zero_le _⟩
  · have h1 : ∀ i, i < len → ∃ x, good x ∧ ∀ j v, (enc x)[j]? = some v → cellH w.heap ((a.add (i * P.cellsOf e)).add j) = some v := by
      intro i hi
      have h2 := hel i hi
      rw [List.getElem?_eq_getElem (by omega), Option.bind_eq_some_iff] at h2
      obtain ⟨cs', h3, h4⟩ := h2
      obtain ⟨x, rfl, hg⟩ := he _ _ _ h4
      obtain ⟨_, h5, h6⟩ := World.cells?_some h3
      refine ⟨x, hg, fun j v hv => ?_⟩
      rw [← cell_eq, h6 j (by rw [← h5]; exact (List.getElem?_eq_some_iff.1 hv).1)]
      exact hv
    obtain ⟨xs, h2, h3⟩ := list_of len h1
    refine ⟨(⟨some a, len, cap⟩, xs), rfl, ⟨h2.symm, hl, fun i x hx => ⟨a, rfl, (h3 i x hx).2⟩⟩, fun y hy => ?_, hm⟩
    obtain ⟨i, hi⟩ := List.getElem?_of_mem hy
    exact (h3 i y hi).1

theorem rd_struct2 {α0 α1 : Type} {t : TypeId} {f0 f1 : Field} {e0 : α0 → List Value} {g0 : α0 → Prop} {e1 : α1 → List Value} {g1 : α1 → Prop} (ht : P.underlying t = some (.struct #[f0, f1])) (hc : P.cellsOf t = P.cellsOf f0.type + P.cellsOf f1.type) (o0 : f0.offset = 0) (o1 : f1.offset = P.cellsOf f0.type) (h0 : RdOK ec P w base sp held f0.type e0 g0) (h1 : RdOK ec P w base sp held f1.type e1 g1) :
    RdOK ec P w base sp held t (fun x : α0 × α1 => e0 x.1 ++ e1 x.2) (fun x => g0 x.1 ∧ g1 x.2) := fun fuel cs y h => by
  obtain ⟨xs, n, _, _, hl, hx, hf⟩ := DataW.trod_struct ht h
  obtain ⟨x0, c0, k0⟩ := h0 n _ (xs[0]'(by rw [hx]; simp)) ((hf 0 f0 rfl).trans (List.getElem?_eq_getElem (by rw [hx]; simp)))
  obtain ⟨x1, c1, k1⟩ := h1 n _ (xs[1]'(by rw [hx]; simp)) ((hf 1 f1 rfl).trans (List.getElem?_eq_getElem (by rw [hx]; simp)))
  refine ⟨(x0, x1), ?_, k0, k1⟩
  simp only [← c0, ← c1, o0, o1]
  rw [hc] at hl
  have l0 : cs.drop 0 = cs := rfl
  have t0 := drop_split cs (0) (P.cellsOf f0.type)
  have t1 := drop_split cs (P.cellsOf f0.type) (P.cellsOf f1.type)
  have te : cs.drop (P.cellsOf f0.type + P.cellsOf f1.type) = [] := List.drop_of_length_le (by omega)
  rw [List.drop_zero, Nat.zero_add] at t0
  refine t0.trans ?_
  refine congrArg _ (t1.trans ?_)
  rw [te, List.append_nil]

theorem rd_struct3 {α0 α1 α2 : Type} {t : TypeId} {f0 f1 f2 : Field} {e0 : α0 → List Value} {g0 : α0 → Prop} {e1 : α1 → List Value} {g1 : α1 → Prop} {e2 : α2 → List Value} {g2 : α2 → Prop} (ht : P.underlying t = some (.struct #[f0, f1, f2])) (hc : P.cellsOf t = P.cellsOf f0.type + P.cellsOf f1.type + P.cellsOf f2.type) (o0 : f0.offset = 0) (o1 : f1.offset = P.cellsOf f0.type) (o2 : f2.offset = P.cellsOf f0.type + P.cellsOf f1.type) (h0 : RdOK ec P w base sp held f0.type e0 g0) (h1 : RdOK ec P w base sp held f1.type e1 g1) (h2 : RdOK ec P w base sp held f2.type e2 g2) :
    RdOK ec P w base sp held t (fun x : α0 × α1 × α2 => e0 x.1 ++ e1 x.2.1 ++ e2 x.2.2) (fun x => g0 x.1 ∧ g1 x.2.1 ∧ g2 x.2.2) := fun fuel cs y h => by
  obtain ⟨xs, n, _, _, hl, hx, hf⟩ := DataW.trod_struct ht h
  obtain ⟨x0, c0, k0⟩ := h0 n _ (xs[0]'(by rw [hx]; simp)) ((hf 0 f0 rfl).trans (List.getElem?_eq_getElem (by rw [hx]; simp)))
  obtain ⟨x1, c1, k1⟩ := h1 n _ (xs[1]'(by rw [hx]; simp)) ((hf 1 f1 rfl).trans (List.getElem?_eq_getElem (by rw [hx]; simp)))
  obtain ⟨x2, c2, k2⟩ := h2 n _ (xs[2]'(by rw [hx]; simp)) ((hf 2 f2 rfl).trans (List.getElem?_eq_getElem (by rw [hx]; simp)))
  refine ⟨(x0, x1, x2), ?_, k0, k1, k2⟩
  simp only [← c0, ← c1, ← c2, o0, o1, o2]
  rw [hc] at hl
  have l0 : cs.drop 0 = cs := rfl
  have t0 := drop_split cs (0) (P.cellsOf f0.type)
  have t1 := drop_split cs (P.cellsOf f0.type) (P.cellsOf f1.type)
  have t2 := drop_split cs (P.cellsOf f0.type + P.cellsOf f1.type) (P.cellsOf f2.type)
  have te : cs.drop (P.cellsOf f0.type + P.cellsOf f1.type + P.cellsOf f2.type) = [] := List.drop_of_length_le (by omega)
  rw [List.drop_zero, Nat.zero_add] at t0
  refine t0.trans ?_
  simp only [List.append_assoc]
  refine congrArg _ (t1.trans ?_)
  refine congrArg _ (t2.trans ?_)
  rw [te, List.append_nil]

theorem rd_struct4 {α0 α1 α2 α3 : Type} {t : TypeId} {f0 f1 f2 f3 : Field} {e0 : α0 → List Value} {g0 : α0 → Prop} {e1 : α1 → List Value} {g1 : α1 → Prop} {e2 : α2 → List Value} {g2 : α2 → Prop} {e3 : α3 → List Value} {g3 : α3 → Prop} (ht : P.underlying t = some (.struct #[f0, f1, f2, f3])) (hc : P.cellsOf t = P.cellsOf f0.type + P.cellsOf f1.type + P.cellsOf f2.type + P.cellsOf f3.type) (o0 : f0.offset = 0) (o1 : f1.offset = P.cellsOf f0.type) (o2 : f2.offset = P.cellsOf f0.type + P.cellsOf f1.type) (o3 : f3.offset = P.cellsOf f0.type + P.cellsOf f1.type + P.cellsOf f2.type) (h0 : RdOK ec P w base sp held f0.type e0 g0) (h1 : RdOK ec P w base sp held f1.type e1 g1) (h2 : RdOK ec P w base sp held f2.type e2 g2) (h3 : RdOK ec P w base sp held f3.type e3 g3) :
    RdOK ec P w base sp held t (fun x : α0 × α1 × α2 × α3 => e0 x.1 ++ e1 x.2.1 ++ e2 x.2.2.1 ++ e3 x.2.2.2) (fun x => g0 x.1 ∧ g1 x.2.1 ∧ g2 x.2.2.1 ∧ g3 x.2.2.2) := fun fuel cs y h => by
  obtain ⟨xs, n, _, _, hl, hx, hf⟩ := DataW.trod_struct ht h
  obtain ⟨x0, c0, k0⟩ := h0 n _ (xs[0]'(by rw [hx]; simp)) ((hf 0 f0 rfl).trans (List.getElem?_eq_getElem (by rw [hx]; simp)))
  obtain ⟨x1, c1, k1⟩ := h1 n _ (xs[1]'(by rw [hx]; simp)) ((hf 1 f1 rfl).trans (List.getElem?_eq_getElem (by rw [hx]; simp)))
  obtain ⟨x2, c2, k2⟩ := h2 n _ (xs[2]'(by rw [hx]; simp)) ((hf 2 f2 rfl).trans (List.getElem?_eq_getElem (by rw [hx]; simp)))
  obtain ⟨x3, c3, k3⟩ := h3 n _ (xs[3]'(by rw [hx]; simp)) ((hf 3 f3 rfl).trans (List.getElem?_eq_getElem (by rw [hx]; simp)))
  refine ⟨(x0, x1, x2, x3), ?_, k0, k1, k2, k3⟩
  simp only [← c0, ← c1, ← c2, ← c3, o0, o1, o2, o3]
  rw [hc] at hl
  have l0 : cs.drop 0 = cs := rfl
  have t0 := drop_split cs (0) (P.cellsOf f0.type)
  have t1 := drop_split cs (P.cellsOf f0.type) (P.cellsOf f1.type)
  have t2 := drop_split cs (P.cellsOf f0.type + P.cellsOf f1.type) (P.cellsOf f2.type)
  have t3 := drop_split cs (P.cellsOf f0.type + P.cellsOf f1.type + P.cellsOf f2.type) (P.cellsOf f3.type)
  have te : cs.drop (P.cellsOf f0.type + P.cellsOf f1.type + P.cellsOf f2.type + P.cellsOf f3.type) = [] := List.drop_of_length_le (by omega)
  rw [List.drop_zero, Nat.zero_add] at t0
  refine t0.trans ?_
  simp only [List.append_assoc]
  refine congrArg _ (t1.trans ?_)
  refine congrArg _ (t2.trans ?_)
  refine congrArg _ (t3.trans ?_)
  rw [te, List.append_nil]

theorem rd_struct5 {α0 α1 α2 α3 α4 : Type} {t : TypeId} {f0 f1 f2 f3 f4 : Field} {e0 : α0 → List Value} {g0 : α0 → Prop} {e1 : α1 → List Value} {g1 : α1 → Prop} {e2 : α2 → List Value} {g2 : α2 → Prop} {e3 : α3 → List Value} {g3 : α3 → Prop} {e4 : α4 → List Value} {g4 : α4 → Prop} (ht : P.underlying t = some (.struct #[f0, f1, f2, f3, f4])) (hc : P.cellsOf t = P.cellsOf f0.type + P.cellsOf f1.type + P.cellsOf f2.type + P.cellsOf f3.type + P.cellsOf f4.type) (o0 : f0.offset = 0) (o1 : f1.offset = P.cellsOf f0.type) (o2 : f2.offset = P.cellsOf f0.type + P.cellsOf f1.type) (o3 : f3.offset = P.cellsOf f0.type + P.cellsOf f1.type + P.cellsOf f2.type) (o4 : f4.offset = P.cellsOf f0.type + P.cellsOf f1.type + P.cellsOf f2.type + P.cellsOf f3.type) (h0 : RdOK ec P w base sp held f0.type e0 g0) (h1 : RdOK ec P w base sp held f1.type e1 g1) (h2 : RdOK ec P w base sp held f2.type e2 g2) (h3 : RdOK ec P w base sp held f3.type e3 g3) (h4 : RdOK ec P w base sp held f4.type e4 g4) :
    RdOK ec P w base sp held t (fun x : α0 × α1 × α2 × α3 × α4 => e0 x.1 ++ e1 x.2.1 ++ e2 x.2.2.1 ++ e3 x.2.2.2.1 ++ e4 x.2.2.2.2) (fun x => g0 x.1 ∧ g1 x.2.1 ∧ g2 x.2.2.1 ∧ g3 x.2.2.2.1 ∧ g4 x.2.2.2.2) := fun fuel cs y h => by
  obtain ⟨xs, n, _, _, hl, hx, hf⟩ := DataW.trod_struct ht h
  obtain ⟨x0, c0, k0⟩ := h0 n _ (xs[0]'(by rw [hx]; simp)) ((hf 0 f0 rfl).trans (List.getElem?_eq_getElem (by rw [hx]; simp)))
  obtain ⟨x1, c1, k1⟩ := h1 n _ (xs[1]'(by rw [hx]; simp)) ((hf 1 f1 rfl).trans (List.getElem?_eq_getElem (by rw [hx]; simp)))
  obtain ⟨x2, c2, k2⟩ := h2 n _ (xs[2]'(by rw [hx]; simp)) ((hf 2 f2 rfl).trans (List.getElem?_eq_getElem (by rw [hx]; simp)))
  obtain ⟨x3, c3, k3⟩ := h3 n _ (xs[3]'(by rw [hx]; simp)) ((hf 3 f3 rfl).trans (List.getElem?_eq_getElem (by rw [hx]; simp)))
  obtain ⟨x4, c4, k4⟩ := h4 n _ (xs[4]'(by rw [hx]; simp)) ((hf 4 f4 rfl).trans (List.getElem?_eq_getElem (by rw [hx]; simp)))
  refine ⟨(x0, x1, x2, x3, x4), ?_, k0, k1, k2, k3, k4⟩
  simp only [← c0, ← c1, ← c2, ← c3, ← c4, o0, o1, o2, o3, o4]
  rw [hc] at hl
  have l0 : cs.drop 0 = cs := rfl
  have t0 := drop_split cs (0) (P.cellsOf f0.type)
  have t1 := drop_split cs (P.cellsOf f0.type) (P.cellsOf f1.type)
  have t2 := drop_split cs (P.cellsOf f0.type + P.cellsOf f1.type) (P.cellsOf f2.type)
  have t3 := drop_split cs (P.cellsOf f0.type + P.cellsOf f1.type + P.cellsOf f2.type) (P.cellsOf f3.type)
  have t4 := drop_split cs (P.cellsOf f0.type + P.cellsOf f1.type + P.cellsOf f2.type + P.cellsOf f3.type) (P.cellsOf f4.type)
  have te : cs.drop (P.cellsOf f0.type + P.cellsOf f1.type + P.cellsOf f2.type + P.cellsOf f3.type + P.cellsOf f4.type) = [] := List.drop_of_length_le (by omega)
  rw [List.drop_zero, Nat.zero_add] at t0
  refine t0.trans ?_
  simp only [List.append_assoc]
  refine congrArg _ (t1.trans ?_)
  refine congrArg _ (t2.trans ?_)
  refine congrArg _ (t3.trans ?_)
  refine congrArg _ (t4.trans ?_)
  rw [te, List.append_nil]

theorem rd_struct6 {α0 α1 α2 α3 α4 α5 : Type} {t : TypeId} {f0 f1 f2 f3 f4 f5 : Field} {e0 : α0 → List Value} {g0 : α0 → Prop} {e1 : α1 → List Value} {g1 : α1 → Prop} {e2 : α2 → List Value} {g2 : α2 → Prop} {e3 : α3 → List Value} {g3 : α3 → Prop} {e4 : α4 → List Value} {g4 : α4 → Prop} {e5 : α5 → List Value} {g5 : α5 → Prop} (ht : P.underlying t = some (.struct #[f0, f1, f2, f3, f4, f5])) (hc : P.cellsOf t = P.cellsOf f0.type + P.cellsOf f1.type + P.cellsOf f2.type + P.cellsOf f3.type + P.cellsOf f4.type + P.cellsOf f5.type) (o0 : f0.offset = 0) (o1 : f1.offset = P.cellsOf f0.type) (o2 : f2.offset = P.cellsOf f0.type + P.cellsOf f1.type) (o3 : f3.offset = P.cellsOf f0.type + P.cellsOf f1.type + P.cellsOf f2.type) (o4 : f4.offset = P.cellsOf f0.type + P.cellsOf f1.type + P.cellsOf f2.type + P.cellsOf f3.type) (o5 : f5.offset = P.cellsOf f0.type + P.cellsOf f1.type + P.cellsOf f2.type + P.cellsOf f3.type + P.cellsOf f4.type) (h0 : RdOK ec P w base sp held f0.type e0 g0) (h1 : RdOK ec P w base sp held f1.type e1 g1) (h2 : RdOK ec P w base sp held f2.type e2 g2) (h3 : RdOK ec P w base sp held f3.type e3 g3) (h4 : RdOK ec P w base sp held f4.type e4 g4) (h5 : RdOK ec P w base sp held f5.type e5 g5) :
    RdOK ec P w base sp held t (fun x : α0 × α1 × α2 × α3 × α4 × α5 => e0 x.1 ++ e1 x.2.1 ++ e2 x.2.2.1 ++ e3 x.2.2.2.1 ++ e4 x.2.2.2.2.1 ++ e5 x.2.2.2.2.2) (fun x => g0 x.1 ∧ g1 x.2.1 ∧ g2 x.2.2.1 ∧ g3 x.2.2.2.1 ∧ g4 x.2.2.2.2.1 ∧ g5 x.2.2.2.2.2) := fun fuel cs y h => by
  obtain ⟨xs, n, _, _, hl, hx, hf⟩ := DataW.trod_struct ht h
  obtain ⟨x0, c0, k0⟩ := h0 n _ (xs[0]'(by rw [hx]; simp)) ((hf 0 f0 rfl).trans (List.getElem?_eq_getElem (by rw [hx]; simp)))
  obtain ⟨x1, c1, k1⟩ := h1 n _ (xs[1]'(by rw [hx]; simp)) ((hf 1 f1 rfl).trans (List.getElem?_eq_getElem (by rw [hx]; simp)))
  obtain ⟨x2, c2, k2⟩ := h2 n _ (xs[2]'(by rw [hx]; simp)) ((hf 2 f2 rfl).trans (List.getElem?_eq_getElem (by rw [hx]; simp)))
  obtain ⟨x3, c3, k3⟩ := h3 n _ (xs[3]'(by rw [hx]; simp)) ((hf 3 f3 rfl).trans (List.getElem?_eq_getElem (by rw [hx]; simp)))
  obtain ⟨x4, c4, k4⟩ := h4 n _ (xs[4]'(by rw [hx]; simp)) ((hf 4 f4 rfl).trans (List.getElem?_eq_getElem (by rw [hx]; simp)))
  obtain ⟨x5, c5, k5⟩ := h5 n _ (xs[5]'(by rw [hx]; simp)) ((hf 5 f5 rfl).trans (List.getElem?_eq_getElem (by rw [hx]; simp)))
  refine ⟨(x0, x1, x2, x3, x4, x5), ?_, k0, k1, k2, k3, k4, k5⟩
  simp only [← c0, ← c1, ← c2, ← c3, ← c4, ← c5, o0, o1, o2, o3, o4, o5]
  rw [hc] at hl
  have l0 : cs.drop 0 = cs := rfl
  have t0 := drop_split cs (0) (P.cellsOf f0.type)
  have t1 := drop_split cs (P.cellsOf f0.type) (P.cellsOf f1.type)
  have t2 := drop_split cs (P.cellsOf f0.type + P.cellsOf f1.type) (P.cellsOf f2.type)
  have t3 := drop_split cs (P.cellsOf f0.type + P.cellsOf f1.type + P.cellsOf f2.type) (P.cellsOf f3.type)
  have t4 := drop_split cs (P.cellsOf f0.type + P.cellsOf f1.type + P.cellsOf f2.type + P.cellsOf f3.type) (P.cellsOf f4.type)
  have t5 := drop_split cs (P.cellsOf f0.type + P.cellsOf f1.type + P.cellsOf f2.type + P.cellsOf f3.type + P.cellsOf f4.type) (P.cellsOf f5.type)
  have te : cs.drop (P.cellsOf f0.type + P.cellsOf f1.type + P.cellsOf f2.type + P.cellsOf f3.type + P.cellsOf f4.type + P.cellsOf f5.type) = [] := List.drop_of_length_le (by omega)
  rw [List.drop_zero, Nat.zero_add] at t0
  refine t0.trans ?_
  simp only [List.append_assoc]
  refine congrArg _ (t1.trans ?_)
  refine congrArg _ (t2.trans ?_)
  refine congrArg _ (t3.trans ?_)
  refine congrArg _ (t4.trans ?_)
  refine congrArg _ (t5.trans ?_)
  rw [te, List.append_nil]

theorem rd_struct7 {α0 α1 α2 α3 α4 α5 α6 : Type} {t : TypeId} {f0 f1 f2 f3 f4 f5 f6 : Field} {e0 : α0 → List Value} {g0 : α0 → Prop} {e1 : α1 → List Value} {g1 : α1 → Prop} {e2 : α2 → List Value} {g2 : α2 → Prop} {e3 : α3 → List Value} {g3 : α3 → Prop} {e4 : α4 → List Value} {g4 : α4 → Prop} {e5 : α5 → List Value} {g5 : α5 → Prop} {e6 : α6 → List Value} {g6 : α6 → Prop} (ht : P.underlying t = some (.struct #[f0, f1, f2, f3, f4, f5, f6])) (hc : P.cellsOf t = P.cellsOf f0.type + P.cellsOf f1.type + P.cellsOf f2.type + P.cellsOf f3.type + P.cellsOf f4.type + P.cellsOf f5.type + P.cellsOf f6.type) (o0 : f0.offset = 0) (o1 : f1.offset = P.cellsOf f0.type) (o2 : f2.offset = P.cellsOf f0.type + P.cellsOf f1.type) (o3 : f3.offset = P.cellsOf f0.type + P.cellsOf f1.type + P.cellsOf f2.type) (o4 : f4.offset = P.cellsOf f0.type + P.cellsOf f1.type + P.cellsOf f2.type + P.cellsOf f3.type) (o5 : f5.offset = P.cellsOf f0.type + P.cellsOf f1.type + P.cellsOf f2.type + P.cellsOf f3.type + P.cellsOf f4.type) (o6 : f6.offset = P.cellsOf f0.type + P.cellsOf f1.type + P.cellsOf f2.type + P.cellsOf f3.type + P.cellsOf f4.type + P.cellsOf f5.type) (h0 : RdOK ec P w base sp held f0.type e0 g0) (h1 : RdOK ec P w base sp held f1.type e1 g1) (h2 : RdOK ec P w base sp held f2.type e2 g2) (h3 : RdOK ec P w base sp held f3.type e3 g3) (h4 : RdOK ec P w base sp held f4.type e4 g4) (h5 : RdOK ec P w base sp held f5.type e5 g5) (h6 : RdOK ec P w base sp held f6.type e6 g6) :
    RdOK ec P w base sp held t (fun x : α0 × α1 × α2 × α3 × α4 × α5 × α6 => e0 x.1 ++ e1 x.2.1 ++ e2 x.2.2.1 ++ e3 x.2.2.2.1 ++ e4 x.2.2.2.2.1 ++ e5 x.2.2.2.2.2.1 ++ e6 x.2.2.2.2.2.2) (fun x => g0 x.1 ∧ g1 x.2.1 ∧ g2 x.2.2.1 ∧ g3 x.2.2.2.1 ∧ g4 x.2.2.2.2.1 ∧ g5 x.2.2.2.2.2.1 ∧ g6 x.2.2.2.2.2.2) := fun fuel cs y h => by
  obtain ⟨xs, n, _, _, hl, hx, hf⟩ := DataW.trod_struct ht h
  obtain ⟨x0, c0, k0⟩ := h0 n _ (xs[0]'(by rw [hx]; simp)) ((hf 0 f0 rfl).trans (List.getElem?_eq_getElem (by rw [hx]; simp)))
  obtain ⟨x1, c1, k1⟩ := h1 n _ (xs[1]'(by rw [hx]; simp)) ((hf 1 f1 rfl).trans (List.getElem?_eq_getElem (by rw [hx]; simp)))
  obtain ⟨x2, c2, k2⟩ := h2 n _ (xs[2]'(by rw [hx]; simp)) ((hf 2 f2 rfl).trans (List.getElem?_eq_getElem (by rw [hx]; simp)))
  obtain ⟨x3, c3, k3⟩ := h3 n _ (xs[3]'(by rw [hx]; simp)) ((hf 3 f3 rfl).trans (List.getElem?_eq_getElem (by rw [hx]; simp)))
  obtain ⟨x4, c4, k4⟩ := h4 n _ (xs[4]'(by rw [hx]; simp)) ((hf 4 f4 rfl).trans (List.getElem?_eq_getElem (by rw [hx]; simp)))
  obtain ⟨x5, c5, k5⟩ := h5 n _ (xs[5]'(by rw [hx]; simp)) ((hf 5 f5 rfl).trans (List.getElem?_eq_getElem (by rw [hx]; simp)))
  obtain ⟨x6, c6, k6⟩ := h6 n _ (xs[6]'(by rw [hx]; simp)) ((hf 6 f6 rfl).trans (List.getElem?_eq_getElem (by rw [hx]; simp)))
  refine ⟨(x0, x1, x2, x3, x4, x5, x6), ?_, k0, k1, k2, k3, k4, k5, k6⟩
  simp only [← c0, ← c1, ← c2, ← c3, ← c4, ← c5, ← c6, o0, o1, o2, o3, o4, o5, o6]
  rw [hc] at hl
  have l0 : cs.drop 0 = cs := rfl
  have t0 := drop_split cs (0) (P.cellsOf f0.type)
  have t1 := drop_split cs (P.cellsOf f0.type) (P.cellsOf f1.type)
  have t2 := drop_split cs (P.cellsOf f0.type + P.cellsOf f1.type) (P.cellsOf f2.type)
  have t3 := drop_split cs (P.cellsOf f0.type + P.cellsOf f1.type + P.cellsOf f2.type) (P.cellsOf f3.type)
  have t4 := drop_split cs (P.cellsOf f0.type + P.cellsOf f1.type + P.cellsOf f2.type + P.cellsOf f3.type) (P.cellsOf f4.type)
  have t5 := drop_split cs (P.cellsOf f0.type + P.cellsOf f1.type + P.cellsOf f2.type + P.cellsOf f3.type + P.cellsOf f4.type) (P.cellsOf f5.type)
  have t6 := drop_split cs (P.cellsOf f0.type + P.cellsOf f1.type + P.cellsOf f2.type + P.cellsOf f3.type + P.cellsOf f4.type + P.cellsOf f5.type) (P.cellsOf f6.type)
  have te : cs.drop (P.cellsOf f0.type + P.cellsOf f1.type + P.cellsOf f2.type + P.cellsOf f3.type + P.cellsOf f4.type + P.cellsOf f5.type + P.cellsOf f6.type) = [] := List.drop_of_length_le (by omega)
  rw [List.drop_zero, Nat.zero_add] at t0
  refine t0.trans ?_
  simp only [List.append_assoc]
  refine congrArg _ (t1.trans ?_)
  refine congrArg _ (t2.trans ?_)
  refine congrArg _ (t3.trans ?_)
  refine congrArg _ (t4.trans ?_)
  refine congrArg _ (t5.trans ?_)
  refine congrArg _ (t6.trans ?_)
  rw [te, List.append_nil]

theorem rd_struct8 {α0 α1 α2 α3 α4 α5 α6 α7 : Type} {t : TypeId} {f0 f1 f2 f3 f4 f5 f6 f7 : Field} {e0 : α0 → List Value} {g0 : α0 → Prop} {e1 : α1 → List Value} {g1 : α1 → Prop} {e2 : α2 → List Value} {g2 : α2 → Prop} {e3 : α3 → List Value} {g3 : α3 → Prop} {e4 : α4 → List Value} {g4 : α4 → Prop} {e5 : α5 → List Value} {g5 : α5 → Prop} {e6 : α6 → List Value} {g6 : α6 → Prop} {e7 : α7 → List Value} {g7 : α7 → Prop} (ht : P.underlying t = some (.struct #[f0, f1, f2, f3, f4, f5, f6, f7])) (hc : P.cellsOf t = P.cellsOf f0.type + P.cellsOf f1.type + P.cellsOf f2.type + P.cellsOf f3.type + P.cellsOf f4.type + P.cellsOf f5.type + P.cellsOf f6.type + P.cellsOf f7.type) (o0 : f0.offset = 0) (o1 : f1.offset = P.cellsOf f0.type) (o2 : f2.offset = P.cellsOf f0.type + P.cellsOf f1.type) (o3 : f3.offset = P.cellsOf f0.type + P.cellsOf f1.type + P.cellsOf f2.type) (o4 : f4.offset = P.cellsOf f0.type + P.cellsOf f1.type + P.cellsOf f2.type + P.cellsOf f3.type) (o5 : f5.offset = P.cellsOf f0.type + P.cellsOf f1.type + P.cellsOf f2.type + P.cellsOf f3.type + P.cellsOf f4.type) (o6 : f6.offset = P.cellsOf f0.type + P.cellsOf f1.type + P.cellsOf f2.type + P.cellsOf f3.type + P.cellsOf f4.type + P.cellsOf f5.type) (o7 : f7.offset = P.cellsOf f0.type + P.cellsOf f1.type + P.cellsOf f2.type + P.cellsOf f3.type + P.cellsOf f4.type + P.cellsOf f5.type + P.cellsOf f6.type) (h0 : RdOK ec P w base sp held f0.type e0 g0) (h1 : RdOK ec P w base sp held f1.type e1 g1) (h2 : RdOK ec P w base sp held f2.type e2 g2) (h3 : RdOK ec P w base sp held f3.type e3 g3) (h4 : RdOK ec P w base sp held f4.type e4 g4) (h5 : RdOK ec P w base sp held f5.type e5 g5) (h6 : RdOK ec P w base sp held f6.type e6 g6) (h7 : RdOK ec P w base sp held f7.type e7 g7) :
    RdOK ec P w base sp held t (fun x : α0 × α1 × α2 × α3 × α4 × α5 × α6 × α7 => e0 x.1 ++ e1 x.2.1 ++ e2 x.2.2.1 ++ e3 x.2.2.2.1 ++ e4 x.2.2.2.2.1 ++ e5 x.2.2.2.2.2.1 ++ e6 x.2.2.2.2.2.2.1 ++ e7 x.2.2.2.2.2.2.2) (fun x => g0 x.1 ∧ g1 x.2.1 ∧ g2 x.2.2.1 ∧ g3 x.2.2.2.1 ∧ g4 x.2.2.2.2.1 ∧ g5 x.2.2.2.2.2.1 ∧ g6 x.2.2.2.2.2.2.1 ∧ g7 x.2.2.2.2.2.2.2) := fun fuel cs y h => by
  obtain ⟨xs, n, _, _, hl, hx, hf⟩ := DataW.trod_struct ht h
  obtain ⟨x0, c0, k0⟩ := h0 n _ (xs[0]'(by rw [hx]; simp)) ((hf 0 f0 rfl).trans (List.getElem?_eq_getElem (by rw [hx]; simp)))
  obtain ⟨x1, c1, k1⟩ := h1 n _ (xs[1]'(by rw [hx]; simp)) ((hf 1 f1 rfl).trans (List.getElem?_eq_getElem (by rw [hx]; simp)))
  obtain ⟨x2, c2, k2⟩ := h2 n _ (xs[2]'(by rw [hx]; simp)) ((hf 2 f2 rfl).trans (List.getElem?_eq_getElem (by rw [hx]; simp)))
  obtain ⟨x3, c3, k3⟩ := h3 n _ (xs[3]'(by rw [hx]; simp)) ((hf 3 f3 rfl).trans (List.getElem?_eq_getElem (by rw [hx]; simp)))
  obtain ⟨x4, c4, k4⟩ := h4 n _ (xs[4]'(by rw [hx]; simp)) ((hf 4 f4 rfl).trans (List.getElem?_eq_getElem (by rw [hx]; simp)))
  obtain ⟨x5, c5, k5⟩ := h5 n _ (xs[5]'(by rw [hx]; simp)) ((hf 5 f5 rfl).trans (List.getElem?_eq_getElem (by rw [hx]; simp)))
  obtain ⟨x6, c6, k6⟩ := h6 n _ (xs[6]'(by rw [hx]; simp)) ((hf 6 f6 rfl).trans (List.getElem?_eq_getElem (by rw [hx]; simp)))
  obtain ⟨x7, c7, k7⟩ := h7 n _ (xs[7]'(by rw [hx]; simp)) ((hf 7 f7 rfl).trans (List.getElem?_eq_getElem (by rw [hx]; simp)))
  refine ⟨(x0, x1, x2, x3, x4, x5, x6, x7), ?_, k0, k1, k2, k3, k4, k5, k6, k7⟩
  simp only [← c0, ← c1, ← c2, ← c3, ← c4, ← c5, ← c6, ← c7, o0, o1, o2, o3, o4, o5, o6, o7]
  rw [hc] at hl
  have l0 : cs.drop 0 = cs := rfl
  have t0 := drop_split cs (0) (P.cellsOf f0.type)
  have t1 := drop_split cs (P.cellsOf f0.type) (P.cellsOf f1.type)
  have t2 := drop_split cs (P.cellsOf f0.type + P.cellsOf f1.type) (P.cellsOf f2.type)
  have t3 := drop_split cs (P.cellsOf f0.type + P.cellsOf f1.type + P.cellsOf f2.type) (P.cellsOf f3.type)
  have t4 := drop_split cs (P.cellsOf f0.type + P.cellsOf f1.type + P.cellsOf f2.type + P.cellsOf f3.type) (P.cellsOf f4.type)
  have t5 := drop_split cs (P.cellsOf f0.type + P.cellsOf f1.type + P.cellsOf f2.type + P.cellsOf f3.type + P.cellsOf f4.type) (P.cellsOf f5.type)
  have t6 := drop_split cs (P.cellsOf f0.type + P.cellsOf f1.type + P.cellsOf f2.type + P.cellsOf f3.type + P.cellsOf f4.type + P.cellsOf f5.type) (P.cellsOf f6.type)
  have t7 := drop_split cs (P.cellsOf f0.type + P.cellsOf f1.type + P.cellsOf f2.type + P.cellsOf f3.type + P.cellsOf f4.type + P.cellsOf f5.type + P.cellsOf f6.type) (P.cellsOf f7.type)
  have te : cs.drop (P.cellsOf f0.type + P.cellsOf f1.type + P.cellsOf f2.type + P.cellsOf f3.type + P.cellsOf f4.type + P.cellsOf f5.type + P.cellsOf f6.type + P.cellsOf f7.type) = [] := List.drop_of_length_le (by omega)
  rw [List.drop_zero, Nat.zero_add] at t0
  refine t0.trans ?_
  simp only [List.append_assoc]
  refine congrArg _ (t1.trans ?_)
  refine congrArg _ (t2.trans ?_)
  refine congrArg _ (t3.trans ?_)
  refine congrArg _ (t4.trans ?_)
  refine congrArg _ (t5.trans ?_)
  refine congrArg _ (t6.trans ?_)
  refine congrArg _ (t7.trans ?_)
  rw [te, List.append_nil]

theorem rd_struct9 {α0 α1 α2 α3 α4 α5 α6 α7 α8 : Type} {t : TypeId} {f0 f1 f2 f3 f4 f5 f6 f7 f8 : Field} {e0 : α0 → List Value} {g0 : α0 → Prop} {e1 : α1 → List Value} {g1 : α1 → Prop} {e2 : α2 → List Value} {g2 : α2 → Prop} {e3 : α3 → List Value} {g3 : α3 → Prop} {e4 : α4 → List Value} {g4 : α4 → Prop} {e5 : α5 → List Value} {g5 : α5 → Prop} {e6 : α6 → List Value} {g6 : α6 → Prop} {e7 : α7 → List Value} {g7 : α7 → Prop} {e8 : α8 → List Value} {g8 : α8 → Prop} (ht : P.underlying t = some (.struct #[f0, f1, f2, f3, f4, f5, f6, f7, f8])) (hc : P.cellsOf t = P.cellsOf f0.type + P.cellsOf f1.type + P.cellsOf f2.type + P.cellsOf f3.type + P.cellsOf f4.type + P.cellsOf f5.type + P.cellsOf f6.type + P.cellsOf f7.type + P.cellsOf f8.type) (o0 : f0.offset = 0) (o1 : f1.offset = P.cellsOf f0.type) (o2 : f2.offset = P.cellsOf f0.type + P.cellsOf f1.type) (o3 : f3.offset = P.cellsOf f0.type + P.cellsOf f1.type + P.cellsOf f2.type) (o4 : f4.offset = P.cellsOf f0.type + P.cellsOf f1.type + P.cellsOf f2.type + P.cellsOf f3.type) (o5 : f5.offset = P.cellsOf f0.type + P.cellsOf f1.type + P.cellsOf f2.type + P.cellsOf f3.type + P.cellsOf f4.type) (o6 : f6.offset = P.cellsOf f0.type + P.cellsOf f1.type + P.cellsOf f2.type + P.cellsOf f3.type + P.cellsOf f4.type + P.cellsOf f5.type) (o7 : f7.offset = P.cellsOf f0.type + P.cellsOf f1.type + P.cellsOf f2.type + P.cellsOf f3.type + P.cellsOf f4.type + P.cellsOf f5.type + P.cellsOf f6.type) (o8 : f8.offset = P.cellsOf f0.type + P.cellsOf f1.type + P.cellsOf f2.type + P.cellsOf f3.type + P.cellsOf f4.type + P.cellsOf f5.type + P.cellsOf f6.type + P.cellsOf f7.type) (h0 : RdOK ec P w base sp held f0.type e0 g0) (h1 : RdOK ec P w base sp held f1.type e1 g1) (h2 : RdOK ec P w base sp held f2.type e2 g2) (h3 : RdOK ec P w base sp held f3.type e3 g3) (h4 : RdOK ec P w base sp held f4.type e4 g4) (h5 : RdOK ec P w base sp held f5.type e5 g5) (h6 : RdOK ec P w base sp held f6.type e6 g6) (h7 : RdOK ec P w base sp held f7.type e7 g7) (h8 : RdOK ec P w base sp held f8.type e8 g8) :
    RdOK ec P w base sp held t (fun x : α0 × α1 × α2 × α3 × α4 × α5 × α6 × α7 × α8 => e0 x.1 ++ e1 x.2.1 ++ e2 x.2.2.1 ++ e3 x.2.2.2.1 ++ e4 x.2.2.2.2.1 ++ e5 x.2.2.2.2.2.1 ++ e6 x.2.2.2.2.2.2.1 ++ e7 x.2.2.2.2.2.2.2.1 ++ e8 x.2.2.2.2.2.2.2.2) (fun x => g0 x.1 ∧ g1 x.2.1 ∧ g2 x.2.2.1 ∧ g3 x.2.2.2.1 ∧ g4 x.2.2.2.2.1 ∧ g5 x.2.2.2.2.2.1 ∧ g6 x.2.2.2.2.2.2.1 ∧ g7 x.2.2.2.2.2.2.2.1 ∧ g8 x.2.2.2.2.2.2.2.2) := fun fuel cs y h => by
  obtain ⟨xs, n, _, _, hl, hx, hf⟩ := DataW.trod_struct ht h
  obtain ⟨x0, c0, k0⟩ := h0 n _ (xs[0]'(by rw [hx]; simp)) ((hf 0 f0 rfl).trans (List.getElem?_eq_getElem (by rw [hx]; simp)))
  obtain ⟨x1, c1, k1⟩ := h1 n _ (xs[1]'(by rw [hx]; simp)) ((hf 1 f1 rfl).trans (List.getElem?_eq_getElem (by rw [hx]; simp)))
  obtain ⟨x2, c2, k2⟩ := h2 n _ (xs[2]'(by rw [hx]; simp)) ((hf 2 f2 rfl).trans (List.getElem?_eq_getElem (by rw [hx]; simp)))
  obtain ⟨x3, c3, k3⟩ := h3 n _ (xs[3]'(by rw [hx]; simp)) ((hf 3 f3 rfl).trans (List.getElem?_eq_getElem (by rw [hx]; simp)))
  obtain ⟨x4, c4, k4⟩ := h4 n _ (xs[4]'(by rw [hx]; simp)) ((hf 4 f4 rfl).trans (List.getElem?_eq_getElem (by rw [hx]; simp)))
  obtain ⟨x5, c5, k5⟩ := h5 n _ (xs[5]'(by rw [hx]; simp)) ((hf 5 f5 rfl).trans (List.getElem?_eq_getElem (by rw [hx]; simp)))
  obtain ⟨x6, c6, k6⟩ := h6 n _ (xs[6]'(by rw [hx]; simp)) ((hf 6 f6 rfl).trans (List.getElem?_eq_getElem (by rw [hx]; simp)))
  obtain ⟨x7, c7, k7⟩ := h7 n _ (xs[7]'(by rw [hx]; simp)) ((hf 7 f7 rfl).trans (List.getElem?_eq_getElem (by rw [hx]; simp)))
  obtain ⟨x8, c8, k8⟩ := h8 n _ (xs[8]'(by rw [hx]; simp)) ((hf 8 f8 rfl).trans (List.getElem?_eq_getElem (by rw [hx]; simp)))
  refine ⟨(x0, x1, x2, x3, x4, x5, x6, x7, x8), ?_, k0, k1, k2, k3, k4, k5, k6, k7, k8⟩
  simp only [← c0, ← c1, ← c2, ← c3, ← c4, ← c5, ← c6, ← c7, ← c8, o0, o1, o2, o3, o4, o5, o6, o7, o8]
  rw [hc] at hl
  have l0 : cs.drop 0 = cs := rfl
  have t0 := drop_split cs (0) (P.cellsOf f0.type)
  have t1 := drop_split cs (P.cellsOf f0.type) (P.cellsOf f1.type)
  have t2 := drop_split cs (P.cellsOf f0.type + P.cellsOf f1.type) (P.cellsOf f2.type)
  have t3 := drop_split cs (P.cellsOf f0.type + P.cellsOf f1.type + P.cellsOf f2.type) (P.cellsOf f3.type)
  have t4 := drop_split cs (P.cellsOf f0.type + P.cellsOf f1.type + P.cellsOf f2.type + P.cellsOf f3.type) (P.cellsOf f4.type)
  have t5 := drop_split cs (P.cellsOf f0.type + P.cellsOf f1.type + P.cellsOf f2.type + P.cellsOf f3.type + P.cellsOf f4.type) (P.cellsOf f5.type)
  have t6 := drop_split cs (P.cellsOf f0.type + P.cellsOf f1.type + P.cellsOf f2.type + P.cellsOf f3.type + P.cellsOf f4.type + P.cellsOf f5.type) (P.cellsOf f6.type)
  have t7 := drop_split cs (P.cellsOf f0.type + P.cellsOf f1.type + P.cellsOf f2.type + P.cellsOf f3.type + P.cellsOf f4.type + P.cellsOf f5.type + P.cellsOf f6.type) (P.cellsOf f7.type)
  have t8 := drop_split cs (P.cellsOf f0.type + P.cellsOf f1.type + P.cellsOf f2.type + P.cellsOf f3.type + P.cellsOf f4.type + P.cellsOf f5.type + P.cellsOf f6.type + P.cellsOf f7.type) (P.cellsOf f8.type)
  have te : cs.drop (P.cellsOf f0.type + P.cellsOf f1.type + P.cellsOf f2.type + P.cellsOf f3.type + P.cellsOf f4.type + P.cellsOf f5.type + P.cellsOf f6.type + P.cellsOf f7.type + P.cellsOf f8.type) = [] := List.drop_of_length_le (by omega)
  rw [List.drop_zero, Nat.zero_add] at t0
  refine t0.trans ?_
  simp only [List.append_assoc]
  refine congrArg _ (t1.trans ?_)
  refine congrArg _ (t2.trans ?_)
  refine congrArg _ (t3.trans ?_)
  refine congrArg _ (t4.trans ?_)
  refine congrArg _ (t5.trans ?_)
  refine congrArg _ (t6.trans ?_)
  refine congrArg _ (t7.trans ?_)
  refine congrArg _ (t8.trans ?_)
  rw [te, List.append_nil]

end

end Go.H
