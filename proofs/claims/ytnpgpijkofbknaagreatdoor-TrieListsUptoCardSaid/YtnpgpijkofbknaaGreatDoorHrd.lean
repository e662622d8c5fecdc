/-
  Hrd: how arguments that came in are read, by the shapes of their types, within bounds (reach, or bulk); a row's claim from its contract.
-/
import Derived.Test.YtnpgpijkofbknaaGreatDoorHB
import Derived.ChangeArms
import Derived.DataReads
import Derived.SizedLaws
import Derived.Handed
import Derived.OpenShut

namespace Go.R
open Go.H
set_option linter.unusedSimpArgs false
set_option linter.unusedVariables false

theorem weightsAll_mem {H : Type} {P : Program} {e : TypeId} : ∀ {l : List (DataW H)} {d : DataW H}, d ∈ l → ∀ n ∈ d.weights P e, n ∈ DataW.weightsAll P e l
  | [], _, h, _, _ => by simp at h
  | x :: l, d, h, n, hn => by
    simp only [DataW.weightsAll, List.mem_append]
    rcases List.mem_cons.1 h with rfl | h
    · exact .inl hn
    · exact .inr (weightsAll_mem h n hn)

theorem list_of {α : Type} {p : Nat → α → Prop} : ∀ (n : Nat), (∀ i, i < n → ∃ x, p i x) → ∃ xs : List α, xs.length = n ∧ ∀ (i : Nat) x, xs[i]? = some x → p i x
  | 0, _ => ⟨[], rfl, fun i x hx => by simp at hx⟩
  | n + 1, hp => by
    obtain ⟨xs, h1, h2⟩ := list_of n (fun i hi => hp i (by omega))
    obtain ⟨x, hx⟩ := hp n (by omega)
    refine ⟨xs ++ [x], by simp [h1], fun i y hy => ?_⟩
    rw [List.getElem?_append] at hy
    split at hy
    · exact h2 i y hy
    · rename_i hi
      have h3 := (List.getElem?_eq_some_iff.1 hy).1
      simp only [List.length_cons, List.length_nil] at h3
      have hin : i = n := by omega
      subst hin
      rw [h1, Nat.sub_self] at hy
      cases hy
      exact hx


/-- what a bound of a reading tells of its parts -/
structure OkLaw {H : Type} (P : Program) (ok : TypeId → DataW H → Prop) (top : Nat) (wt : TypeId → Nat) : Prop where
  str : ∀ {t : TypeId} {bs : List UInt8}, ok t (.lit (.string bs)) → bs.length ≤ top
  elem : ∀ {t e : TypeId} {elems rest : List (DataW H)} {d : DataW H}, P.underlying t = some (.slice e) → ok t (.slice elems rest) → d ∈ elems → ok e d
  cnt : ∀ {t e : TypeId} {elems rest : List (DataW H)}, P.underlying t = some (.slice e) → ok t (.slice elems rest) → elems.length * wt e ≤ top
  field : ∀ {t : TypeId} {fs : Array Field} {parts : List (DataW H)} {j : Nat} {f : Field} {d : DataW H}, P.underlying t = some (.struct fs) → ok t (.agg parts) → fs[j]? = some f → parts[j]? = some d → ok f.type d
  arr : ∀ {t e : TypeId} {n : Nat} {parts : List (DataW H)} {d : DataW H}, P.underlying t = some (.array n e) → ok t (.agg parts) → d ∈ parts → ok e d

def okW {H : Type} (P : Program) (t : TypeId) (d : DataW H) : Prop := ∀ n ∈ d.weights P t, n ≤ reachBytes

theorem okW_law {H : Type} (P : Program) : OkLaw (H := H) P (okW P) reachBytes P.bytesOf where
  str h := h _ (by simp [DataW.weights])
  elem ht h hd := fun n hn => h n (by
    simp only [DataW.weights, ht, List.mem_cons, List.mem_append]
    exact .inr (.inl (weightsAll_mem hd _ hn)))
  cnt ht h := Nat.le_trans (Nat.mul_le_mul_right _ (Nat.le_add_right _ _)) (h _ (by simp only [DataW.weights, ht, List.mem_cons]; exact .inl rfl))
  field {t fs parts j f d} ht h hf hd := fun n hn => h n (by
    simp only [DataW.weights, ht]
    exact DataW.weights_mem_each (j := j) (t := f.type) (d := d) (by rw [List.getElem?_map, Array.getElem?_toList, hf]; rfl) hd _ hn)
  arr ht h hd := fun n hn => h n (by
    simp only [DataW.weights, ht]
    exact weightsAll_mem hd _ hn)

theorem okWide_agg {P : Program} {w : World} {t : TypeId} {fs : Array Field} {r : Reach} {b0 : Nat} {v : Value} (ht : P.underlying t = some (.struct fs)) (h : Value.okWide P w r b0 t v) : ∃ cs, v = .agg cs := by
  simp only [Value.okWide, ht] at h
  obtain ⟨cs, h1, _⟩ := h
  exact ⟨cs, h1⟩
theorem okWide_arr {P : Program} {w : World} {t : TypeId} {n : Nat} {e : TypeId} {r : Reach} {b0 : Nat} {v : Value} (ht : P.underlying t = some (.array n e)) (h : Value.okWide P w r b0 t v) : ∃ cs, v = .agg cs := by
  simp only [Value.okWide, ht] at h
  obtain ⟨cs, h1, _⟩ := h
  exact ⟨cs, h1⟩

/-- a slice and its elements -/
structure GoodG {α : Type} (enc : α → List Value) (size wt top : Nat) (h : Heap) (good : α → Prop) (x : Slc × List α) : Prop where
  row : RowAt enc size h x.1 x.2
  good : ∀ y ∈ x.2, good y
  cap : x.1.cap ≤ maxLen
  reach : x.2.length * wt ≤ top

section
variable {H : Type} (ec : TypeId × Value → H) (P : Program) (w : World) (base : Nat) (sp : Nat → Bool) (held : Bool) (ok : TypeId → DataW H → Prop)

/-- what reads at type t, within the bound, are the cells of some x that is good -/
def RdG {α : Type} (t : TypeId) (enc : α → List Value) (good : α → Prop) : Prop :=
  ∀ fuel cs y, DataW.trod ec P w base sp held fuel t cs = some y → ok t y.1 → ∃ x, cs = enc x ∧ good x

/-- fields from a place on -/
def RdF {α : Type} (fs : List Field) (o n : Nat) (enc : α → List Value) (good : α → Prop) : Prop :=
  ∀ fuel (cs : List Value) (xs : List (DataW H × List MemPlace)), cs.length = n → xs.length = fs.length →
    (∀ (j : Nat) f, fs[j]? = some f → DataW.trod ec P w base sp held fuel f.type ((cs.drop f.offset).take (P.cellsOf f.type)) = xs[j]?) →
    (∀ (j : Nat) f d, fs[j]? = some f → xs[j]? = some d → ok f.type d.1) → ∃ x, cs.drop o = enc x ∧ good x
end

section
variable {H : Type} {ec : TypeId × Value → H} {P : Program} {w : World} {base : Nat} {sp : Nat → Bool} {held : Bool} {ok : TypeId → DataW H → Prop} {top : Nat} {wt : TypeId → Nat}

theorem rg_map {α β : Type} {t : TypeId} {enc : α → List Value} {good : α → Prop} {enc' : β → List Value} {good' : β → Prop} (f : α → β)
    (h : RdG ec P w base sp held ok t enc good) (he : ∀ x, enc x = enc' (f x)) (hg : ∀ x, good x → good' (f x)) : RdG ec P w base sp held ok t enc' good' := fun fuel cs y hy hw => by
  obtain ⟨x, h1, h2⟩ := h fuel cs y hy hw
  exact ⟨f x, h1.trans (he x), hg x h2⟩

theorem rg_int {t : TypeId} {k : IntKind} (ht : P.underlying t = some (.int k)) : RdG ec P w base sp held ok t (fun x : Int => [.int k x]) (fun x => (Lit.int k x).wf = true) := fun _ _ _ h _ => by
  obtain ⟨n, h1, _, h2⟩ := DataW.trod_int ht h
  exact ⟨n, h1, h2⟩
theorem rg_bool {t : TypeId} (ht : P.underlying t = some .bool) : RdG ec P w base sp held ok t (fun x : Bool => [.bool x]) (fun _ => True) := fun _ _ _ h _ => by
  obtain ⟨n, h1, _⟩ := DataW.trod_bool ht h
  exact ⟨n, h1, trivial⟩
theorem rg_str (hk : OkLaw P ok top wt) {t : TypeId} (ht : P.underlying t = some .string) : RdG ec P w base sp held ok t (fun x : ByteArray => [.string x]) (fun x => x.size ≤ top) := fun _ _ _ h hw => by
  obtain ⟨n, h1, rfl, h2⟩ := DataW.trod_string ht h
  refine ⟨n, h1, ?_⟩
  have := hk.str hw
  rwa [Array.length_toList] at this

theorem rg_slice (hk : OkLaw P ok top wt) {α : Type} {t e : TypeId} {enc : α → List Value} {good : α → Prop} (ht : P.underlying t = some (.slice e)) {size k : Nat} (hc : P.cellsOf e = size) (hb : wt e = k) (he : RdG ec P w base sp held ok e enc good) :
    RdG ec P w base sp held ok t (fun x : Slc × List α => [.slice x.1.a x.1.len x.1.cap]) (GoodG enc size k top w.heap good) := fun fuel cs y h hw => by
  subst hc hb
  rcases DataW.trod_slice ht h with ⟨rfl, _⟩ | ⟨a, len, cap, elems, rest, n, _, rfl, rfl, _, hl, hm, hlen, hel, _, _⟩
  · exact ⟨(⟨none, 0, 0⟩, []), rfl, ⟨rfl, Nat.le_refl _, fun i x hx => by simp at hx⟩, fun y hy => by simp at hy, Nat.zero_le _, by simp⟩
  · have hw2 : ∀ i (hi : i < elems.length), ok e (elems[i]'hi).1 := fun i hi => hk.elem ht hw (List.mem_map_of_mem (List.getElem_mem hi))
    have hw3 := hk.cnt ht hw
    have h1 : ∀ i, i < len → ∃ x, good x ∧ ∀ j v, (enc x)[j]? = some v → cellH w.heap ((a.add (i * P.cellsOf e)).add j) = some v := by
      intro i hi
      have h2 := hel i hi
      rw [List.getElem?_eq_getElem (by omega), Option.bind_eq_some_iff] at h2
      obtain ⟨cs', h3, h4⟩ := h2
      obtain ⟨x, rfl, hg⟩ := he _ _ _ h4 (hw2 i (by omega))
      obtain ⟨_, h5, h6⟩ := World.cells?_some h3
      refine ⟨x, hg, fun j v hv => ?_⟩
      rw [← cell_eq, h6 j (by rw [← h5]; exact (List.getElem?_eq_some_iff.1 hv).1)]
      exact hv
    obtain ⟨xs, h2, h3⟩ := list_of len h1
    refine ⟨(⟨some a, len, cap⟩, xs), rfl, ⟨h2.symm, hl, fun i x hx => ⟨a, rfl, (h3 i x hx).2⟩⟩, fun y hy => ?_, hm, ?_⟩
    · obtain ⟨i, hi⟩ := List.getElem?_of_mem hy
      exact (h3 i y hi).1
    · simp only
      rw [List.length_map] at hw3
      rw [h2, ← hlen]
      exact hw3

theorem rf_nil {o n : Nat} (h : n ≤ o) : RdF ec P w base sp held ok [] o n (fun _ : Unit => []) (fun _ => True) := fun _ cs _ hl _ _ _ =>
  ⟨(), List.drop_of_length_le (by omega), trivial⟩

theorem rf_cons {α β : Type} {f : Field} {fs : List Field} {o n : Nat} {c : Nat} {e0 : α → List Value} {g0 : α → Prop} {e1 : β → List Value} {g1 : β → Prop} (hc : P.cellsOf f.type = c) (ho : f.offset = o)
    (h0 : RdG ec P w base sp held ok f.type e0 g0) (h1 : RdF ec P w base sp held ok fs (o + c) n e1 g1) : RdF ec P w base sp held ok (f :: fs) o n (fun x : α × β => e0 x.1 ++ e1 x.2) (fun x => g0 x.1 ∧ g1 x.2) := fun fuel cs xs hl hx hf hok => by
  subst hc ho
  cases xs with
  | nil => simp at hx
  | cons y xs =>
    obtain ⟨x0, c0, k0⟩ := h0 fuel _ y (hf 0 f rfl) (hok 0 f y rfl rfl)
    obtain ⟨x1, c1, k1⟩ := h1 fuel cs xs hl (by simpa using hx) (fun j f' hj => by have := hf (j + 1) f' (by simpa using hj); simpa using this) (fun j f' d hj hd => hok (j + 1) f' d (by simpa using hj) (by simpa using hd))
    refine ⟨(x0, x1), ?_, k0, k1⟩
    simp only [← c0, ← c1]
    rw [← List.drop_drop, List.take_append_drop]

theorem rf_one {α : Type} {f : Field} {o n : Nat} {c : Nat} {e0 : α → List Value} {g0 : α → Prop} (hc : P.cellsOf f.type = c) (ho : f.offset = o) (hn : n ≤ o + c)
    (h0 : RdG ec P w base sp held ok f.type e0 g0) : RdF ec P w base sp held ok [f] o n e0 g0 := fun fuel cs xs hl hx hf hok => by
  subst hc ho
  cases xs with
  | nil => simp at hx
  | cons y xs =>
    obtain ⟨x0, c0, k0⟩ := h0 fuel _ y (hf 0 f rfl) (hok 0 f y rfl rfl)
    refine ⟨x0, ?_, k0⟩
    rw [← c0, List.take_of_length_le (by rw [List.length_drop]; omega)]

theorem rg_struct (hk : OkLaw P ok top wt) {α : Type} {t : TypeId} {fs : Array Field} {n : Nat} {enc : α → List Value} {good : α → Prop} (ht : P.underlying t = some (.struct fs)) (hn : P.cellsOf t = n) (h : RdF ec P w base sp held ok fs.toList 0 n enc good) :
    RdG ec P w base sp held ok t enc good := fun fuel cs y hy hw => by
  obtain ⟨xs, m, _, rfl, hl, hx, hf⟩ := DataW.trod_struct ht hy
  obtain ⟨x, h1, h2⟩ := h m cs xs (hl.trans hn) (by simpa using hx) (fun j f hj => hf j f (by simpa using hj)) (fun j f d hj hd => hk.field ht hw (by simpa using hj) (by rw [List.getElem?_map, hd]; rfl))
  exact ⟨x, by simpa using h1, h2⟩

theorem rg_array2 (hk : OkLaw P ok top wt) {α : Type} {t e : TypeId} {enc : α → List Value} {good : α → Prop} (ht : P.underlying t = some (.array 2 e)) (hc : P.cellsOf e = 1) (hct : P.cellsOf t = 2) (he : RdG ec P w base sp held ok e enc good) (h1 : ∀ x, (enc x).length = 1) :
    RdG ec P w base sp held ok t (fun x : α × α => enc x.1 ++ enc x.2) (fun x => good x.1 ∧ good x.2) := fun fuel cs y h hw => by
  obtain ⟨xs, m, _, hy, hl, hx, hf⟩ := DataW.trod_array ht h
  subst hy
  have hwe : ∀ (i : Nat) (hi : i < xs.length), ok e (xs[i]'hi).1 := fun i hi => hk.arr ht hw (List.mem_map_of_mem (List.getElem_mem hi))
  have h0 := hf 0 (by decide)
  have h2 := hf 1 (by decide)
  rw [List.getElem?_eq_getElem (by omega)] at h0 h2
  obtain ⟨x0, c0, g0⟩ := he m _ _ h0 (hwe 0 (by omega))
  obtain ⟨x1, c1, g1⟩ := he m _ _ h2 (hwe 1 (by omega))
  refine ⟨(x0, x1), ?_, g0, g1⟩
  rw [hct] at hl
  rw [hc] at c0 c1
  simp only [← c0, ← c1]
  match cs, hl with
  | [a, b], _ => rfl
end
end Go.R

namespace Go.Proofs
variable {H : Type} {enc : TypeId × Value → H}
theorem returnsInHanded_shapedR {a : Assume} {C : Checked} {os : Os} {f : FuncId} {fn : Func} {s : ChangeSpec} {conds : List PathCond} {apart fresh handsOn again : Bool} {X : World → Array Value → Prop}
    (hX : ∀ (w w' : World) (args : Array Value), w.heap = w'.heap → X w args → X w' args)
    (own : ownKnob C.prog.godebug = none) (started : os.Started) (noInit : C.prog.inits.idxOf? f = none) (hfn : C.prog.funcs[f]? = some fn)
    (witness : ∃ (w : World) (tape : Tape) (i : Input), w.os = os ∧ (w.forCall tape i).Shaped C.prog ∧ i.vars = [] ∧ Input.okWide C.prog (w.forCall tape i) .any w.heap.size f i ∧
      ((s.pre enc C.prog fn conds apart (w.forCall tape i).memory i.args ∧ X (w.forCall tape i).memory i.args) ∧ sizedMet enc C.prog fn (OpenSpec.ofChange s) apart (w.forCall tape i).memory i.args) ∧ a.holds C.prog (lone (Frame.enter C.prog f i.args .normal) [] (w.forCall tape i)))
    (contract : ∀ (W : World) (base : Nat) (args : Array Value) (ds gs : List (DataW H)) (before : List MemPlace),
      (∀ (j : Nat) t v, fn.params[j]? = some t → args[j]? = some v → Value.okWide C.prog W .any base t v) →
      DataW.Whole enc C.prog fn.params.toList s.vars apart W args.toList ds gs before →
      conds.all (PathCond.test C.prog ⟨fn.params.toList, ds, s.plain.varTypes C.prog, gs⟩) = true →
      (DataW.weightsEach C.prog (fn.params.toList ++ s.plain.varTypes C.prog) (ds ++ gs)).all (· ≤ reachBytes) = true → X W args → W.ShapedOpen C.prog →
      a.holds C.prog (lone (Frame.enter C.prog f args .normal) [] W) →
      Calls C.prog f args W fun e W' => ∃ v, e = .returned v ∧ s.post enc C.prog fn apart fresh handsOn again W args v W') :
    ReturnsInHanded a C os f .any (fun w args => (s.pre enc C.prog fn conds apart w args ∧ X w args) ∧ sizedMet enc C.prog fn (OpenSpec.ofChange s) apart w args) (s.post enc C.prog fn apart fresh handsOn again) := by
  refine returnsInHanded_of_calls own started noInit witness ?_
  intro w tape i _ hsh _ hok hpre hholds
  obtain ⟨_, _, _, fn', hfn', _, _, _, _, hval⟩ := hok
  have e : fn' = fn := Option.some.inj (hfn'.symm.trans hfn)
  subst e
  obtain ⟨⟨⟨ds, gs, before, hw, hc⟩, hx⟩, hz⟩ := hpre
  have hw' := DataW.Whole.of_heap (w' := w.forCall tape i) (by rfl) hw
  refine (contract (w.forCall tape i) w.heap.size i.args ds gs before hval hw' hc (hz.weights hw) (hX _ _ _ (by rfl) hx) hsh hholds).mono fun e W' ⟨v, he, hp⟩ => ?_
  subst he
  exact ChangeSpec.post_blind hp

end Go.Proofs
