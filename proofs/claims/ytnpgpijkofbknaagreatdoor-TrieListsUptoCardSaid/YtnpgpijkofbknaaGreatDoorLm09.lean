/-
  Lm09: what matches: branches against filters, in plain Lean.
-/
import Derived.Test.YtnpgpijkofbknaaGreatDoorCtre
namespace Go.Proofs.YtnpgpijkofbknaaGreatDoor
open Go.H Go.Proofs
set_option linter.unusedSimpArgs false
set_option linter.unusedVariables false

/-- does what is behind a branch match the levels that are left? -/
def mrel : Path → Path → Bool → Bool
  | [], left, _ => left.isEmpty
  | y :: r, left, d => (!d && decide (y = hashS) && r.isEmpty) || (match left with | [] => false | x :: l => ((!d && decide (y = plusS)) || decide (y = x)) && mrel r l false)

theorem mrel_cons (y : ByteArray) (r left : Path) (d : Bool) : mrel (y :: r) left d = ((!d && decide (y = hashS) && r.isEmpty) || (match left with | [] => false | x :: l => ((!d && decide (y = plusS)) || decide (y = x)) && mrel r l false)) := by
  cases left <;> rfl

abbrev QOK (N : Nds) : Prop := ∀ p nd, mget N p = some nd → (nd.q.map (·.1)).Nodup

theorem mem_entAt {N : Nds} {L : List Ent} (hA : TriAbs N L) (hk : QOK N) (p : Path) (e : Ent) : e ∈ entAt N p ↔ e ∈ L ∧ levels e.2.1 = p := by
  unfold entAt
  cases hp : mget N p with
  | none =>
    simp only [List.not_mem_nil, false_iff]
    rintro ⟨h1, h2⟩
    have := (hA.ents p e.1 e.2.2).2 ⟨e.2.1, h2, h1⟩
    unfold ent at this
    rw [hp] at this
    cases this
  | some nd =>
    unfold entsOf
    constructor
    · intro h
      obtain ⟨kv, hkv, rfl⟩ := List.mem_map.1 h
      have h1 : mget nd.q kv.1 = some kv.2 := mget_of_mem (hk p nd hp) hkv
      have h2 : ent N p kv.1 = some kv.2 := by unfold ent; rw [hp]; exact h1
      obtain ⟨f, hf, hm⟩ := (hA.ents _ _ _).1 h2
      have : joinB p = f := by rw [← hf, join_levels]
      simp only [this]
      exact ⟨hm, hf⟩
    · rintro ⟨h1, h2⟩
      have h3 := (hA.ents p e.1 e.2.2).2 ⟨e.2.1, h2, h1⟩
      unfold ent at h3
      rw [hp] at h3
      refine List.mem_map.2 ⟨(e.1, e.2.2), mget_mem h3, ?_⟩
      rw [← h2, join_levels]

theorem entAt_nodup {N : Nds} (hk : QOK N) (p : Path) : (entAt N p).Nodup := by
  unfold entAt
  cases hp : mget N p with
  | none => exact List.nodup_nil
  | some nd =>
    unfold entsOf
    have h1 : nd.q.Nodup := List.Pairwise.of_map (·.1) (fun a b hab e => hab (by rw [e])) (hk p nd hp)
    refine List.Pairwise.map _ (fun a b hab e => hab ?_) h1
    exact Prod.ext (congrArg (fun x : Ent => x.1) e) (congrArg (fun x : Ent => x.2.2) e)

theorem no_behind {rb : Nat} {N : Nds} {L : List Ent} (hT : TreeOK rb N) (hA : TriAbs N L) {p r : Path} (hp : mget N p = none) {e : Ent} (he : e ∈ L) : levels e.2.1 ≠ p ++ r := by
  intro h
  have h1 := (hA.ents (p ++ r) e.1 e.2.2).2 ⟨e.2.1, h, he⟩
  unfold ent at h1
  cases hq : mget N (p ++ r) with
  | none => rw [hq] at h1; cases h1
  | some nd =>
    obtain ⟨nd', h2⟩ := hT.pre _ _ _ hq
    rw [hp] at h2
    cases h2

theorem mem_ite_nil {α : Type} {d : Bool} {l : List α} {a : α} : a ∈ (if d = true then [] else l) ↔ d = false ∧ a ∈ l := by
  cases d <;> simp

theorem mem_matchE {rb : Nat} {N : Nds} {L : List Ent} (hT : TreeOK rb N) (hA : TriAbs N L) (hk : QOK N) (e : Ent) : ∀ (left p : Path) (d : Bool), e ∈ matchE N p left d ↔ ∃ r, mrel r left d = true ∧ e ∈ L ∧ levels e.2.1 = p ++ r := by
  intro left
  induction left with
  | nil =>
    intro p d
    cases hp : mget N p with
    | none =>
      rw [matchE_none hp]
      simp only [List.not_mem_nil, false_iff]
      rintro ⟨r, -, h1, h2⟩
      exact no_behind hT hA hp h1 h2
    | some nd =>
      rw [matchE_nil hp, List.mem_append, mem_ite_nil, mem_entAt hA hk, mem_entAt hA hk]
      constructor
      · rintro (⟨rfl, h1, h2⟩ | ⟨h1, h2⟩)
        · exact ⟨[hashS], by simp [mrel], h1, h2⟩
        · exact ⟨[], rfl, h1, by rw [List.append_nil]; exact h2⟩
      · rintro ⟨r, hr, h1, h2⟩
        cases r with
        | nil => rw [List.append_nil] at h2; exact .inr ⟨h1, h2⟩
        | cons y r =>
          rw [mrel_cons] at hr
          simp only [Bool.or_false, Bool.and_eq_true, Bool.not_eq_true', decide_eq_true_eq, List.isEmpty_iff] at hr
          obtain ⟨⟨h3, rfl⟩, rfl⟩ := hr
          exact .inl ⟨h3, h1, h2⟩
  | cons x l ih =>
    intro p d
    cases hp : mget N p with
    | none =>
      rw [matchE_none hp]
      simp only [List.not_mem_nil, false_iff]
      rintro ⟨r, -, h1, h2⟩
      exact no_behind hT hA hp h1 h2
    | some nd =>
      rw [matchE_cons hp, List.mem_append, List.mem_append, mem_ite_nil, mem_ite_nil, mem_entAt hA hk, ih, ih]
      constructor
      · rintro (⟨rfl, h1, h2⟩ | ⟨rfl, r, hr, h1, h2⟩ | ⟨r, hr, h1, h2⟩)
        · exact ⟨[hashS], by simp [mrel_cons], h1, h2⟩
        · refine ⟨plusS :: r, ?_, h1, by rw [h2]; simp⟩
          rw [mrel_cons]; simp [hr]
        · refine ⟨x :: r, ?_, h1, by rw [h2]; simp⟩
          rw [mrel_cons]; simp [hr]
      · rintro ⟨r, hr, h1, h2⟩
        cases r with
        | nil => simp [mrel] at hr
        | cons y r =>
          rw [mrel_cons] at hr
          simp only [Bool.or_eq_true, Bool.and_eq_true, Bool.not_eq_true', decide_eq_true_eq, List.isEmpty_iff] at hr
          rcases hr with ⟨⟨h3, rfl⟩, rfl⟩ | ⟨⟨h3, rfl⟩ | rfl, h4⟩
          · exact .inl ⟨h3, h1, h2⟩
          · exact .inr (.inl ⟨h3, r, h4, h1, by rw [h2]; simp⟩)
          · exact .inr (.inr ⟨r, h4, h1, by rw [h2]; simp⟩)

theorem ite_nodup {α : Type} {d : Bool} {l : List α} (h : l.Nodup) : (if d = true then [] else l).Nodup := by
  cases d
  · exact h
  · exact List.nodup_nil

theorem matchE_nodup {rb : Nat} {N : Nds} {L : List Ent} (hT : TreeOK rb N) (hA : TriAbs N L) (hk : QOK N) : ∀ (left p : Path) (d : Bool), (∀ x ∈ left, x ≠ hashS ∧ x ≠ plusS) → (matchE N p left d).Nodup := by
  intro left
  induction left with
  | nil =>
    intro p d hl
    cases hp : mget N p with
    | none => rw [matchE_none hp]; exact List.nodup_nil
    | some nd =>
      rw [matchE_nil hp, List.nodup_append]
      refine ⟨ite_nodup (entAt_nodup hk _), entAt_nodup hk _, fun a ha b hb e => ?_⟩
      subst e
      have h1 := ((mem_entAt hA hk _ _).1 (mem_ite_nil.1 ha).2).2
      have h2 := ((mem_entAt hA hk _ _).1 hb).2
      rw [h1] at h2
      exact app_ne _ _ h2
  | cons x l ih =>
    intro p d hl
    cases hp : mget N p with
    | none => rw [matchE_none hp]; exact List.nodup_nil
    | some nd =>
      have hx := hl x (List.mem_cons_self ..)
      have hl' : ∀ y ∈ l, y ≠ hashS ∧ y ≠ plusS := fun y hy => hl y (List.mem_cons_of_mem _ hy)
      rw [matchE_cons hp, List.nodup_append, List.nodup_append]
      refine ⟨ite_nodup (entAt_nodup hk _), ⟨ite_nodup (ih _ _ hl'), ih _ _ hl', fun a ha b hb e => ?_⟩, fun a ha b hb e => ?_⟩
      · subst e
        obtain ⟨r1, -, -, h1⟩ := (mem_matchE hT hA hk _ _ _ _).1 (mem_ite_nil.1 ha).2
        obtain ⟨r2, -, -, h2⟩ := (mem_matchE hT hA hk _ _ _ _).1 hb
        rw [h1, List.append_assoc, List.append_assoc] at h2
        have := List.append_cancel_left h2
        simp at this
        exact hx.2 this.1.symm
      · subst e
        have h1 := ((mem_entAt hA hk _ _).1 (mem_ite_nil.1 ha).2).2
        rcases List.mem_append.1 hb with hb | hb
        · obtain ⟨r2, -, -, h2⟩ := (mem_matchE hT hA hk _ _ _ _).1 (mem_ite_nil.1 hb).2
          rw [h1, List.append_assoc] at h2
          have := List.append_cancel_left h2
          simp at this
          exact absurd this.1 (by decide)
        · obtain ⟨r2, -, -, h2⟩ := (mem_matchE hT hA hk _ _ _ _).1 hb
          rw [h1, List.append_assoc] at h2
          have := List.append_cancel_left h2
          simp at this
          exact hx.1 this.1.symm

/-! ### against the document's way -/

theorem mrel_matchL : ∀ (r left : Path), filtG r = true → (∀ x ∈ left, x ≠ hashS ∧ x ≠ plusS) → mrel r left false = matchL r left
  | [], left, _, _ => by simp [mrel, matchL]
  | y :: r, left, hf, hl => by
    rw [filtG_cons, Bool.and_eq_true] at hf
    rw [mrel_cons, matchL_cons]
    by_cases hy : y = hashS
    · have hr : r.isEmpty = true := by
        have h1 := hf.1
        subst hy
        unfold levBad at h1
        rw [show hasB 35 hashS = true from has_self 35] at h1
        cases h2 : r.isEmpty with
        | true => rfl
        | false => rw [h2] at h1; simp at h1
      simp [hy, hr]
    · rw [if_neg hy]
      simp only [hy, decide_false, Bool.and_false, Bool.false_and, Bool.false_or]
      cases left with
      | nil => rfl
      | cons x l =>
        have ih := mrel_matchL r l hf.2 fun z hz => hl z (List.mem_cons_of_mem _ hz)
        simp only [Bool.not_false, Bool.true_and]
        by_cases h1 : y = plusS
        · simp [h1, ih]
        · by_cases h2 : y = x
          · simp [h2, ih]
          · simp [h1, h2]

theorem lev_head (c b : UInt8) (r : List UInt8) (x : List UInt8) (hx : x ≠ []) : ∃ y ys, lev c x r = y :: ys ∧ y.head? = x.head? := by
  induction r generalizing x with
  | nil => exact ⟨x, [], rfl, rfl⟩
  | cons a r ih =>
    unfold lev
    by_cases h : a = c
    · rw [if_pos h]; exact ⟨x, _, rfl, rfl⟩
    · rw [if_neg h]
      obtain ⟨y, ys, h1, h2⟩ := ih (x ++ [a]) (by simp)
      refine ⟨y, ys, h1, ?_⟩
      rw [h2]
      cases x with
      | nil => exact absurd rfl hx
      | cons z x => rfl

/-- the first level of a text starts as the text does -/
theorem levels_first {f y : ByteArray} {r : Path} (hs : f.size ≠ 0) (h : levels f = y :: r) (c : UInt8) (hc : c ≠ 47) : y.data.toList.head? = some c ↔ f.get! 0 = c := by
  have hd := levels_data f
  rw [h, List.map_cons] at hd
  obtain ⟨⟨l⟩⟩ := f
  match l with
  | [] => exact absurd rfl hs
  | b :: l =>
    have e1 : (ByteArray.mk (List.toArray (b :: l))).get! 0 = b := rfl
    rw [e1]
    have e2 : (ByteArray.mk (List.toArray (b :: l))).data.toList = b :: l := rfl
    rw [e2] at hd
    unfold lev at hd
    by_cases hb : b = 47
    · rw [if_pos hb] at hd
      have h1 := (List.cons.inj hd).1
      rw [h1]
      simp only [List.head?_nil]
      constructor
      · intro h; cases h
      · intro h; exact absurd (h.symm.trans hb) hc
    · rw [if_neg hb] at hd
      obtain ⟨z, zs, h1, h2⟩ := lev_head 47 b l ([] ++ [b]) (by simp)
      rw [h1] at hd
      have h3 := (List.cons.inj hd).1
      rw [h3, h2]
      simp

theorem first_lev {x : ByteArray} {c : UInt8} (h : x.data.toList.head? = some c) : hasB c x = true := by
  unfold hasB
  rw [decide_eq_true_eq]
  exact List.mem_of_mem_head? (by rw [h]; rfl)

theorem head_self (c : UInt8) : (ByteArray.mk #[c]).data.toList.head? = some c := rfl

theorem name_levels {n : ByteArray} (h : nameOK n = true) : ∀ x ∈ levels n, x ≠ hashS ∧ x ≠ plusS := by
  unfold nameOK at h
  rw [Bool.and_eq_true, Bool.and_eq_true, Bool.not_eq_true', Bool.not_eq_true'] at h
  have key : ∀ (c : UInt8), c ≠ 47 → hasB c n = false → ∀ x ∈ levels n, x ≠ ByteArray.mk #[c] := by
    intro c hc hn x hx e
    subst e
    have hj := join_levels n
    have : c ∈ n.data.toList := by
      rw [← hj]
      unfold joinB
      have hx' : [c] ∈ (levels n).map (·.data.toList) := List.mem_map.2 ⟨_, hx, rfl⟩
      generalize (levels n).map (·.data.toList) = xs at hx'
      have go : ∀ xs : List (List UInt8), [c] ∈ xs → c ∈ Lib.join xs [47] := by
        intro xs hxs
        obtain ⟨y, ys, rfl⟩ := List.exists_cons_of_ne_nil (List.ne_nil_of_mem hxs)
        rw [Lib.join_cons]
        rcases List.mem_cons.1 hxs with e | h
        · rw [← e]; simp
        · refine List.mem_append_right _ ?_
          unfold Lib.joinTail
          rw [List.mem_flatten]
          exact ⟨[47] ++ [c], List.mem_map.2 ⟨_, h, rfl⟩, by simp⟩
      simpa using go xs hx'
    unfold hasB at hn
    rw [decide_eq_false_iff_not] at hn
    exact hn this
  intro x hx
  exact ⟨key 35 (by decide) h.2 x hx, key 43 (by decide) h.1.2 x hx⟩

theorem mrel_matchB {f n : ByteArray} (hf : filterOK f = true) (hn : nameOK n = true) : mrel (levels f) (levels n) (decide (n.get! 0 = 36)) = matchB f n := by
  have hl := name_levels hn
  have hg : filtG (levels f) = true := by unfold filterOK at hf; rw [Bool.and_eq_true] at hf; exact hf.2
  have hsz : f.size ≠ 0 := (sizedT_iff.1 (filterOK_sized hf)).2.1
  unfold matchB dollarB
  rw [hf, hn]
  simp only [Bool.true_and]
  cases hd : decide (n.get! 0 = 36) with
  | false =>
    rw [mrel_matchL _ _ hg hl]
    simp
  | true =>
    obtain ⟨y, r, hy⟩ := List.exists_cons_of_ne_nil (levels_ne f)
    rw [hy] at hg ⊢
    rw [filtG_cons, Bool.and_eq_true] at hg
    have h43 := levels_first hsz hy 43 (by decide)
    have h35 := levels_first hsz hy 35 (by decide)
    have hbad := hg.1
    unfold levBad at hbad
    rw [Bool.not_eq_true', Bool.or_eq_false_iff] at hbad
    have i43 : f.get! 0 = 43 ↔ y = plusS := by
      rw [← h43]
      constructor
      · intro h
        have h1 := first_lev h
        have h2 := hbad.1
        rw [h1] at h2
        simpa using h2
      · intro h; rw [h]; exact head_self 43
    have i35 : f.get! 0 = 35 ↔ y = hashS := by
      rw [← h35]
      constructor
      · intro h
        have h1 := first_lev h
        have h2 := hbad.2
        rw [h1] at h2
        simp only [Bool.true_and, Bool.or_eq_false_iff, decide_eq_false_iff_not, Decidable.not_not] at h2
        exact h2.1
      · intro h; rw [h]; exact head_self 35
    rw [mrel_cons, matchL_cons]
    simp only [Bool.not_true, Bool.false_and, Bool.false_or, Bool.true_and]
    by_cases e1 : y = plusS
    · have : decide (f.get! 0 = 43) = true := decide_eq_true (i43.2 e1)
      rw [this]
      simp only [Bool.true_or, Bool.not_true, Bool.false_and]
      cases hln : levels n with
      | nil => rfl
      | cons x l =>
        have := (hl x (by rw [hln]; exact List.mem_cons_self ..)).2
        have : decide (y = x) = false := decide_eq_false (fun e => this (e.symm.trans e1))
        simp [this]
    · by_cases e2 : y = hashS
      · have : decide (f.get! 0 = 35) = true := decide_eq_true (i35.2 e2)
        rw [this]
        simp only [Bool.or_true, Bool.not_true, Bool.false_and]
        cases hln : levels n with
        | nil => rfl
        | cons x l =>
          have := (hl x (by rw [hln]; exact List.mem_cons_self ..)).1
          have : decide (y = x) = false := decide_eq_false (fun e => this (e.symm.trans e2))
          simp [this]
      · have d1 : decide (f.get! 0 = 43) = false := decide_eq_false (fun e => e1 (i43.1 e))
        have d2 : decide (f.get! 0 = 35) = false := decide_eq_false (fun e => e2 (i35.1 e))
        rw [d1, d2, if_neg e2]
        simp only [Bool.or_false, Bool.not_false, Bool.true_and]
        cases hln : levels n with
        | nil => rfl
        | cons x l =>
          have ih := mrel_matchL r l hg.2 fun z hz => hl z (by rw [hln]; exact List.mem_cons_of_mem _ hz)
          by_cases e3 : y = x
          · simp [e3, ih]
          · simp [e1, e3]

end Go.Proofs.YtnpgpijkofbknaaGreatDoor
