/-
  Lr09: tries against the document's list, in plain Lean: order, sets, what matches.
-/
import Derived.Test.YtnpgpijkofbknaaGreatDoorCtro
import Derived.Test.YtnpgpijkofbknaaGreatDoorLrel
namespace Go.Proofs.YtnpgpijkofbknaaGreatDoor
open Go.H Go.Proofs
set_option linter.unusedSimpArgs false
set_option linter.unusedVariables false

/-! ### the order -/

abbrev keyE (e : Ent) : Int × ByteArray := (e.1, e.2.1)
def ltK (a b : Int × ByteArray) : Prop := a.1 < b.1 ∨ (a.1 = b.1 ∧ ltS a.2 b.2)
instance : DecidableRel ltK := fun a b => by unfold ltK; infer_instance
theorem ordK : Ord ltK where
  irr a h := by
    rcases h with h | h
    · omega
    · exact ordS.irr _ h.2
  trans {a b c} h1 h2 := by
    rcases h1 with h1 | h1 <;> rcases h2 with h2 | h2
    · exact .inl (by omega)
    · exact .inl (by omega)
    · exact .inl (by omega)
    · exact .inr ⟨h1.1.trans h2.1, ordS.trans h1.2 h2.2⟩
  tri a b := by
    by_cases h1 : a.1 < b.1
    · exact .inr (.inl (.inl h1))
    · by_cases h2 : b.1 < a.1
      · exact .inr (.inr (.inl h2))
      · have e : a.1 = b.1 := by omega
        rcases ordS.tri a.2 b.2 with h | h | h
        · exact .inl (Prod.ext e h)
        · exact .inr (.inl (.inr ⟨e, h⟩))
        · exact .inr (.inr (.inr ⟨e.symm, h⟩))

abbrev Asc (L : List Ent) : Prop := L.Pairwise fun a b => ltK (keyE a) (keyE b)

theorem Asc.key {L : List Ent} (h : Asc L) {a b : Ent} (ha : a ∈ L) (hb : b ∈ L) (e : keyE a = keyE b) : a = b := by
  induction L with
  | nil => simp at ha
  | cons x L ih =>
    rw [Asc, List.pairwise_cons] at h
    rcases List.mem_cons.1 ha with e1 | h1
    · rcases List.mem_cons.1 hb with e2 | h2
      · rw [e1, e2]
      · have := h.1 b h2; rw [← e1, e] at this; exact absurd this (ordK.irr _)
    · rcases List.mem_cons.1 hb with e2 | h2
      · have := h.1 a h1; rw [← e2, e] at this; exact absurd this (ordK.irr _)
      · exact ih h.2 h1 h2

theorem Asc.nodup {L : List Ent} (h : Asc L) : L.Nodup := h.imp fun hab e => by subst e; exact ordK.irr _ hab

/-- a list in order is known by what is in it -/
theorem asc_perm : ∀ {ys zs : List Ent}, ys.Perm zs → Asc zs → ys.Pairwise (fun a b => ¬ ltK (keyE b) (keyE a)) → ys = zs
  | [], zs, hp, _, _ => (List.nil_perm.1 hp).symm
  | y :: ys, [], hp, _, _ => absurd hp.length_eq (by simp)
  | y :: ys, z :: zs, hp, hz, hy => by
    have hz' := List.pairwise_cons.1 hz
    have hy' := List.pairwise_cons.1 hy
    have e : y = z := by
      rcases List.mem_cons.1 (hp.mem_iff.1 (List.mem_cons_self ..)) with e | h1
      · exact e
      · rcases List.mem_cons.1 (hp.mem_iff.2 (List.mem_cons_self ..)) with e | h2
        · exact e.symm
        · exact absurd (hz'.1 y h1) (hy'.1 z h2)
    subst e
    rw [asc_perm (List.Perm.cons_inv hp) hz'.2 hy'.2]

/-! ### what a trie has -/

structure TriAbs (N : Nds) (L : List Ent) : Prop where
  good : ∀ x ∈ L, filterOK x.2.1 = true
  asc : Asc L
  ents : ∀ p k q, ent N p k = some q ↔ ∃ f, levels f = p ∧ (k, f, q) ∈ L

theorem levels_inj {f f' : ByteArray} (h : levels f = levels f') : f = f' := by rw [← join_levels f, h, join_levels]

theorem TriAbs.get {N : Nds} {L : List Ent} (h : TriAbs N L) (f : ByteArray) (k q : Int) : ent N (levels f) k = some q ↔ (k, f, q) ∈ L := by
  rw [h.ents]
  constructor
  · rintro ⟨f', e, hm⟩
    rw [levels_inj e] at hm
    exact hm
  · exact fun hm => ⟨f, rfl, hm⟩

theorem TriAbs.none {N : Nds} {L : List Ent} (h : TriAbs N L) (f : ByteArray) (k : Int) : ent N (levels f) k = none ↔ ∀ x ∈ L, keyE x ≠ (k, f) := by
  constructor
  · intro hn x hx e
    have e1 : x.1 = k := congrArg Prod.fst e
    have e2 : x.2.1 = f := congrArg Prod.snd e
    have : (k, f, x.2.2) ∈ L := by rw [← e1, ← e2]; exact hx
    rw [(h.get f k _).2 this] at hn
    cases hn
  · intro hn
    cases he : ent N (levels f) k with
    | none => rfl
    | some q => exact absurd rfl (hn _ ((h.get f k q).1 he))

theorem TriAbs.goodN {N : Nds} {L : List Ent} (h : TriAbs N L) (hk : ∀ p nd, mget N p = some nd → (nd.q.map (·.1)).Nodup) : GoodN9 N := by
  intro p nd hp hq
  obtain ⟨kv, r, hr⟩ := List.exists_cons_of_ne_nil hq
  have h1 : mget nd.q kv.1 = some kv.2 := mget_of_mem (hk p nd hp) (by rw [hr]; exact List.mem_cons_self ..)
  have h2 : ent N p kv.1 = some kv.2 := by unfold ent; rw [hp]; exact h1
  obtain ⟨f, hf, hm⟩ := (h.ents _ _ _).1 h2
  have hg := h.good _ hm
  subst hf
  refine ⟨levels_ne f, ?_⟩
  rw [join_levels]
  have := sizedT_le (filterOK_sized hg)
  simp only at this
  omega

/-! ### counts -/

def cntL (L : List Ent) (k : Int) : Nat := (L.map (·.1)).count k
def CntOK (C : List (Int × Int)) (L : List Ent) : Prop := ∀ k, mget C k = if cntL L k = 0 then none else some (cntL L k : Int)

theorem CntOK.getD {C : List (Int × Int)} {L : List Ent} (h : CntOK C L) (k : Int) : (mget C k).getD 0 = (cntL L k : Int) := by
  rw [h k]
  split
  · rename_i e; rw [e]; rfl
  · rfl

/-! ### set, insert, remove -/

theorem set_same_fst {L : List Ent} {i : Nat} {x e : Ent} (hi : L[i]? = some x) (he : keyE x = keyE e) : (L.set i e).map keyE = L.map keyE := by
  rw [List.map_set]
  have h1 : (L.map keyE)[i]? = some (keyE e) := by rw [List.getElem?_map, hi]; simp [he]
  apply List.ext_getElem?
  intro j
  rw [List.getElem?_set]
  by_cases e' : i = j
  · subst e'
    rw [if_pos rfl, h1]
    have := (List.getElem?_eq_some_iff.1 h1).1
    rw [if_pos (by simpa using this)]
  · rw [if_neg e']

theorem cnt_keys {L L' : List Ent} (h : (L'.map keyE) = L.map keyE) (k : Int) : cntL L' k = cntL L k := by
  unfold cntL
  have : ∀ M : List Ent, M.map (·.1) = (M.map keyE).map (·.1) := fun M => by rw [List.map_map]; rfl
  rw [this, this, h]

theorem asc_keys {L L' : List Ent} (h : (L'.map keyE) = L.map keyE) (ha : Asc L) : Asc L' := by
  have h1 : (L.map keyE).Pairwise ltK := by rw [List.pairwise_map]; exact ha
  rw [← h, List.pairwise_map] at h1
  exact h1

theorem TriAbs.set {N N' : Nds} {L : List Ent} (h : TriAbs N L) {i : Nat} {x : Ent} {k q : Int} {f : ByteArray} (hi : L[i]? = some x) (hx : keyE x = (k, f)) (hf : filterOK f = true)
    (hN : ∀ p' k', ent N' p' k' = if levels f = p' ∧ k = k' then some q else ent N p' k') : TriAbs N' (L.set i (k, f, q)) where
  good := by
    intro y hy
    rcases List.mem_or_eq_of_mem_set hy with hy | rfl
    · exact h.good y hy
    · exact hf
  asc := asc_keys (set_same_fst hi hx) h.asc
  ents := by
    have hlt := (List.getElem?_eq_some_iff.1 hi).1
    have hxm := List.mem_of_getElem? hi
    have hmem : ∀ y : Ent, y ∈ L.set i (k, f, q) ↔ y = (k, f, q) ∨ (y ∈ L ∧ keyE y ≠ (k, f)) := by
      intro y
      constructor
      · intro hy
        by_cases e : y = (k, f, q)
        · exact .inl e
        · right
          have hy2 : y ∈ L := by
            rcases List.mem_or_eq_of_mem_set hy with h | h
            · exact h
            · exact absurd h e
          refine ⟨hy2, fun ek => ?_⟩
          have hm : (k, f, q) ∈ L.set i (k, f, q) := List.mem_set hlt _
          have hasc := asc_keys (set_same_fst (e := (k, f, q)) hi hx) h.asc
          exact e (hasc.key hy hm ek)
      · rintro (rfl | ⟨hy, hk⟩)
        · exact List.mem_set hlt _
        · obtain ⟨j, hj⟩ := List.mem_iff_getElem?.1 hy
          have hne : i ≠ j := fun e => by
            subst e
            rw [hi] at hj
            cases hj
            exact hk hx
          exact List.mem_of_getElem? (i := j) (by rw [List.getElem?_set, if_neg hne]; exact hj)
    intro p k' q'
    rw [hN]
    by_cases e : levels f = p ∧ k = k'
    · rw [if_pos e]
      obtain ⟨rfl, rfl⟩ := e
      constructor
      · intro h1
        cases h1
        exact ⟨f, rfl, (hmem _).2 (.inl rfl)⟩
      · rintro ⟨f', e1, hm⟩
        have := levels_inj e1
        subst this
        rcases (hmem _).1 hm with h1 | ⟨_, h2⟩
        · have : q' = q := congrArg (fun x : Ent => x.2.2) h1
          rw [this]
        · exact absurd rfl h2
    · rw [if_neg e, h.ents]
      constructor
      · rintro ⟨f', e1, hm⟩
        refine ⟨f', e1, (hmem _).2 (.inr ⟨hm, fun ek => e ⟨?_, (congrArg Prod.fst ek).symm⟩⟩)⟩
        have : f' = f := congrArg Prod.snd ek
        rw [← e1, this]
      · rintro ⟨f', e1, hm⟩
        rcases (hmem _).1 hm with h1 | ⟨h2, _⟩
        · exfalso
          have e2 : k' = k := congrArg (fun x : Ent => x.1) h1
          have e3 : f' = f := congrArg (fun x : Ent => x.2.1) h1
          exact e ⟨by rw [← e1, e3], e2.symm⟩
        · exact ⟨f', e1, h2⟩

theorem TriAbs.ins {N N' : Nds} {L : List Ent} (h : TriAbs N L) {k q : Int} {f : ByteArray} (hno : ∀ x ∈ L, keyE x ≠ (k, f)) (hf : filterOK f = true)
    (hN : ∀ p' k', ent N' p' k' = if levels f = p' ∧ k = k' then some q else ent N p' k') : TriAbs N' (insS ltK keyE (k, f, q) L) where
  good := by
    intro y hy
    rcases List.mem_cons.1 ((insS_perm ltK keyE _ L).mem_iff.1 hy) with rfl | hy
    · exact hf
    · exact h.good y hy
  asc := insS_asc ordK h.asc hno
  ents := by
    have hmem : ∀ y : Ent, y ∈ insS ltK keyE (k, f, q) L ↔ y = (k, f, q) ∨ y ∈ L := fun y => by rw [(insS_perm ltK keyE _ L).mem_iff, List.mem_cons]
    intro p k' q'
    rw [hN]
    by_cases e : levels f = p ∧ k = k'
    · rw [if_pos e]
      obtain ⟨rfl, rfl⟩ := e
      constructor
      · intro h1
        cases h1
        exact ⟨f, rfl, (hmem _).2 (.inl rfl)⟩
      · rintro ⟨f', e1, hm⟩
        have := levels_inj e1
        subst this
        rcases (hmem _).1 hm with h1 | h2
        · have : q' = q := congrArg (fun x : Ent => x.2.2) h1
          rw [this]
        · exact absurd rfl (hno _ h2)
    · rw [if_neg e, h.ents]
      constructor
      · rintro ⟨f', e1, hm⟩
        exact ⟨f', e1, (hmem _).2 (.inr hm)⟩
      · rintro ⟨f', e1, hm⟩
        rcases (hmem _).1 hm with h1 | h2
        · exfalso
          have e2 : k' = k := congrArg (fun x : Ent => x.1) h1
          have e3 : f' = f := congrArg (fun x : Ent => x.2.1) h1
          exact e ⟨by rw [← e1, e3], e2.symm⟩
        · exact ⟨f', e1, h2⟩

/-- the list without one -/
def delL (L : List Ent) (k : Int) (f : ByteArray) : List Ent := L.filter fun x => decide (keyE x ≠ (k, f))

theorem TriAbs.del {N N' : Nds} {L : List Ent} (h : TriAbs N L) {k : Int} {f : ByteArray} (hN : ∀ p' k', ent N' p' k' = if p' = levels f ∧ k' = k then Option.none else ent N p' k') : TriAbs N' (delL L k f) where
  good := fun y hy => h.good y (List.mem_filter.1 hy).1
  asc := h.asc.filter _
  ents := by
    intro p k' q'
    rw [hN]
    by_cases e : p = levels f ∧ k' = k
    · rw [if_pos e]
      obtain ⟨rfl, rfl⟩ := e
      constructor
      · intro h1; cases h1
      · rintro ⟨f', e1, hm⟩
        have := levels_inj e1
        subst this
        have := (List.mem_filter.1 hm).2
        simp at this
    · rw [if_neg e, h.ents]
      constructor
      · rintro ⟨f', e1, hm⟩
        refine ⟨f', e1, List.mem_filter.2 ⟨hm, ?_⟩⟩
        rw [decide_eq_true_eq]
        intro ek
        have e2 : k' = k := congrArg Prod.fst ek
        have e3 : f' = f := congrArg Prod.snd ek
        exact e ⟨by rw [← e1, e3], e2⟩
      · rintro ⟨f', e1, hm⟩
        exact ⟨f', e1, (List.mem_filter.1 hm).1⟩

theorem cnt_ins (L : List Ent) (e : Ent) (k : Int) : cntL (insS ltK keyE e L) k = cntL L k + if e.1 = k then 1 else 0 := by
  unfold cntL
  rw [((insS_perm ltK keyE e L).map (·.1)).count_eq, List.map_cons, List.count_cons]
  simp

theorem cnt_del {L : List Ent} (ha : Asc L) {x : Ent} (hx : x ∈ L) (k : Int) : cntL L k = cntL (delL L x.1 x.2.1) k + if x.1 = k then 1 else 0 := by
  obtain ⟨l1, l2, rfl⟩ := List.append_of_mem hx
  have h1 : ∀ y ∈ l1 ++ l2, keyE y ≠ keyE x := by
    intro y hy e
    rw [Asc, List.pairwise_append, List.pairwise_cons] at ha
    rcases List.mem_append.1 hy with h | h
    · have := ha.2.2 y h x (List.mem_cons_self ..); rw [e] at this; exact ordK.irr _ this
    · have := ha.2.1.1 y h; rw [e] at this; exact ordK.irr _ this
  have h2 : delL (l1 ++ x :: l2) x.1 x.2.1 = l1 ++ l2 := by
    unfold delL
    rw [List.filter_append, List.filter_cons, if_neg (by simp), ← List.filter_append]
    exact List.filter_eq_self.2 fun y hy => by rw [decide_eq_true_eq]; exact h1 y hy
  rw [h2]
  unfold cntL
  rw [List.map_append, List.map_cons, List.map_append, List.count_append, List.count_append, List.count_cons]
  simp
  omega

theorem delL_none {L : List Ent} {k : Int} {f : ByteArray} (h : ∀ x ∈ L, keyE x ≠ (k, f)) : delL L k f = L :=
  List.filter_eq_self.2 fun y hy => by rw [decide_eq_true_eq]; exact h y hy

theorem CntOK.ins {C : List (Int × Int)} {L : List Ent} (h : CntOK C L) (e : Ent) : CntOK (mset C e.1 ((cntL L e.1 : Int) + 1)) (insS ltK keyE e L) := by
  intro k
  rw [mget_set, cnt_ins, h k]
  by_cases hk : e.1 = k
  · subst hk
    rw [if_pos rfl, if_pos rfl, if_neg (by omega)]
    simp
  · rw [if_neg hk, if_neg hk, Nat.add_zero]

theorem CntOK.del {C : List (Int × Int)} {L : List Ent} (h : CntOK C L) (ha : Asc L) (hn : (C.map (·.1)).Nodup) {x : Ent} (hx : x ∈ L) :
    CntOK (if (cntL L x.1 : Int) - 1 = 0 then mdel C x.1 else mset C x.1 ((cntL L x.1 : Int) - 1)) (delL L x.1 x.2.1) := by
  intro k
  have h1 := cnt_del ha hx k
  have h2 := cnt_del ha hx x.1
  rw [if_pos rfl] at h2
  by_cases hz : (cntL L x.1 : Int) - 1 = 0
  · rw [if_pos hz, mget_mdel hn]
    by_cases hk : x.1 = k
    · subst hk
      rw [if_pos rfl, if_pos (by omega)]
    · rw [if_neg hk, h k]
      rw [if_neg hk] at h1
      rw [h1, Nat.add_zero]
  · rw [if_neg hz, mget_set]
    by_cases hk : x.1 = k
    · subst hk
      rw [if_pos rfl, if_neg (by omega)]
      congr 1
      omega
    · rw [if_neg hk, h k]
      rw [if_neg hk] at h1
      rw [h1, Nat.add_zero]

end Go.Proofs.YtnpgpijkofbknaaGreatDoor
