/-
  Lrel: maps against lists in order.
-/
import Derived.Test.YtnpgpijkofbknaaGreatDoorHl
import Derived.Test.YtnpgpijkofbknaaGreatDoorHB
import Derived.Sort.Walk0
namespace Go.H
open Go.Sort
set_option linter.unusedSimpArgs false
set_option linter.unusedVariables false
set_option linter.unusedSectionVars false

section
variable {K V : Type} [DecidableEq K]

theorem mdel_filter : ∀ {l : List (K × V)} {k : K}, (l.map (·.1)).Nodup → mdel l k = l.filter fun p => decide (p.1 ≠ k)
  | [], _, _ => rfl
  | (a, b) :: l, k, h => by
    simp only [List.map_cons, List.nodup_cons] at h
    by_cases hk : a = k
    · subst hk
      rw [mdel, if_pos rfl, List.filter_cons_of_neg (by simp)]
      symm
      rw [List.filter_eq_self]
      intro p hp
      simp only [ne_eq, decide_not, Bool.not_eq_eq_eq_not, Bool.not_true, decide_eq_false_iff_not]
      rintro e
      exact h.1 (e ▸ List.mem_map_of_mem hp)
    · rw [mdel, if_neg hk, List.filter_cons_of_pos (by simpa using hk), mdel_filter h.2]

theorem mset_perm : ∀ {l : List (K × V)} {k : K} {x : V}, (mset l k x).Perm ((k, x) :: mdel l k)
  | [], _, _ => List.Perm.refl _
  | (a, b) :: l, k, x => by
    by_cases hk : a = k
    · rw [mset, if_pos hk, mdel, if_pos hk]
    · rw [mset, if_neg hk, mdel, if_neg hk]
      exact ((mset_perm (l := l)).cons _).trans (List.Perm.swap _ _ _)

theorem mget_mem_iff {l : List (K × V)} (hn : (l.map (·.1)).Nodup) {k : K} {v : V} : mget l k = some v ↔ (k, v) ∈ l := by
  constructor
  · exact mget_mem
  · intro h
    induction l with
    | nil => exact absurd h (by simp)
    | cons p l ih =>
      obtain ⟨a, b⟩ := p
      simp only [List.map_cons, List.nodup_cons] at hn
      rw [mget_cons]
      rcases List.mem_cons.1 h with e | h
      · cases e; rw [if_pos rfl]
      · rw [if_neg (fun e => hn.1 (by subst e; exact List.mem_map_of_mem (f := (·.1)) h)), ih hn.2 h]

variable (lt : K → K → Prop) [DecidableRel lt] (key : V → K)

def insS (m : V) : List V → List V
  | [] => [m]
  | x :: r => if lt (key m) (key x) then m :: x :: r else x :: insS m r

theorem insS_perm (m : V) : ∀ l : List V, (insS lt key m l).Perm (m :: l)
  | [] => List.Perm.refl _
  | x :: r => by
    unfold insS
    split
    · exact List.Perm.refl _
    · exact ((insS_perm m r).cons _).trans (List.Perm.swap _ _ _)

structure Ord : Prop where
  irr : ∀ a, ¬ lt a a
  trans : ∀ {a b c}, lt a b → lt b c → lt a c
  tri : ∀ a b, a = b ∨ lt a b ∨ lt b a

variable {lt key}

theorem insS_asc (ho : Ord lt) {m : V} : ∀ {l : List V}, l.Pairwise (fun a b => lt (key a) (key b)) → (∀ x ∈ l, key x ≠ key m) → (insS lt key m l).Pairwise (fun a b => lt (key a) (key b))
  | [], _, _ => by simp [insS]
  | x :: r, h, hm => by
    unfold insS
    rw [List.pairwise_cons] at h
    split
    · rename_i hlt
      rw [List.pairwise_cons, List.pairwise_cons]
      refine ⟨fun y hy => ?_, h⟩
      rcases List.mem_cons.1 hy with rfl | hy
      · exact hlt
      · exact ho.trans hlt (h.1 y hy)
    · rename_i hlt
      rw [List.pairwise_cons]
      refine ⟨fun y hy => ?_, insS_asc ho h.2 fun z hz => hm z (List.mem_cons_of_mem _ hz)⟩
      rcases List.mem_cons.1 ((insS_perm lt key m r).mem_iff.1 hy) with rfl | hy
      · rcases ho.tri (key x) (key y) with e | e | e
        · exact absurd e (hm x (List.mem_cons_self ..))
        · exact e
        · exact absurd e hlt
      · exact h.1 y hy

variable (lt key)
/-- a map from keys to what bears them, and the list of these in order -/
structure Rel (l : List (K × V)) (L : List V) : Prop where
  kk : ∀ p ∈ l, key p.2 = p.1
  nd : (l.map (·.1)).Nodup
  asc : L.Pairwise fun a b => lt (key a) (key b)
  perm : (l.map (·.2)).Perm L
variable {lt key} {l : List (K × V)} {L : List V}

theorem Rel.nil : Rel lt key ([] : List (K × V)) [] := ⟨by simp, by simp, by simp, by simp⟩

theorem Rel.len (h : Rel lt key l L) : l.length = L.length := by
  have := h.perm.length_eq
  simpa using this

theorem Rel.mem (h : Rel lt key l L) {k : K} {v : V} : (k, v) ∈ l ↔ v ∈ L ∧ key v = k := by
  constructor
  · intro hm
    exact ⟨h.perm.mem_iff.1 (List.mem_map_of_mem (f := (·.2)) hm), h.kk _ hm⟩
  · rintro ⟨hv, rfl⟩
    obtain ⟨p, hp, rfl⟩ := List.mem_map.1 (h.perm.mem_iff.2 hv)
    have := h.kk p hp
    rw [this]
    exact hp

theorem Rel.get (ho : Ord lt) (h : Rel lt key l L) (k : K) : mget l k = L.find? fun v => decide (key v = k) := by
  have hasc := h.asc
  have hs : ∀ v, mget l k = some v ↔ v ∈ L ∧ key v = k := fun v => (mget_mem_iff h.nd).trans h.mem
  clear h
  have inj : ∀ {L : List V}, L.Pairwise (fun a b => lt (key a) (key b)) → ∀ a ∈ L, ∀ b ∈ L, key a = key b → a = b := by
    intro L hL
    induction L with
    | nil => intro a ha; exact absurd ha (by simp)
    | cons x r ih =>
      rw [List.pairwise_cons] at hL
      intro a ha b hb e
      rcases List.mem_cons.1 ha with e1 | ha'
      · rcases List.mem_cons.1 hb with e2 | hb'
        · rw [e1, e2]
        · have := hL.1 b hb'; rw [← e1, e] at this; exact absurd this (ho.irr _)
      · rcases List.mem_cons.1 hb with e2 | hb'
        · have := hL.1 a ha'; rw [← e2, e] at this; exact absurd this (ho.irr _)
        · exact ih hL.2 a ha' b hb' e
  cases hf : L.find? fun v => decide (key v = k) with
  | none =>
    rw [List.find?_eq_none] at hf
    cases hg : mget l k with
    | none => rfl
    | some v => obtain ⟨h1, h2⟩ := (hs v).1 hg; exact absurd h2 (by simpa using hf v h1)
  | some v =>
    rw [hs]
    exact ⟨List.mem_of_find?_eq_some hf, by simpa using List.find?_some hf⟩

theorem Rel.del (h : Rel lt key l L) (k : K) : Rel lt key (mdel l k) (L.filter fun v => decide (key v ≠ k)) := by
  rw [mdel_filter h.nd]
  refine ⟨fun p hp => h.kk p (List.mem_filter.1 hp).1, ((List.filter_sublist (l := l)).map _).nodup h.nd, h.asc.filter _, ?_⟩
  have e : (l.filter fun p => decide (p.1 ≠ k)).map (·.2) = (l.map (·.2)).filter fun v => decide (key v ≠ k) := by
    rw [List.filter_map]
    congr 1
    refine List.filter_congr fun p hp => ?_
    simp only [Function.comp_apply, h.kk p hp]
  rw [e]
  exact h.perm.filter _

theorem Rel.set (ho : Ord lt) (h : Rel lt key l L) (x : V) : Rel lt key (mset l (key x) x) (insS lt key x (L.filter fun v => decide (key v ≠ key x))) := by
  have hd := h.del (key x)
  have hp := mset_perm (l := l) (k := key x) (x := x)
  refine ⟨fun p hp' => ?_, ?_, ?_, ?_⟩
  · rcases List.mem_cons.1 (hp.mem_iff.1 hp') with rfl | hm
    · rfl
    · exact hd.kk p hm
  · rw [(hp.map (·.1)).nodup_iff, List.map_cons, List.nodup_cons]
    refine ⟨fun hm => ?_, hd.nd⟩
    obtain ⟨p, hpm, e⟩ := List.mem_map.1 hm
    rw [mdel_filter h.nd] at hpm
    have := (List.mem_filter.1 hpm).2
    simp only [ne_eq, decide_not, Bool.not_eq_eq_eq_not, Bool.not_true, decide_eq_false_iff_not] at this
    exact this e
  · exact insS_asc ho hd.asc fun y hy => by simpa using (List.mem_filter.1 hy).2
  · exact ((hp.map (·.2)).trans ((List.Perm.cons _ hd.perm))).trans (insS_perm lt key x _).symm

theorem Rel.keys (h : Rel lt key l L) : (l.map (·.1)).Perm (L.map key) := by
  have e : l.map (·.1) = (l.map (·.2)).map key := by
    rw [List.map_map]
    refine List.map_congr_left fun p hp => ?_
    exact (h.kk p hp).symm
  rw [e]
  exact h.perm.map _

theorem Rel.of_mem (ho : Ord lt) (h : Rel lt key l L) {v : V} (hv : v ∈ L) : mget l (key v) = some v :=
  (mget_mem_iff h.nd).2 (h.mem.2 ⟨hv, rfl⟩)
end

/-! ### keys of string's kind -/

def ltS (a b : ByteArray) : Prop := a.data.toList < b.data.toList
instance : DecidableRel ltS := fun a b => by unfold ltS; infer_instance

theorem ordS : Ord ltS where
  irr a := List.lt_irrefl _
  trans h1 h2 := List.lt_trans h1 h2
  tri a b := by
    unfold ltS
    by_cases h1 : a.data.toList < b.data.toList
    · exact .inr (.inl h1)
    · by_cases h2 : b.data.toList < a.data.toList
      · exact .inr (.inr h2)
      · left
        have := List.le_antisymm (List.not_lt.1 h2) (List.not_lt.1 h1)
        cases a; cases b
        simp at this
        rw [this]

theorem toList_data (s : ByteArray) : s.toList = s.data.toList := by
  simp [ByteArray.toList_eq]

theorem less_ltS (a b : ByteArray) : Op.bytesLess a.toList b.toList = decide (ltS a b) := by
  rw [Go.Proofs.bytesLess_eq, toList_data, toList_data]
  rfl

theorem sortS_asc {l l' : List ByteArray} (hp : l.Perm l') (h : l'.Pairwise ltS) : sortS l = l' := by
  unfold sortS
  rw [mergeSort_of_perm (hp.map (·.data.toList))]
  rw [List.mergeSort_of_pairwise]
  · rw [List.map_map]
    exact List.map_id _
  · rw [List.pairwise_map]
    refine h.imp fun hab => ?_
    simpa using List.le_of_lt hab

theorem Rel.sorted {V : Type} {key : V → ByteArray} {l : List (ByteArray × V)} {L : List V} (h : Rel ltS key l L) : sortS (l.map (·.1)) = L.map key :=
  sortS_asc h.keys (by rw [List.pairwise_map]; exact h.asc)

end Go.H
