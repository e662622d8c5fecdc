/-
  Ltri: tries as flat lists of branches, in plain Lean.
-/
import Derived.Test.YtnpgpijkofbknaaGreatDoorLtop
import Derived.Test.YtnpgpijkofbknaaGreatDoorHx
namespace Go.Proofs.YtnpgpijkofbknaaGreatDoor
open Go.H Go.Proofs
set_option linter.unusedSimpArgs false
set_option linter.unusedVariables false

abbrev Path := List ByteArray
/-- a branch: its block, the blocks of its maps, who ends here, what is behind -/
structure Nd where
  b : Nat
  qm : Nat
  nm : Nat
  q : List (Int × Int)
  nx : List (ByteArray × Option Addr)
abbrev Nds := List (Path × Nd)
abbrev ptrOf (n : Nd) : Option Addr := some ⟨n.b, 0, none⟩

/-- branches that hang together, from a root on -/
structure TreeOK (rb : Nat) (N : Nds) : Prop where
  keys : (N.map (·.1)).Nodup
  root : ∃ nd, mget N [] = some nd ∧ nd.b = rb
  down : ∀ p nd x v, mget N p = some nd → mget nd.nx x = some v → ∃ nd', mget N (p ++ [x]) = some nd' ∧ v = ptrOf nd'
  up : ∀ p x nd', mget N (p ++ [x]) = some nd' → ∃ nd, mget N p = some nd ∧ mget nd.nx x = some (ptrOf nd')
  short : ∀ p nd, mget N p = some nd → p.length ≤ 32

section
variable {K V : Type} [DecidableEq K]

theorem mget_of_mem : ∀ {l : List (K × V)} {k : K} {v : V}, (l.map (·.1)).Nodup → (k, v) ∈ l → mget l k = some v
  | [], k, v, _, h => by simp at h
  | (a, b) :: l, k, v, hn, h => by
    rw [mget_cons]
    rw [List.map_cons, List.nodup_cons] at hn
    rcases List.mem_cons.1 h with e | h
    · cases e
      rw [if_pos rfl]
    · have : a ≠ k := fun e => hn.1 (by rw [e]; exact List.mem_map.2 ⟨_, h, rfl⟩)
      rw [if_neg this]
      exact mget_of_mem hn.2 h
theorem mset_mid : ∀ {l1 l2 : List (K × V)} {k : K} {v v' : V}, k ∉ l1.map (·.1) → mset (l1 ++ (k, v) :: l2) k v' = l1 ++ (k, v') :: l2
  | [], l2, k, v, v', _ => by simp [mset]
  | (a, b) :: l1, l2, k, v, v', h => by
    simp only [List.map_cons, List.mem_cons, not_or] at h
    simp only [List.cons_append, mset, if_neg (fun e : a = k => h.1 e.symm), mset_mid h.2]
theorem keys_mset : ∀ {l : List (K × V)} {k : K} {v v' : V}, mget l k = some v → (mset l k v').map (·.1) = l.map (·.1)
  | [], k, v, v', h => by simp at h
  | (a, b) :: l, k, v, v', h => by
    rw [mget_cons] at h
    simp only [mset]
    by_cases e : a = k
    · rw [if_pos e]; simp [e]
    · rw [if_neg e] at h
      rw [if_neg e, List.map_cons, keys_mset h, List.map_cons]
theorem mget_mdel {l : List (K × V)} (hn : (l.map (·.1)).Nodup) (k k' : K) : mget (mdel l k) k' = if k = k' then none else mget l k' := by
  induction l with
  | nil => simp [mdel]
  | cons p l ih =>
    obtain ⟨a, b⟩ := p
    rw [List.map_cons, List.nodup_cons] at hn
    simp only [mdel]
    by_cases e : a = k
    · rw [if_pos e]
      subst e
      by_cases e' : a = k'
      · subst e'
        rw [if_pos rfl]
        exact (mget_none_iff _ _).2 hn.1
      · rw [if_neg e', mget_cons, if_neg e']
    · rw [if_neg e, mget_cons, mget_cons, ih hn.2]
      by_cases e' : k = k'
      · subst e'
        rw [if_neg e, if_pos rfl, if_pos rfl]
      · rw [if_neg e', if_neg e']
theorem keys_mdel : ∀ {l : List (K × V)} {k : K}, (l.map (·.1)).Nodup → ((mdel l k).map (·.1)).Nodup := by
  intro l k hn
  have : ((mdel l k).map (·.1)).Sublist (l.map (·.1)) := by
    clear hn
    induction l with
    | nil => simp [mdel]
    | cons p l ih =>
      obtain ⟨a, b⟩ := p
      simp only [mdel]
      by_cases e : a = k
      · rw [if_pos e]; exact List.sublist_cons_self ..
      · rw [if_neg e]; exact ih.cons_cons _
  exact this.nodup hn
theorem mget_split {l : List (K × V)} {k : K} {v : V} (h : mget l k = some v) : ∃ l1 l2, l = l1 ++ (k, v) :: l2 ∧ k ∉ l1.map (·.1) := by
  induction l with
  | nil => simp at h
  | cons p l ih =>
    obtain ⟨a, b⟩ := p
    rw [mget_cons] at h
    by_cases e : a = k
    · rw [if_pos e] at h
      cases h
      subst e
      exact ⟨[], l, rfl, by simp⟩
    · rw [if_neg e] at h
      obtain ⟨l1, l2, rfl, h2⟩ := ih h
      exact ⟨(a, b) :: l1, l2, rfl, by simp only [List.map_cons, List.mem_cons, not_or]; exact ⟨fun x => e x.symm, h2⟩⟩
theorem mget_append (l1 l2 : List (K × V)) (k : K) : mget (l1 ++ l2) k = (mget l1 k).or (mget l2 k) := by
  induction l1 with
  | nil => simp
  | cons p l ih =>
    obtain ⟨a, b⟩ := p
    rw [List.cons_append, mget_cons, mget_cons, ih]
    by_cases e : a = k
    · rw [if_pos e, if_pos e]; rfl
    · rw [if_neg e, if_neg e]
end

def ent (N : Nds) (p : Path) (id : Int) : Option Int := (mget N p).bind fun nd => mget nd.q id

theorem app_ne (p : Path) (x : ByteArray) : p ++ [x] ≠ p := fun h => by
  have := congrArg List.length h
  simp at this
theorem app_inj {p p' : Path} {x x' : ByteArray} (h : p ++ [x] = p' ++ [x']) : p = p' ∧ x = x' := by
  have := List.append_inj' h rfl
  exact ⟨this.1, by simpa using this.2⟩

namespace TreeOK
variable {rb : Nat} {N : Nds}

/-- whatever is ahead of a branch is a branch -/
theorem pre (h : TreeOK rb N) : ∀ (r p : Path) nd, mget N (p ++ r) = some nd → ∃ nd', mget N p = some nd'
  | [], p, nd, hn => by rw [List.append_nil] at hn; exact ⟨nd, hn⟩
  | x :: r, p, nd, hn => by
    have e : p ++ x :: r = (p ++ [x]) ++ r := by simp
    rw [e] at hn
    obtain ⟨nd', h1⟩ := pre h r _ nd hn
    obtain ⟨nd'', h2, _⟩ := h.up _ _ _ h1
    exact ⟨nd'', h2⟩

theorem setq (h : TreeOK rb N) {p : Path} {nd : Nd} (hp : mget N p = some nd) (q' : List (Int × Int)) : TreeOK rb (mset N p { nd with q := q' }) where
  keys := by rw [keys_mset hp]; exact h.keys
  root := by
    obtain ⟨r, h1, h2⟩ := h.root
    rw [mget_set]
    by_cases e : p = []
    · rw [if_pos e]
      subst e
      rw [hp] at h1
      cases h1
      exact ⟨_, rfl, h2⟩
    · rw [if_neg e]; exact ⟨r, h1, h2⟩
  down := by
    intro p1 n1 x v h1 h2
    have key : ∃ n0, mget N p1 = some n0 ∧ mget n0.nx x = some v := by
      rw [mget_set] at h1
      by_cases e : p = p1
      · rw [if_pos e] at h1
        cases h1
        subst e
        exact ⟨nd, hp, h2⟩
      · rw [if_neg e] at h1; exact ⟨n1, h1, h2⟩
    obtain ⟨n0, h3, h4⟩ := key
    obtain ⟨c, h5, h6⟩ := h.down _ _ _ _ h3 h4
    rw [mget_set]
    by_cases e : p = p1 ++ [x]
    · rw [if_pos e]
      rw [← e, hp] at h5
      cases h5
      exact ⟨_, rfl, h6⟩
    · rw [if_neg e]; exact ⟨c, h5, h6⟩
  up := by
    intro p1 x c h1
    have key : ∃ c0, mget N (p1 ++ [x]) = some c0 ∧ ptrOf c = ptrOf c0 := by
      rw [mget_set] at h1
      by_cases e : p = p1 ++ [x]
      · rw [if_pos e] at h1
        cases h1
        rw [← e]
        exact ⟨nd, hp, rfl⟩
      · rw [if_neg e] at h1; exact ⟨c, h1, rfl⟩
    obtain ⟨c0, h2, h3⟩ := key
    obtain ⟨n0, h4, h5⟩ := h.up _ _ _ h2
    rw [mget_set]
    by_cases e : p = p1
    · rw [if_pos e]
      subst e
      rw [hp] at h4
      cases h4
      exact ⟨_, rfl, by rw [h3]; exact h5⟩
    · rw [if_neg e]; exact ⟨n0, h4, by rw [h3]; exact h5⟩
  short := by
    intro p1 n1 h1
    rw [mget_set] at h1
    by_cases e : p = p1
    · rw [← e]; exact h.short _ _ hp
    · rw [if_neg e] at h1; exact h.short _ _ h1

theorem grow (h : TreeOK rb N) {p : Path} {nd c : Nd} {x : ByteArray} (hp : mget N p = some nd) (hx : mget nd.nx x = none) (hc : c.nx = []) (hsh : p.length < 32) :
    mget N (p ++ [x]) = none ∧ TreeOK rb (mset N p { nd with nx := mset nd.nx x (ptrOf c) } ++ [(p ++ [x], c)]) := by
  have hno : mget N (p ++ [x]) = none := by
    cases e : mget N (p ++ [x]) with
    | none => rfl
    | some c' =>
      obtain ⟨n0, h1, h2⟩ := h.up _ _ _ e
      rw [hp] at h1
      cases h1
      rw [hx] at h2
      cases h2
  have hget : ∀ p', mget (mset N p { nd with nx := mset nd.nx x (ptrOf c) } ++ [(p ++ [x], c)]) p' = if p = p' then some { nd with nx := mset nd.nx x (ptrOf c) } else if p ++ [x] = p' then some c else mget N p' := by
    intro p'
    rw [mget_append, mget_set]
    by_cases e : p = p'
    · rw [if_pos e, if_pos e]; rfl
    · rw [if_neg e, if_neg e, mget_cons]
      by_cases e' : p ++ [x] = p'
      · rw [if_pos e', if_pos e', ← e', hno]; rfl
      · rw [if_neg e', if_neg e', mget_nil]
        cases mget N p' <;> rfl
  refine ⟨hno, ?_, ?_, ?_, ?_, ?_⟩
  · rw [List.map_append, keys_mset hp, List.nodup_append]
    refine ⟨h.keys, by simp, fun a ha b hb => ?_⟩
    simp only [List.map_cons, List.map_nil, List.mem_singleton] at hb
    subst hb
    intro e
    subst e
    exact (mget_none_iff _ _).1 hno ha
  · obtain ⟨r, h1, h2⟩ := h.root
    rw [hget]
    by_cases e : p = []
    · rw [if_pos e]
      subst e
      rw [hp] at h1
      cases h1
      exact ⟨_, rfl, h2⟩
    · rw [if_neg e, if_neg (by simp)]; exact ⟨r, h1, h2⟩
  · intro p1 n1 y v h1 h2
    rw [hget] at h1
    by_cases e : p = p1
    · rw [if_pos e] at h1
      cases h1
      subst e
      simp only [mget_set] at h2
      by_cases e' : x = y
      · rw [if_pos e'] at h2
        cases h2
        subst e'
        rw [hget, if_neg (fun e => app_ne p x e.symm), if_pos rfl]
        exact ⟨c, rfl, rfl⟩
      · rw [if_neg e'] at h2
        obtain ⟨c', h3, h4⟩ := h.down _ _ _ _ hp h2
        rw [hget, if_neg (fun e => app_ne p y e.symm), if_neg (fun e => e' (app_inj e).2)]
        exact ⟨c', h3, h4⟩
    · rw [if_neg e] at h1
      by_cases e2 : p ++ [x] = p1
      · rw [if_pos e2] at h1
        cases h1
        rw [hc] at h2
        simp at h2
      · rw [if_neg e2] at h1
        obtain ⟨c', h3, h4⟩ := h.down _ _ _ _ h1 h2
        rw [hget]
        by_cases e3 : p = p1 ++ [y]
        · rw [if_pos e3]
          rw [← e3, hp] at h3
          cases h3
          exact ⟨_, rfl, h4⟩
        · rw [if_neg e3]
          by_cases e4 : p ++ [x] = p1 ++ [y]
          · exact absurd (app_inj e4).1 e
          · rw [if_neg e4]; exact ⟨c', h3, h4⟩
  · intro p1 y c1 h1
    rw [hget] at h1
    by_cases e : p = p1 ++ [y]
    · rw [if_pos e] at h1
      cases h1
      obtain ⟨n0, h3, h4⟩ := h.up p1 y nd (by rw [← e]; exact hp)
      rw [hget, if_neg (fun e' => by rw [e'] at e; exact app_ne _ _ e.symm)]
      by_cases e5 : p ++ [x] = p1
      · rw [← e5, hno] at h3
        cases h3
      · rw [if_neg e5]; exact ⟨n0, h3, h4⟩
    · rw [if_neg e] at h1
      by_cases e2 : p ++ [x] = p1 ++ [y]
      · rw [if_pos e2] at h1
        cases h1
        obtain ⟨rfl, rfl⟩ := app_inj e2
        rw [hget, if_pos rfl]
        exact ⟨_, rfl, by simp [mget_set]⟩
      · rw [if_neg e2] at h1
        obtain ⟨n0, h3, h4⟩ := h.up _ _ _ h1
        rw [hget]
        by_cases e5 : p = p1
        · rw [if_pos e5]
          subst e5
          rw [hp] at h3
          cases h3
          refine ⟨_, rfl, ?_⟩
          simp only [mget_set]
          rw [if_neg (fun e6 => e2 (by rw [e6]))]
          exact h4
        · rw [if_neg e5]
          by_cases e6 : p ++ [x] = p1
          · rw [← e6, hno] at h3
            cases h3
          · rw [if_neg e6]; exact ⟨n0, h3, h4⟩
  · intro p1 n1 h1
    rw [hget] at h1
    by_cases e : p = p1
    · rw [← e]; exact h.short _ _ hp
    · rw [if_neg e] at h1
      by_cases e2 : p ++ [x] = p1
      · rw [← e2, List.length_append]; simp; omega
      · rw [if_neg e2] at h1; exact h.short _ _ h1

theorem cut (h : TreeOK rb N) {p : Path} {nd c : Nd} {x : ByteArray} (hp : mget N p = some nd) (hk : (nd.nx.map (·.1)).Nodup) (hx : mget N (p ++ [x]) = some c) (hc : c.nx = []) :
    TreeOK rb (mdel (mset N p { nd with nx := mdel nd.nx x }) (p ++ [x])) := by
  have hkeys : ((mset N p { nd with nx := mdel nd.nx x }).map (·.1)).Nodup := by rw [keys_mset hp]; exact h.keys
  have hget : ∀ p', mget (mdel (mset N p { nd with nx := mdel nd.nx x }) (p ++ [x])) p' = if p ++ [x] = p' then none else if p = p' then some { nd with nx := mdel nd.nx x } else mget N p' := by
    intro p'
    rw [mget_mdel hkeys, mget_set]
  refine ⟨keys_mdel hkeys, ?_, ?_, ?_, ?_⟩
  · obtain ⟨r, h1, h2⟩ := h.root
    rw [hget, if_neg (by simp)]
    by_cases e : p = []
    · rw [if_pos e]
      subst e
      rw [hp] at h1
      cases h1
      exact ⟨_, rfl, h2⟩
    · rw [if_neg e]; exact ⟨r, h1, h2⟩
  · intro p1 n1 y v h1 h2
    rw [hget] at h1
    by_cases e0 : p ++ [x] = p1
    · rw [if_pos e0] at h1; cases h1
    rw [if_neg e0] at h1
    by_cases e : p = p1
    · rw [if_pos e] at h1
      cases h1
      subst e
      simp only [mget_mdel hk] at h2
      by_cases e' : x = y
      · rw [if_pos e'] at h2; cases h2
      rw [if_neg e'] at h2
      obtain ⟨c', h3, h4⟩ := h.down _ _ _ _ hp h2
      rw [hget, if_neg (fun e => e' (app_inj e).2), if_neg (fun e => app_ne p y e.symm)]
      exact ⟨c', h3, h4⟩
    · rw [if_neg e] at h1
      obtain ⟨c', h3, h4⟩ := h.down _ _ _ _ h1 h2
      rw [hget, if_neg (fun e' => e (app_inj e').1)]
      by_cases e3 : p = p1 ++ [y]
      · rw [if_pos e3]
        rw [← e3, hp] at h3
        cases h3
        exact ⟨_, rfl, h4⟩
      · rw [if_neg e3]; exact ⟨c', h3, h4⟩
  · intro p1 y c1 h1
    rw [hget] at h1
    by_cases e0 : p ++ [x] = p1 ++ [y]
    · rw [if_pos e0] at h1; cases h1
    rw [if_neg e0] at h1
    have key : ∃ c0, mget N (p1 ++ [y]) = some c0 ∧ ptrOf c1 = ptrOf c0 := by
      by_cases e : p = p1 ++ [y]
      · rw [if_pos e] at h1
        cases h1
        rw [← e]
        exact ⟨nd, hp, rfl⟩
      · rw [if_neg e] at h1; exact ⟨c1, h1, rfl⟩
    obtain ⟨c0, h2, h3⟩ := key
    obtain ⟨n0, h4, h5⟩ := h.up _ _ _ h2
    rw [hget]
    have hne : p ++ [x] ≠ p1 := by
      intro e
      rw [← e, hx] at h4
      cases h4
      rw [hc] at h5
      simp at h5
    rw [if_neg hne]
    by_cases e : p = p1
    · rw [if_pos e]
      subst e
      rw [hp] at h4
      cases h4
      refine ⟨_, rfl, ?_⟩
      simp only [mget_mdel hk]
      rw [if_neg (fun e6 => e0 (by rw [e6])), h3]
      exact h5
    · rw [if_neg e]; exact ⟨n0, h4, by rw [h3]; exact h5⟩
  · intro p1 n1 h1
    rw [hget] at h1
    by_cases e : p ++ [x] = p1
    · rw [if_pos e] at h1; cases h1
    · rw [if_neg e] at h1
      by_cases e2 : p = p1
      · rw [← e2]; exact h.short _ _ hp
      · rw [if_neg e2] at h1; exact h.short _ _ h1
end TreeOK

end Go.Proofs.YtnpgpijkofbknaaGreatDoor
