/-
  Hlp: loops and cuts in the form of continuations: no monotonicity is asked.
-/
import Derived.Test.YtnpgpijkofbknaaGreatDoorHB
namespace Go.H
set_option linter.unusedSimpArgs false
set_option linter.unusedVariables false

section
variable {α β γ σ τ : Type} {h : Heap} {s : σ}

/-- a cut -/
theorem cut {m : HM α} {f : α → HM β} {Q : β → Heap → Prop} (P : α → Heap → Prop) (h1 : ∀ K : α → Heap → Prop, (∀ a h', P a h' → K a h') → m h K) (h2 : ∀ a h', P a h' → f a h' Q) : (HM.bind m f) h Q := h1 _ h2

theorem star_pr_intro {p : Prop} {R : List Asn} {m : PH} (hp : p) (h : stars R m) : stars (pr p :: R) m := by
  refine ⟨fun _ => none, m, fun k => .inl rfl, ?_, hp, h⟩
  funext k; rfl

theorem loop_k {body : σ → HM (σ ⊕ τ)} {Q : τ → Heap → Prop} (J : γ → σ → Heap → Prop) (μ : γ → Nat) (g : γ) (h0 : J g s h)
    (hr : ∀ g s h, J g s h → ∀ K : σ ⊕ τ → Heap → Prop, (∀ g' s' h', μ g' < μ g → J g' s' h' → K (.inl s') h') → (∀ t h', Q t h' → K (.inr t) h') → body s h K) : HM.loop body s h Q := by
  classical
  have hex : ∀ (s : σ) (h : Heap), (∃ g, J g s h) → ∃ n, ∃ g, J g s h ∧ μ g = n := fun s h ⟨g, hg⟩ => ⟨μ g, g, hg, rfl⟩
  have key : ∀ (n : Nat) (s : σ) (h : Heap), (∃ g, J g s h ∧ μ g = n) → ∃ m, (∃ g, J g s h ∧ μ g = m) ∧ ∀ g, J g s h → m ≤ μ g := by
    intro n
    induction n using Nat.strongRecOn with
    | _ n ih =>
      intro s h hn
      by_cases hl : ∃ g, J g s h ∧ μ g < n
      · obtain ⟨g, hg, hlt⟩ := hl
        exact ih _ hlt s h ⟨g, hg, rfl⟩
      · exact ⟨n, hn, fun g hg => by
          rcases Nat.lt_or_ge (μ g) n with h1 | h1
          · exact absurd ⟨g, hg, h1⟩ hl
          · exact h1⟩
  refine ⟨fun s h => ∃ g, J g s h, fun s h => if hh : ∃ m, (∃ g, J g s h ∧ μ g = m) ∧ ∀ g, J g s h → m ≤ μ g then Classical.choose hh else 0, ⟨g, h0⟩, ?_⟩
  intro s h hi
  obtain ⟨n, hn⟩ := hex s h hi
  have hm := key n s h hn
  obtain ⟨⟨g, hg, hgm⟩, hmin⟩ := Classical.choose_spec hm
  refine hr g s h hg _ (fun g' s' h' hlt hJ => ?_) (fun t h' hq => hq)
  refine ⟨⟨g', hJ⟩, ?_⟩
  have hm' := key (μ g') s' h' ⟨g', hJ, rfl⟩
  have h2 := (Classical.choose_spec hm').2 g' hJ
  simp only [dif_pos hm', dif_pos hm]
  omega

theorem loop_for {c : σ → Bool} {B E : σ → HM (σ ⊕ τ)} {Q : τ → Heap → Prop} (n : Nat) (J : Nat → σ → Heap → Prop) (h0 : J 0 s h) (hc : ∀ i s h, i ≤ n → J i s h → c s = decide (i < n))
    (hE : ∀ s h, J n s h → ∀ K : σ ⊕ τ → Heap → Prop, (∀ t h', Q t h' → K (.inr t) h') → E s h K)
    (hB : ∀ i s h, i < n → J i s h → ∀ K : σ ⊕ τ → Heap → Prop, (∀ s' h', J (i + 1) s' h' → K (.inl s') h') → (∀ t h', Q t h' → K (.inr t) h') → B s h K) :
    HM.loop (fun s => HM.ite (c s) (B s) (E s)) s h Q := by
  refine loop_k (fun i s h => i ≤ n ∧ J i s h) (fun i => n - i) 0 ⟨Nat.zero_le _, h0⟩ ?_
  rintro i s h ⟨hi, hJ⟩ K h1 h2
  rw [HM.ite_apply, hc i s h hi hJ]
  by_cases hlt : i < n
  · rw [if_pos (by simpa using hlt)]
    exact hB i s h hlt hJ K (fun s' h' hJ' => h1 (i + 1) s' h' (by omega) ⟨hlt, hJ'⟩) h2
  · have : i = n := by omega
    subst this
    rw [if_neg (by simp)]
    exact hE s h hJ K h2

variable {KT V : Type} {ek : KT → Value} {ev : V → Value} {m it : Nat} {l : List (KT × V)}

theorem loop_map {N : σ → HM (σ ⊕ τ)} {S : σ → Value × Value → HM (σ ⊕ τ)} {Q : τ → Heap → Prop} (J : List (KT × V) → σ → List Asn) (h0 : sat h (itA ek ev m l it [] l :: J [] s))
    (hN : ∀ done s h, done.Perm l → sat h (mapA ek ev m l :: J done s) → ∀ K : σ ⊕ τ → Heap → Prop, (∀ t h', Q t h' → K (.inr t) h') → N s h K)
    (hS : ∀ done p rest s h, (done ++ p :: rest).Perm l → sat h (itA ek ev m l it (done ++ [p]) rest :: J done s) → ∀ K : σ ⊕ τ → Heap → Prop,
      (∀ s' h', sat h' (itA ek ev m l it (done ++ [p]) rest :: J (done ++ [p]) s') → K (.inl s') h') → (∀ t h', Q t h' → K (.inr t) h') → S s (ek p.1, ev p.2) h K) :
    HM.loop (fun s => HM.bind (HM.nextM it) fun o => HM.opt o (N s) (S s)) s h Q := by
  refine loop_k (γ := List (KT × V) × List (KT × V)) (fun g s h => (g.1 ++ g.2).Perm l ∧ sat h (itA ek ev m l it g.1 g.2 :: J g.1 s)) (fun g => g.2.length) ([], l) ⟨List.Perm.refl _, h0⟩ ?_
  rintro ⟨done, todo⟩ s h ⟨hp, hs⟩ K h1 h2
  simp only at hp hs
  rw [HM.bind_apply]
  refine next_map hs (fun ht => ?_) (fun p t1 t2 ht h' hs' => ?_)
  · subst ht
    rw [List.append_nil] at hp
    exact hN done s h hp (itA_map hs) K h2
  · subst ht
    have hp' : (done ++ p :: (t1 ++ t2)).Perm l := by
      refine List.Perm.trans (List.Perm.append_left done ?_) hp
      exact List.perm_middle.symm
    refine hS done p (t1 ++ t2) s h' hp' hs' K (fun s' h'' hs'' => h1 (done ++ [p], t1 ++ t2) s' h'' (by simp) ⟨?_, hs''⟩) h2
    simpa using hp'

end
end Go.H
