/-
  Hj: code and functions: what 'den' says is what the model does.
-/
import Derived.Test.YtmdagnoknmfhcaaDoorHi
namespace Go.H
set_option linter.unusedSimpArgs false
set_option linter.unusedVariables false

/-- Code from a heap: where it goes, and what holds there. -/
def HW (P : Program) (c : Code) (a : Act) (h : Heap) (Ψ : Exit → Act → Heap → Prop) : Prop := ∀ w, w.heap = h → c.wp P (fun x a' w' => Same w w' ∧ Ψ x a' w'.heap) a w

theorem length_le_of_lt : ∀ (n : Nat) (l : List Nat), l.Nodup → (∀ x ∈ l, x < n) → l.length ≤ n
  | 0, l, _, h => by
    cases l with
    | nil => simp
    | cons x l => exact absurd (h x (List.mem_cons_self ..)) (by omega)
  | n + 1, l, hnd, h => by
    have ih := length_le_of_lt n (l.erase n) (hnd.erase n) (fun x hx => by
      have h1 := (hnd.mem_erase_iff).1 hx
      have := h x h1.2
      have := h1.1
      omega)
    by_cases hm : n ∈ l
    · have := List.length_erase_of_mem hm; omega
    · rw [List.erase_of_not_mem hm] at ih; omega

theorem mem_of_full {n : Nat} {l : List Nat} (hnd : l.Nodup) (hlt : ∀ x ∈ l, x < n) (hlen : l.length = n) (i : Nat) (hi : i < n) : i ∈ l := by
  by_cases hm : i ∈ l
  · exact hm
  · have := length_le_of_lt n (i :: l) (List.nodup_cons.2 ⟨hm, hnd⟩) (fun x hx => by
      cases hx with
      | head => exact hi
      | tail _ hx => exact hlt x hx)
    simp at this; omega

section
variable {P : Program} {C : List Nat} {n : Nat} {live lc : List Nat} {rs : List ResultVar}

/-- A REGION, once its operations are walked. -/
theorem region_of_lex (hm : P.follows .mixedOrders = true) {ops : Array Oper} {draw : Bool} {id : Nat} {a : Act} {h : Heap} {Ψ : Exit → Act → Heap → Prop} (hok : draw = true → orderOK P ops (treeOf P ops true) = true)
    (hl : LexT P ops (Region.before ops) draw (fun a' h' => Ψ .normal a' h') (treeOf P ops draw) [] a h) : HW P (.region id ops draw) a h Ψ := by
  intro w hw
  subst hw
  cases draw with
  | false =>
    exact wp_region (wpOps_of_lex (w0 := w) (fun a' w' hs hp => ⟨hs, hp⟩) (List.range ops.size) [] a w (Same.refl w) hl)
  | true =>
    have ho := hok rfl
    simp only [orderOK, Bool.and_eq_true] at ho
    obtain ⟨hb, hp⟩ := ho
    obtain ⟨hback, hns⟩ := backOK_spec hb
    have hgood := goodT_spec _ _ hp
    refine wp_region_any hm ?_
    have hmem : ∀ i, i ∈ List.range ops.size ↔ (Array.replicate ops.size false)[i]? = some false := by
      intro i
      rw [List.mem_range]
      constructor
      · intro hi; simp [hi]
      · intro hi
        rcases Nat.lt_or_ge i ops.size with hh | hh
        · exact hh
        · simp [hh] at hi
    exact wpAny_of_tree (w0 := w) (fun a' w' hs hp => ⟨hs, hp⟩) (before_spec ops) hback hns ops.size (treeOf P ops true) (List.range ops.size) (Array.replicate ops.size false) [] a { w with drawn := w.drawn + 1 } (by simp) ⟨rfl, rfl, rfl⟩ List.nodup_range hgood
      (fun p hp => by cases hp) (by simp) hmem (fun m hm => by
        rw [Array.getElem?_replicate] at hm
        split at hm <;> cases hm) hl

theorem outsOf_sub : ∀ (l : List Oper) (p : Nat × Kind), p ∈ outsOf P live l → p.1 ∈ dstsOf l
  | [], p, h => by cases h
  | o :: l, p, h => by
    have ih := outsOf_sub l p
    have step : p ∈ outsOf P live l → p.1 ∈ dstsOf (o :: l) := fun hh => by
      simp only [dstsOf]
      cases o.dst with
      | none => exact ih hh
      | some s => exact List.mem_cons_of_mem _ (ih hh)
    simp only [outsOf] at h
    cases hg : o.guard with
    | some g => simp only [hg] at h; exact step h
    | none =>
      simp only [hg] at h
      cases hs : o.dst with
      | none => simp only [hs] at h; exact step h
      | some s =>
        simp only [hs] at h
        cases hm : memN s live with
        | false => simp only [hm] at h; exact step h
        | true =>
          simp only [hm] at h
          cases hk : kindOf P o.type with
          | none => simp only [hk] at h; exact step h
          | some k =>
            simp only [hk] at h
            cases h with
            | head => simp only [dstsOf, hs]; exact List.mem_cons_self ..
            | tail _ hh => exact step hh

theorem dstsOf_mem : ∀ (l : List Oper) (o : Oper) (s : Nat), o ∈ l → o.dst = some s → s ∈ dstsOf l
  | [], _, _, h, _ => by cases h
  | x :: l, o, s, h, hs => by
    simp only [dstsOf]
    cases h with
    | head => rw [hs]; exact List.mem_cons_self ..
    | tail _ h =>
      have := dstsOf_mem l o s h hs
      cases x.dst with
      | none => exact this
      | some t => exact List.mem_cons_of_mem _ this

theorem denRegion_sound (hm : P.follows .mixedOrders = true) (hC : ∀ f, f ∈ C → CallOK P f) {ρ : Type} {Q : ρ → Heap → Prop} {ops : Array Oper} {draw : Bool} {id : Nat} {e : Env} {k : Env → HM ρ} {a : Act} {h : Heap} {Ψ : Exit → Act → Heap → Prop}
    (hd : denRegion P C n live ops draw e k h Q) (hA : Agree n e a) (hk : ∀ e' a' h', Ext (dstsOf ops.toList) e e' → Agree n e' a' → k e' h' Q → Ψ .normal a' h') : HW P (.region id ops draw) a h Ψ := by
  unfold denRegion at hd
  have hdsts : ∀ (o : Oper) (s : Nat), o ∈ ops → o.dst = some s → s ∈ dstsOf ops.toList := fun o s ho hs => dstsOf_mem _ o s (by simpa using ho) hs
  have go : ∀ (hh : (draw = true → orderOK P ops (treeOf P ops true) = true) ∧ ((match guarded ops.toList with
    | false => denT P C n ops draw (treeOf P ops draw) e [] [] k
    | true => (denT P C n ops draw (treeOf P ops draw) e [] [] fun e' => pureO (e'.tup (outsOf P live ops.toList))).bind fun x => k (e.join (dstsOf ops.toList) (outsOf P live ops.toList) x)) h Q)), HW P (.region id ops draw) a h Ψ := by
    rintro ⟨hok, hd⟩
    refine region_of_lex hm hok ?_
    cases hg : guarded ops.toList with
    | false =>
      simp only [hg] at hd
      refine LexT.imp ?_ _ _ _ _ (denT_lex hC (dstsOf ops.toList) hdsts e _ e [] [] [] a h hd (Ext.refl _ _) hA (fun t b ht => by cases ht) (fun _ p hp => by cases hp) (fun _ p hp => hp))
      rintro a' h' ⟨e', hA', hx, hq⟩
      exact hk e' a' h' hx hA' hq
    | true =>
      simp only [hg] at hd
      refine LexT.imp ?_ _ _ _ _ (denT_lex hC (dstsOf ops.toList) hdsts e _ e [] [] [] a h hd (Ext.refl _ _) hA (fun t b ht => by cases ht) (fun _ p hp => by cases hp) (fun _ p hp => hp))
      rintro a' h' ⟨e', hA', hx, hq⟩
      cases ht : e'.tup (outsOf P live ops.toList) with
      | none => rw [ht] at hq; exact hq.elim
      | some x =>
        rw [ht] at hq
        exact hk _ a' h' (join_ext (fun p hp => outsOf_sub _ p hp) x) (hA'.join hx ht) hq
  cases draw with
  | false => exact go ⟨fun hh => (by cases hh), hd⟩
  | true =>
    cases ho : orderOK P ops (treeOf P ops true) with
    | false => simp only [ho] at hd; exact hd.elim
    | true => simp only [ho] at hd; exact go ⟨fun _ => ho, hd⟩

/-! ### results -/

def resOf (a : Act) : ResultVar → Sem Value
  | .tmp t => pure (a.tmps.getD t undef)
  | .cell x t => do loadVar t (← asAddr (a.tmps.getD x undef))

def ResOK (P : Program) (rs : List ResultVar) (a : Act) (h : Heap) (vs : List Value) : Prop := ∀ w, w.heap = h → (rs.mapM (resOf a)).run P w = .ok vs w

theorem denRet_sound {ρ : Type} {Q : ρ → Heap → Prop} {e : Env} {a : Act} {h : Heap} (hA : Agree n e a) : ∀ (rs : List ResultVar) (kk : List Value → HM ρ), denRet P e rs kk h Q → ∃ vs, ResOK P rs a h vs ∧ kk vs h Q
  | [], kk, hd => ⟨[], fun w _ => rfl, hd⟩
  | .tmp t :: rs, kk, hd => by
    simp only [denRet] at hd
    cases ht : e.get t with
    | none => simp only [ht] at hd; exact hd.elim
    | some v =>
      simp only [ht] at hd
      obtain ⟨vs, hvs, hq⟩ := denRet_sound hA rs _ hd
      refine ⟨v :: vs, fun w hw => ?_, hq⟩
      have hget := hA.get t v ht
      rw [List.mapM_cons]
      simp [resOf, hget, hvs w hw]
  | .cell x ty :: rs, kk, hd => by
    simp only [denRet] at hd
    cases ht : e.get x with
    | none => simp only [ht] at hd; exact hd.elim
    | some u =>
      simp only [ht] at hd
      obtain ⟨v, hv, hd⟩ := denLoad_sound hd
      obtain ⟨vs, hvs, hq⟩ := denRet_sound hA rs _ hd
      refine ⟨v :: vs, fun w hw => ?_, hq⟩
      have hget := hA.get x u ht
      rw [List.mapM_cons]
      have hl := hv w hw
      have : (resOf a (.cell x ty)).run P w = .ok v w := by
        cases u with
        | pointer p =>
          cases p with
          | some ad => simpa [resOf, hget, asAddr, Instr.loadAt, Instr.sureAddr] using hl
          | none => simp [Instr.loadAt, Instr.sureAddr] at hl
        | _ => simp [Instr.loadAt, Instr.sureAddr] at hl
      simp [this, hvs w hw]

/-! ### code -/

structure KOK (P : Program) (n : Nat) (rs : List ResultVar) (D : List Nat) (e : Env) {ρ : Type} (k : KK ρ) (Q : ρ → Heap → Prop) (Ψ : Exit → Act → Heap → Prop) : Prop where
  norm : ∀ e' a' h', Ext D e e' → Agree n e' a' → k.norm e' h' Q → Ψ .normal a' h'
  ret : ∀ a' h' vs r, a'.defers = [] → ResOK P rs a' h' vs → k.ret vs = some r → Q r h' → Ψ .ret a' h'
  exits : ∀ id g e' a' h' r, exitGet k.exits id = some g → Ext D e e' → Agree n e' a' → g e' = some r → Q r h' → Ψ (.exit id) a' h'

theorem KOK.at {D D' : List Nat} {e e1 : Env} {ρ : Type} {k : KK ρ} {Q : ρ → Heap → Prop} {Ψ : Exit → Act → Heap → Prop} (hk : KOK P n rs D e k Q Ψ) (hs : ∀ t, t ∈ D' → t ∈ D) (hx : Ext D e e1) : KOK P n rs D' e1 k Q Ψ :=
  ⟨fun e' a' h' hx' hA hq => hk.norm e' a' h' (hx.trans (hx'.mono hs)) hA hq, hk.ret, fun id g e' a' h' r hg hx' hA he hq => hk.exits id g e' a' h' r hg (hx.trans (hx'.mono hs)) hA he hq⟩

theorem pureO_sound {ρ : Type} {Q : ρ → Heap → Prop} {h : Heap} {o : Option ρ} (hd : pureO o h Q) : ∃ r, o = some r ∧ Q r h := by
  cases o with
  | none => exact hd.elim
  | some r => exact ⟨r, rfl, hd⟩

theorem exitGet_map {ρ ρ' : Type} {f : ρ → ρ'} : ∀ (l : List (Nat × (Env → Option ρ))) (id : Nat) (g : Env → Option ρ'), exitGet (mapExits f l) id = some g →
    ∃ g0, exitGet l id = some g0 ∧ ∀ e r, g e = some r → ∃ r0, g0 e = some r0 ∧ r = f r0
  | [], id, g, h => by cases h
  | (t, g1) :: d, id, g, h => by
    simp only [mapExits, exitGet] at h ⊢
    cases hb : Nat.beq t id with
    | true =>
      simp only [hb] at h ⊢
      cases h
      refine ⟨g1, rfl, fun e r hr => ?_⟩
      cases hg : g1 e with
      | none => simp only [hg] at hr; cases hr
      | some r0 => simp only [hg] at hr; cases hr; exact ⟨r0, rfl, rfl⟩
    | false =>
      simp only [hb] at h ⊢
      exact exitGet_map d id g h

theorem exitGet_drop {β : Type} (x : Nat) : ∀ (l : List (Nat × β)) (id : Nat) (g : β), exitGet (dropExit x l) id = some g → id ≠ x ∧ exitGet l id = some g
  | [], _, _, h => by cases h
  | (t, b) :: d, id, g, h => by
    simp only [dropExit] at h
    cases hb : Nat.beq t x with
    | true =>
      simp only [hb] at h
      obtain ⟨h1, h2⟩ := exitGet_drop x d id g h
      refine ⟨h1, ?_⟩
      simp only [exitGet]
      cases hc : Nat.beq t id with
      | true => have := Nat.eq_of_beq_eq_true hb; have := Nat.eq_of_beq_eq_true hc; omega
      | false => exact h2
    | false =>
      simp only [hb, exitGet] at h ⊢
      cases hc : Nat.beq t id with
      | true =>
        simp only [hc] at h ⊢
        refine ⟨?_, h⟩
        have := Nat.eq_of_beq_eq_true hc
        intro he
        subst he; subst this
        simp at hb
      | false =>
        simp only [hc] at h ⊢
        exact exitGet_drop x d id g h

theorem carried_sub (e : Env) : ∀ (l : List Nat) (p : Nat × Kind), p ∈ carried lc e l → p.1 ∈ l
  | [], p, h => by cases h
  | s :: r, p, h => by
    have ih := carried_sub e r p
    simp only [carried] at h
    cases hm : memN s r with
    | true => simp only [hm] at h; exact List.mem_cons_of_mem _ (ih h)
    | false =>
      simp only [hm] at h
      cases hl : memN s lc with
      | false => simp only [hl] at h; exact List.mem_cons_of_mem _ (ih h)
      | true =>
        simp only [hl] at h
        cases hv : e.get s with
        | none => simp only [hv] at h; exact List.mem_cons_of_mem _ (ih h)
        | some v =>
          simp only [hv] at h
          cases hk : Kind.of v with
          | none => simp only [hk] at h; exact List.mem_cons_of_mem _ (ih h)
          | some k =>
            simp only [hk] at h
            cases h with
            | head => exact List.mem_cons_self ..
            | tail _ hh => exact List.mem_cons_of_mem _ (ih hh)

/-- where a block ends -/
def inBlk (ex : Option Nat) (Ψ : Exit → Act → Heap → Prop) : Exit → Act → Heap → Prop
  | .exit id, a, h => if ex = some id then Ψ .normal a h else Ψ (.exit id) a h
  | x, a, h => Ψ x a h

theorem joinK_sound {ρ : Type} {Q : ρ → Heap → Prop} {outs : Bool} {ss : List (Nat × Kind)} {inner : (ρ' : Type) → KK ρ' → HM ρ'} {ex : Option Nat} {e : Env} {ds : List Nat} {k : KK ρ} {h : Heap} {Ψ : Exit → Act → Heap → Prop}
    (hss : ∀ p ∈ ss, p.1 ∈ ds) (hk : KOK P n rs ds e k Q Ψ) (hd : joinK outs ss inner ex e ds k h Q) {R : Prop}
    (hin : ∀ (ρ' : Type) (k' : KK ρ') (Q' : ρ' → Heap → Prop), inner ρ' k' h Q' → KOK P n rs ds e k' Q' (inBlk ex Ψ) → R) : R := by
  unfold joinK at hd
  cases outs with
  | true =>
    simp only at hd
    refine hin _ _ _ hd ?_
    have hnorm : ∀ e' a' h', Ext ds e e' → Agree n e' a' → ∀ r, (match e'.tup ss with | some x => some (Sum.inl (β := ρ) x) | none => none) = some r →
        Sum.elim (fun x => k.norm (e.join ds ss x)) HM.pure r h' Q → Ψ .normal a' h' := by
      intro e' a' h' hx hA r hr hq
      cases ht : e'.tup ss with
      | none => rw [ht] at hr; cases hr
      | some x =>
        rw [ht] at hr; cases hr
        exact hk.norm _ a' h' (join_ext hss x) (hA.join hx ht) hq
    refine ⟨fun e' a' h' hx hA hq => ?_, fun a' h' vs r hdf hres hr hq => ?_, fun id g e' a' h' r hg hx hA hr hq => ?_⟩
    · obtain ⟨r, hr, hq⟩ := pureO_sound hq
      exact hnorm e' a' h' hx hA r hr hq
    · simp only [mapRet] at hr
      cases hkr : k.ret vs with
      | none => simp only [hkr] at hr; cases hr
      | some r0 => simp only [hkr] at hr; cases hr; exact hk.ret a' h' vs r0 hdf hres hkr hq
    · have old : ∀ g0, exitGet (mapExits (Sum.inr (α := KTup (ss.map (·.2)))) k.exits) id = some g0 → g0 e' = some r → Ψ (.exit id) a' h' := by
        intro g0 hg0 hr0
        obtain ⟨g1, h1, h2⟩ := exitGet_map _ _ _ hg0
        obtain ⟨r0, h3, h4⟩ := h2 e' r hr0
        subst h4
        exact hk.exits id g1 e' a' h' r0 h1 hx hA h3 hq
      cases ex with
      | none => simp only [inBlk]; rw [if_neg (by simp)]; exact old g hg hr
      | some x =>
        simp only [exitGet] at hg
        simp only [inBlk]
        cases hb : Nat.beq x id with
        | true =>
          simp only [hb] at hg
          cases hg
          have := Nat.eq_of_beq_eq_true hb
          subst this
          rw [if_pos rfl]
          exact hnorm e' a' h' hx hA r hr hq
        | false =>
          simp only [hb] at hg
          rw [if_neg (by intro hh; cases hh; simp at hb)]
          exact old g hg hr
  | false =>
    simp only at hd
    refine hin _ _ _ hd ?_
    have hnorm : ∀ e' a' h', Ext ds e e' → Agree n e' a' → ∀ r, e'.tup ss = some r → k.norm (e.join ds ss r) h' Q → Ψ .normal a' h' :=
      fun e' a' h' hx hA r ht hq => hk.norm _ a' h' (join_ext hss r) (hA.join hx ht) hq
    refine ⟨fun e' a' h' hx hA hq => ?_, fun a' h' vs r hdf hres hr hq => (by cases hr), fun id g e' a' h' r hg hx hA hr hq => ?_⟩
    · obtain ⟨r, hr, hq⟩ := pureO_sound hq
      exact hnorm e' a' h' hx hA r hr hq
    · cases ex with
      | none => cases hg
      | some x =>
        simp only [exitGet] at hg
        simp only [inBlk]
        cases hb : Nat.beq x id with
        | true =>
          simp only [hb] at hg
          cases hg
          have := Nat.eq_of_beq_eq_true hb
          subst this
          rw [if_pos rfl]
          exact hnorm e' a' h' hx hA r hr hq
        | false => simp only [hb] at hg; cases hg

/-- A loop, its rounds told by a state beside the frame. -/
theorem wp_loop_rel {c : Code} {Q : Exit → Act → World → Prop} {σ : Type} (J : σ → Act → World → Prop) (μ : σ → World → Nat) (round : ∀ s a w, J s a w → c.wp P (Exit.then (fun a' w' => ∃ s', J s' a' w' ∧ μ s' w' < μ s w) Q) a w)
    {s : σ} {a : Act} {w : World} (h0 : J s a w) : (Code.loop c).wp P Q a w := by
  intro b k cs
  have key : ∀ m s a w, μ s w = m → J s a w → ∃ e a' w', Q e a' w' ∧ Arrives P (lone (b.at a (.code c :: .inLoop c :: k)) cs w) b k cs e a' w' := by
    intro m
    induction m using Nat.strongRecOn with
    | _ m ih =>
      intro s a w hm hJ
      obtain ⟨e, a1, w1, hq, harr⟩ := round s a w hJ b (.inLoop c :: k) cs
      cases e with
      | normal =>
        obtain ⟨s', hJ', hlt⟩ := hq
        obtain ⟨e2, a2, w2, hq2, harr2⟩ := ih (μ s' w1) (hm ▸ hlt) s' a1 w1 rfl hJ'
        exact ⟨e2, a2, w2, hq2, .of_steps (Steps.trans harr (.one step_inLoop)) harr2⟩
      | exit id => exact ⟨_, a1, w1, hq, .pass (x := .inLoop c) rfl (fun _ _ => .inl (by simp)) harr⟩
      | goto l => exact ⟨_, a1, w1, hq, .pass (x := .inLoop c) rfl (fun _ _ => .inl (by simp)) harr⟩
      | ret => exact ⟨_, a1, w1, hq, .pass (x := .inLoop c) rfl (fun _ _ => .inl (by simp)) harr⟩
      | panic ch => exact ⟨_, a1, w1, hq, .pass (x := .inLoop c) rfl (fun _ _ => .inl (by simp)) harr⟩
      | outgrown => exact ⟨_, a1, w1, hq, .pass (x := .inLoop c) rfl (fun _ _ => .inl (by simp)) harr⟩
  obtain ⟨e, a', w', hq, harr⟩ := key _ s a w rfl h0
  exact ⟨e, a', w', hq, .of_steps (.one step_loop) harr⟩

theorem den_sound (hm : P.follows .mixedOrders = true) (hC : ∀ f, f ∈ C → CallOK P f) : ∀ (c : Code) (ρ : Type) (e : Env) (k : KK ρ) (h : Heap) (Q : ρ → Heap → Prop) (a : Act) (Ψ : Exit → Act → Heap → Prop),
    den P C n live lc rs c ρ e k h Q → Agree n e a → KOK P n rs (dsts c) e k Q Ψ → HW P c a h Ψ := by
  intro c
  induction c with
  | skip =>
    intro ρ e k h Q a Ψ hd hA hk w hw
    subst hw
    exact wp_skip ⟨Same.refl w, hk.norm e a _ (Ext.refl _ _) hA hd⟩
  | region id ops draw =>
    intro ρ e k h Q a Ψ hd hA hk
    exact denRegion_sound hm hC hd hA hk.norm
  | seq x y ihx ihy =>
    intro ρ e k h Q a Ψ hd hA hk
    have h1 := ihx ρ e { k with norm := fun e' => den P C n live lc rs y ρ e' k } h Q a (fun ex a' h' => match ex with | .normal => HW P y a' h' Ψ | ex => Ψ ex a' h') hd hA
      ⟨fun e' a' h' hx hA' hq => ihy ρ e' k h' Q a' Ψ hq hA' (hk.at (fun t ht => List.mem_append_right _ ht) (hx.mono fun t ht => List.mem_append_left _ ht)),
       fun a' h' vs r hdf hres hr hq => hk.ret a' h' vs r hdf hres hr hq,
       fun id g e' a' h' r hg hx hA' hr hq => hk.exits id g e' a' h' r hg (hx.mono fun t ht => List.mem_append_left _ ht) hA' hr hq⟩
    intro w hw
    refine wp_seq (wp_mono (h1 w hw) ?_)
    rintro ex a' w' ⟨hs, hq⟩
    cases ex with
    | normal => exact wp_mono (hq w' rfl) fun ex2 a2 w2 ⟨hs2, hq2⟩ => ⟨hs.trans hs2, hq2⟩
    | exit id => exact ⟨hs, hq⟩
    | goto l => exact ⟨hs, hq⟩
    | ret => exact ⟨hs, hq⟩
    | panic ch => exact ⟨hs, hq⟩
    | outgrown => exact ⟨hs, hq⟩
  | cond c x y ihx ihy =>
    intro ρ e k h Q a Ψ hd hA hk
    simp only [den] at hd
    cases hc : e.ev c with
    | none => simp only [hc] at hd; exact hd.elim
    | some v =>
      cases v <;> simp only [hc] at hd <;> try exact hd.elim
      rename_i t
      have hev := hA.ev hc
      have inner : ∀ (ρ' : Type) (k' : KK ρ') (Q' : ρ' → Heap → Prop), HM.ite t (den P C n live lc rs x ρ' e k') (den P C n live lc rs y ρ' e k') h Q' → KOK P n rs (dsts x ++ dsts y) e k' Q' Ψ → HW P (.cond c x y) a h Ψ := by
        intro ρ' k' Q' hd hk w hw
        refine wp_cond hev ?_
        simp only [HM.ite] at hd
        cases t with
        | true =>
          rw [if_pos rfl] at hd ⊢
          exact ihx ρ' e k' h Q' a Ψ hd hA (hk.at (fun t ht => List.mem_append_left _ ht) (Ext.refl _ _)) w hw
        | false =>
          rw [if_neg (by simp)] at hd ⊢
          exact ihy ρ' e k' h Q' a Ψ hd hA (hk.at (fun t ht => List.mem_append_right _ ht) (Ext.refl _ _)) w hw
      cases hn : canNorm x && canNorm y with
      | false => simp only [hn] at hd; exact inner ρ k Q hd hk
      | true =>
        simp only [hn] at hd
        have e0 : inBlk none Ψ = Ψ := by
          funext ex a' h'
          cases ex <;> simp [inBlk]
        exact joinK_sound (fun p hp => carried_sub e _ p hp) hk hd (fun ρ' k' Q' hi hk' => inner ρ' k' Q' hi (by rw [e0] at hk'; exact hk'))
  | block id x ih =>
    intro ρ e k h Q a Ψ hd hA hk
    have fin : HW P x a h (inBlk (some id) Ψ) → HW P (.block id x) a h Ψ := by
      intro hx w hw
      refine wp_block (wp_mono (hx w hw) ?_)
      rintro ex a' w' ⟨hs, hq⟩
      cases ex with
      | exit id' =>
        simp only [inBlk] at hq
        simp only [Exit.inBlock]
        by_cases hid : id' = id
        · subst hid; rw [if_pos rfl] at hq ⊢; exact ⟨hs, hq⟩
        · rw [if_neg (by intro hh; cases hh; exact hid rfl)] at hq
          rw [if_neg hid]
          exact ⟨hs, hq⟩
      | normal => exact ⟨hs, hq⟩
      | goto l => exact ⟨hs, hq⟩
      | ret => exact ⟨hs, hq⟩
      | panic ch => exact ⟨hs, hq⟩
      | outgrown => exact ⟨hs, hq⟩
    simp only [den] at hd
    cases hx : canNorm.canExit id x with
    | true =>
      simp only [hx] at hd
      exact joinK_sound (fun p hp => carried_sub e _ p hp) hk hd (fun ρ' k' Q' hi hk' => fin (ih ρ' e k' h Q' a _ hi hA hk'))
    | false =>
      simp only [hx] at hd
      refine fin (ih ρ e _ h Q a _ hd hA ⟨hk.norm, hk.ret, fun id' g e' a' h' r hg hx hA' hr hq => ?_⟩)
      obtain ⟨h1, h2⟩ := exitGet_drop id _ _ _ hg
      simp only [inBlk]
      rw [if_neg (by intro hh; cases hh; exact h1 rfl)]
      exact hk.exits id' g e' a' h' r h2 hx hA' hr hq
  | loop x ih =>
    intro ρ e k h Q a Ψ hd hA hk
    simp only [den] at hd
    cases ht : e.tup (carried lc e (dsts x)) with
    | none => simp only [ht] at hd; exact hd.elim
    | some s0 =>
      simp only [ht] at hd
      obtain ⟨I, μ, hI, hround⟩ := hd
      have hss : ∀ p ∈ carried lc e (dsts x), p.1 ∈ dsts x := fun p hp => carried_sub e _ p hp
      intro w0 hw0
      refine wp_loop_rel (J := fun y a w => Same w0 w ∧ Agree n (e.join (dsts x) (carried lc e (dsts x)) y) a ∧ I y w.heap) (μ := fun y w => μ y w.heap) ?_ (s := s0) ⟨Same.refl _, hA.join (Ext.refl _ _) ht, by rw [hw0]; exact hI⟩
      rintro y a1 w1 ⟨hs1, hA1, hI1⟩
      have hb := hround y w1.heap hI1
      have := ih _ _ _ w1.heap _ a1 (fun ex a' h' => match ex with
        | .normal => ∃ s', Agree n (e.join (dsts x) (carried lc e (dsts x)) s') a' ∧ I s' h' ∧ μ s' h' < μ y w1.heap
        | ex => Ψ ex a' h') hb hA1 ⟨fun e' a' h' hx hA' hq => ?_, fun a' h' vs r hdf hres hr hq => ?_, fun id g e' a' h' r hg hx hA' hr hq => ?_⟩
      · refine wp_mono (this w1 rfl) ?_
        rintro ex a' w' ⟨hs, hq⟩
        cases ex with
        | normal =>
          obtain ⟨s', h1, h2, h3⟩ := hq
          exact ⟨s', ⟨hs1.trans hs, h1, h2⟩, h3⟩
        | exit id => exact ⟨hs1.trans hs, hq⟩
        | goto l => exact ⟨hs1.trans hs, hq⟩
        | ret => exact ⟨hs1.trans hs, hq⟩
        | panic ch => exact ⟨hs1.trans hs, hq⟩
        | outgrown => exact ⟨hs1.trans hs, hq⟩
      · obtain ⟨r, hr, hq⟩ := pureO_sound hq
        cases ht' : e'.tup (carried lc e (dsts x)) with
        | none => rw [ht'] at hr; cases hr
        | some z =>
          rw [ht'] at hr; cases hr
          exact ⟨z, hA'.join ((join_ext hss y).trans hx) ht', hq.1, hq.2⟩
      · simp only [mapRet] at hr
        cases hkr : k.ret vs with
        | none => simp only [hkr] at hr; cases hr
        | some r0 => simp only [hkr] at hr; cases hr; exact hk.ret a' h' vs r0 hdf hres hkr hq
      · obtain ⟨g1, h1, h2⟩ := exitGet_map _ _ _ hg
        obtain ⟨r0, h3, h4⟩ := h2 e' r hr
        subst h4
        exact hk.exits id g1 e' a' h' r0 h1 ((join_ext hss y).trans hx) hA' h3 hq
  | exit id =>
    intro ρ e k h Q a Ψ hd hA hk w hw
    subst hw
    simp only [den] at hd
    cases hg : exitGet k.exits id with
    | none => simp only [hg] at hd; exact hd.elim
    | some g =>
      simp only [hg] at hd
      obtain ⟨r, hr, hq⟩ := pureO_sound hd
      exact wp_exit ⟨Same.refl w, hk.exits id g e a _ r hg (Ext.refl _ _) hA hr hq⟩
  | ret =>
    intro ρ e k h Q a Ψ hd hA hk w hw
    subst hw
    simp only [den] at hd
    obtain ⟨vs, hvs, hq⟩ := denRet_sound hA rs _ hd
    obtain ⟨r, hr, hq⟩ := pureO_sound hq
    exact wp_ret ⟨Same.refl w, hk.ret a _ vs r hA.defers hvs hr hq⟩
  | _ => intro ρ e k h Q a Ψ hd hA hk; exact hd.elim

/-! ### functions -/

def packV : List Value → Value
  | [v] => v
  | vs => .tuple vs.toArray

def packed (ks : List Kind) (x : KTup ks) : Value := packV (KTup.vals ks x)

theorem results_run {fn : Func} {a : Act} {w : World} {vs : List Value} (h : ResOK P fn.results.toList a w.heap vs) : (results fn a.tmps).run P w = .ok (packV vs) w := by
  have hm : (fn.results.mapM (resOf a)).run P w = .ok vs.toArray w := by
    rw [Array.mapM_eq_mapM_toList]
    simp only [Sem.run_map]
    rw [h w rfl]
    rfl
  have e1 : results fn a.tmps = (do let vs ← fn.results.mapM (resOf a); pure (if h : vs.size = 1 then vs[0] else .tuple vs)) := by
    unfold results
    congr 1
  rw [e1]
  simp only [Sem.run_bind, hm, Result.andThen_ok, Sem.run_pure]
  congr 1
  match vs with
  | [] => rfl
  | [v] => rfl
  | u :: v :: r => rfl

theorem get_args : ∀ (args : List Value) (i t : Nat) (v : Value), Env.get ((args.zipIdx i).map fun (v, i) => (i, v)) t = some v → i ≤ t ∧ args[t - i]? = some v
  | [], _, _, _, h => by cases h
  | x :: args, i, t, v, h => by
    simp only [List.zipIdx_cons, List.map_cons, Env.get] at h
    cases hb : Nat.beq i t with
    | true =>
      rw [hb] at h
      have := Nat.eq_of_beq_eq_true hb
      subst this
      cases h
      simp
    | false =>
      rw [hb] at h
      obtain ⟨h1, h2⟩ := get_args args (i + 1) t v h
      refine ⟨by omega, ?_⟩
      rw [show t - i = (t - (i + 1)) + 1 from by omega]
      simpa using h2

/-- WHAT 'den' SAYS OF A FUNCTION, its calls do. -/
theorem calls_of_den {f : FuncId} {fn : Func} {ks : List Kind} {args : List Value} {h : Heap} {Q : Value → Heap → Prop} (hf : P.funcs[f]? = some fn) (hb : fn.body.isSome = true) (hn : fn.ntmps = n) (hlen : Nat.ble args.length n = true)
    (hC : ∀ f, f ∈ C → CallOK P f) (hm : P.follows .mixedOrders = true) (hd : denFn P C n live lc fn.results.toList ks (bodyOf fn) args h fun x h' => Q (packed ks x) h') : HCalls P f args.toArray h Q := by
  obtain ⟨c, hc⟩ := Option.isSome_iff_exists.1 hb
  have hbody : bodyOf fn = c := by simp [bodyOf, hc]
  rw [hbody] at hd
  intro w hw
  subst hw
  refine calls_of_wp hf hc ?_
  have hle := Nat.le_of_ble_eq_true hlen
  have hA : Agree n (args.zipIdx.map fun (v, i) => (i, v)) { tmps := args.toArray ++ Array.replicate (fn.ntmps - args.toArray.size) undef, defers := [] } := by
    refine ⟨by simp [hn]; omega, rfl, fun t v ht => ?_⟩
    obtain ⟨-, h2⟩ := get_args args 0 t v ht
    simp only [Nat.sub_zero] at h2
    have hlt : t < args.length := by
      rcases Nat.lt_or_ge t args.length with hh | hh
      · exact hh
      · rw [List.getElem?_eq_none hh] at h2; cases h2
    simp [Array.getElem?_append, hlt, h2]
    rw [List.getElem?_eq_getElem hlt] at h2
    exact Option.some.inj h2
  have hfin : ∀ (a' : Act) (h' : Heap) (vs : List Value) (r : KTup ks), a'.defers = [] → ResOK P fn.results.toList a' h' vs → KTup.get ks vs = some r → Q (packed ks r) h' →
      a'.defers = [] ∧ ∃ v, (∀ w', w'.heap = h' → (results fn a'.tmps).run P w' = .ok v w') ∧ Q v h' := by
    intro a' h' vs r hdf hres hr hq
    refine ⟨hdf, packV vs, fun w' hw' => by subst hw'; exact results_run hres, ?_⟩
    have := KTup.get_vals _ _ _ hr
    rw [this]; exact hq
  have hsound := den_sound (live := live) (lc := lc) (rs := fn.results.toList) hm hC c (KTup ks) _ _ w.heap _ _
    (fun ex a' h' => match ex with
      | .normal => a'.defers = [] ∧ ∃ v, (∀ w', w'.heap = h' → (results fn a'.tmps).run P w' = .ok v w') ∧ Q v h'
      | .ret => a'.defers = [] ∧ ∃ v, (∀ w', w'.heap = h' → (results fn a'.tmps).run P w' = .ok v w') ∧ Q v h'
      | _ => False) hd hA
    ⟨fun e' a' h' hx hA' hq => by
      obtain ⟨vs, hvs, hq⟩ := denRet_sound hA' _ _ hq
      obtain ⟨r, hr, hq⟩ := pureO_sound hq
      exact hfin a' h' vs r hA'.defers hvs hr hq,
     fun a' h' vs r hdf hres hr hq => hfin a' h' vs r hdf hres hr hq,
     fun id g e' a' h' r hg => by cases hg⟩
  refine wp_mono (hsound w rfl) ?_
  rintro ex a' w' ⟨hs, hq⟩
  cases ex with
  | normal =>
    obtain ⟨hdf, v, hv, hq⟩ := hq
    exact ⟨hdf, v, hv w' rfl, v, rfl, hs, hq⟩
  | ret =>
    obtain ⟨hdf, v, hv, hq⟩ := hq
    exact ⟨hdf, v, hv w' rfl, v, rfl, hs, hq⟩
  | exit id => exact hq.elim
  | goto l => exact hq.elim
  | panic ch => exact hq.elim
  | outgrown => exact hq.elim

end
end Go.H
