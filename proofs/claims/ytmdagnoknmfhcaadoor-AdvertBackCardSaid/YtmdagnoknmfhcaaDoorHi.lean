/-
  Hi: regions, code, functions: what 'den' says is what the model does.
-/
import Derived.Test.YtmdagnoknmfhcaaDoorHh
namespace Go.H
set_option linter.unusedSimpArgs false
set_option linter.unusedVariables false

/-! ### frames -/

def Ext (D : List Nat) (e e' : Env) : Prop := ∀ t, t ∉ D → e'.get t = e.get t
theorem Ext.refl (D : List Nat) (e : Env) : Ext D e e := fun _ _ => rfl
theorem Ext.trans {D : List Nat} {a b c : Env} (h : Ext D a b) (k : Ext D b c) : Ext D a c := fun t ht => (k t ht).trans (h t ht)
theorem Ext.mono {D D' : List Nat} {a b : Env} (h : Ext D a b) (hs : ∀ t, t ∈ D → t ∈ D') : Ext D' a b := fun t ht => h t (fun hh => ht (hs t hh))

theorem get_put (e : Env) (s : Nat) (v : Value) (t : Nat) : Env.get (e.put (some s) v) t = if s = t then some v else e.get t := by
  simp only [Env.put, Env.get]
  by_cases h : s = t
  · subst h; simp
  · rw [if_neg h]
    cases hb : Nat.beq s t with
    | true => exact absurd (Nat.eq_of_beq_eq_true hb) h
    | false => rfl

theorem memN_iff : ∀ {l : List Nat} {n : Nat}, memN n l = true ↔ n ∈ l
  | [], n => by simp [memN]
  | t :: ts, n => by
    simp only [memN, List.mem_cons]
    cases hb : Nat.beq t n with
    | true => simp [Nat.eq_of_beq_eq_true hb]
    | false =>
      have hne : n ≠ t := by intro h; subst h; simp at hb
      simp [hne, memN_iff]

theorem get_forget (ts : List Nat) : ∀ (e : Env) (t : Nat), (e.forget ts).get t = if t ∈ ts then none else e.get t
  | [], t => by simp [Env.forget, Env.get]
  | (s, v) :: e, t => by
    have ih := get_forget ts e t
    simp only [Env.forget]
    cases hm : memN s ts with
    | true =>
      simp only [Env.get]
      rw [ih]
      have hs := memN_iff.1 hm
      by_cases ht : t ∈ ts
      · rw [if_pos ht, if_pos ht]
      · rw [if_neg ht, if_neg ht]
        cases hb : Nat.beq s t with
        | true => rw [Nat.eq_of_beq_eq_true hb] at hs; exact absurd hs ht
        | false => rfl
    | false =>
      simp only [Env.get]
      have hs : s ∉ ts := fun hh => by rw [memN_iff.2 hh] at hm; cases hm
      cases hb : Nat.beq s t with
      | true => have := Nat.eq_of_beq_eq_true hb; subst this; rw [if_neg hs]
      | false => exact ih

theorem Agree.put {n : Nat} {e : Env} {a : Act} (h : Agree n e a) {dst : Option Nat} (hd : ∀ s, dst = some s → s < n) (v : Value) : Agree n (e.put dst v) (a.put dst v) := by
  cases dst with
  | none => exact h
  | some s =>
    refine ⟨by simp [Act.put, h.size], h.defers, fun t u ht => ?_⟩
    rw [get_put] at ht
    simp only [Act.put, Array.getElem?_setIfInBounds]
    by_cases hst : s = t
    · subst hst
      rw [if_pos rfl] at ht
      cases ht
      simp [h.size, hd s rfl]
    · rw [if_neg hst] at ht ⊢
      exact h.get t u ht

theorem Agree.skip {n : Nat} {e : Env} {a : Act} (h : Agree n e a) (dst : Option Nat) (v : Value) : Agree n (e.forget dst.toList) (a.put dst v) := by
  cases dst with
  | none =>
    refine ⟨h.size, h.defers, fun t u ht => h.get t u ?_⟩
    rw [get_forget] at ht; simpa using ht
  | some s =>
    refine ⟨by simp [Act.put, h.size], h.defers, fun t u ht => ?_⟩
    rw [get_forget] at ht
    simp only [Option.toList, List.mem_singleton] at ht
    by_cases hst : t = s
    · rw [if_pos hst] at ht; cases ht
    · rw [if_neg hst] at ht
      simp only [Act.put, Array.getElem?_setIfInBounds]
      rw [if_neg (fun hh => hst hh.symm)]
      exact h.get t u ht

theorem DecOK.put {d : Dec} {a : Act} (h : DecOK d a) {dst : Option Nat} (hd : ∀ s, dst = some s → d.get s = none) (v : Value) : DecOK d (a.put dst v) := by
  cases dst with
  | none => exact h
  | some s =>
    intro t b ht
    simp only [Act.put, Array.getElem?_setIfInBounds]
    by_cases hst : s = t
    · subst hst; rw [hd s rfl] at ht; cases ht
    · rw [if_neg hst]; exact h t b ht

theorem DecOK.cons {d : Dec} {a : Act} (h : DecOK d a) {s : Nat} {b : Bool} (hs : a.tmps[s]? = some (.bool b)) : DecOK ((s, b) :: d) a := by
  intro t c ht
  simp only [Dec.get] at ht
  cases hb : Nat.beq s t with
  | true => rw [hb] at ht; cases ht; rw [← Nat.eq_of_beq_eq_true hb]; exact hs
  | false => rw [hb] at ht; exact h t c ht

theorem Dec.get_cons {d : Dec} {s t : Nat} {b : Bool} (h : d.get t = none) (hne : s ≠ t) : Dec.get ((s, b) :: d) t = none := by
  simp only [Dec.get]
  cases hb : Nat.beq s t with
  | true => exact absurd (Nat.eq_of_beq_eq_true hb) hne
  | false => exact h

/-! ### the values at a join -/

theorem gets_sound {e : Env} : ∀ {ss : List (Nat × Kind)} {vs : List Value}, e.gets ss = some vs → vs.length = ss.length ∧ ∀ t v, Env.get (zipVals ss vs) t = some v → e.get t = some v
  | [], vs, h => by simp only [Env.gets, Option.some.injEq] at h; subst h; exact ⟨rfl, fun t v hh => by simp [zipVals, Env.get] at hh⟩
  | (s, kd) :: r, vs, h => by
    simp only [Env.gets] at h
    cases hs : e.get s with
    | none => simp only [hs] at h; cases h
    | some u =>
      simp only [hs] at h
      cases hr : e.gets r with
      | none => simp only [hr] at h; cases h
      | some us =>
        simp only [hr] at h
        cases h
        obtain ⟨h1, h2⟩ := gets_sound hr
        refine ⟨by simp [h1], fun t v hh => ?_⟩
        simp only [zipVals, Env.get] at hh
        cases hb : Nat.beq s t with
        | true => rw [hb] at hh; cases hh; rw [← Nat.eq_of_beq_eq_true hb]; exact hs
        | false => rw [hb] at hh; exact h2 t v hh

theorem get_append (a b : Env) (t : Nat) : Env.get (a ++ b) t = match Env.get a t with | some v => some v | none => Env.get b t := by
  induction a with
  | nil => rfl
  | cons x a ih =>
    obtain ⟨s, v⟩ := x
    simp only [List.cons_append, Env.get]
    cases hb : Nat.beq s t with
    | true => rfl
    | false => exact ih

theorem zipVals_slot : ∀ (ss : List (Nat × Kind)) (vs : List Value) (t : Nat), t ∉ ss.map (·.1) → Env.get (zipVals ss vs) t = none
  | [], vs, t, _ => rfl
  | _ :: _, [], t, _ => by simp [zipVals, Env.get]
  | (s, kd) :: r, v :: vs, t, h => by
    simp only [List.map_cons, List.mem_cons, not_or] at h
    simp only [zipVals, Env.get]
    cases hb : Nat.beq s t with
    | true => exact absurd (Nat.eq_of_beq_eq_true hb).symm h.1
    | false => exact zipVals_slot r vs t h.2

theorem join_ext {e : Env} {ds : List Nat} {ss : List (Nat × Kind)} (hss : ∀ p ∈ ss, p.1 ∈ ds) (x : KTup (ss.map (·.2))) : Ext ds e (e.join ds ss x) := by
  intro t ht
  unfold Env.join
  rw [get_append, zipVals_slot, get_forget, if_neg ht]
  intro hm
  obtain ⟨p, hp, rfl⟩ := List.mem_map.1 hm
  exact ht (hss p hp)

theorem tup_sound {e : Env} {ss : List (Nat × Kind)} {x : KTup (ss.map (·.2))} (h : e.tup ss = some x) : ∀ t v, Env.get (zipVals ss (KTup.vals (ss.map (·.2)) x)) t = some v → e.get t = some v := by
  unfold Env.tup at h
  cases hg : e.gets ss with
  | none => simp only [hg] at h; cases h
  | some vs =>
    simp only [hg] at h
    have := KTup.get_vals _ _ _ h
    rw [← this]
    exact (gets_sound hg).2

theorem Agree.join {n : Nat} {e e' : Env} {a : Act} (h : Agree n e' a) {ds : List Nat} (hx : Ext ds e e') {ss : List (Nat × Kind)} {x : KTup (ss.map (·.2))} (ht : e'.tup ss = some x) : Agree n (e.join ds ss x) a := by
  refine ⟨h.size, h.defers, fun t v hg => ?_⟩
  unfold Env.join at hg
  rw [get_append] at hg
  cases hz : Env.get (zipVals ss (KTup.vals (ss.map (·.2)) x)) t with
  | some u => rw [hz] at hg; cases hg; exact h.get t v (tup_sound ht t v hz)
  | none =>
    rw [hz] at hg
    simp only at hg
    rw [get_forget] at hg
    by_cases hm : t ∈ ds
    · rw [if_pos hm] at hg; cases hg
    · rw [if_neg hm] at hg
      exact h.get t v (by rw [hx t hm]; exact hg)

section
variable {P : Program} {C : List Nat} {n : Nat} {ops : Array Oper} {draw : Bool} {ρ : Type} {Q : ρ → Heap → Prop}

/-! ### the operations of a region -/

def DnOK (P : Program) (ops : Array Oper) (draw : Bool) (dn : Done) : Prop := draw = true → ∀ p, p ∈ dn → ∃ o, ops[p.1]? = some o ∧ clsOf P o.op = .read

theorem again_sound (hC : ∀ f, f ∈ C → CallOK P f) {bj : Nat} {e : Env} {d : Dec} {a : Act} {h : Heap} (hA : Agree n e a) (hD : DecOK d a) {m : HM ρ} : ∀ (dn : Done), (∀ p, p ∈ dn → ∃ o, ops[p.1]? = some o ∧ clsOf P o.op = .read) →
    again P C ops bj e d dn m h Q → (∀ i v, (i, v) ∈ dn → bj.testBit i = false → AgainAt P ops i v a h) ∧ m h Q
  | [], _, hd => ⟨fun _ _ hm => (by cases hm), hd⟩
  | (i, v) :: r, hdn, hd => by
    simp only [again] at hd
    cases hb : bj.testBit i with
    | true =>
      simp only [hb] at hd
      obtain ⟨h1, h2⟩ := again_sound hC hA hD r (fun p hp => hdn p (List.mem_cons_of_mem _ hp)) hd
      refine ⟨fun j u hm hbj => ?_, h2⟩
      cases hm with
      | head => rw [hb] at hbj; cases hbj
      | tail _ hm => exact h1 j u hm hbj
    | false =>
      simp only [hb] at hd
      obtain ⟨o, ho, hcl⟩ := hdn (i, v) (List.mem_cons_self ..)
      have ho' : ops.toList[i]? = some o := by simpa using ho
      simp only [ho'] at hd
      have := denOp_lex hC hA hD hd
      rw [hcl] at this
      obtain ⟨v', hv', hveq, hrest⟩ := this
      subst hveq
      obtain ⟨h1, h2⟩ := again_sound hC hA hD r (fun p hp => hdn p (List.mem_cons_of_mem _ hp)) hrest
      refine ⟨fun j u hm hbj => ?_, h2⟩
      cases hm with
      | head => exact ⟨o, ho, hv'⟩
      | tail _ hm => exact h1 j u hm hbj

theorem denOne_lex (hC : ∀ f, f ∈ C → CallOK P f) {j : Nat} {o : Oper} {e : Env} {d : Dec} {dn dn' : Done} {kk : Env → Done → HM ρ} {a : Act} {h : Heap} {K : Done → Act → Heap → Prop}
    (ho : ops[j]? = some o) (hA : Agree n e a) (hD : DecOK d a) (hdst : ∀ s, o.dst = some s → s < n) (hdd : ∀ s, o.dst = some s → d.get s = none) (hdn : DnOK P ops draw dn) (hsub : draw = true → ∀ p, p ∈ dn' → p ∈ dn)
    (hw : want ops o a = true)
    (ih : ∀ v h' dn2 dn2', (clsOf P o.op = .stat → Stat P (execOp a.eval o) v) → kk (e.put o.dst v) dn2 h' Q → DnOK P ops draw dn2 → (draw = true → ∀ p, p ∈ dn2' → p ∈ dn2) → K dn2' (a.put o.dst v) h')
    (hd : denOne P C ops draw j o e d dn kk h Q) : StepR P ops (Region.before ops) draw K j dn' a h := by
  have hl := denOpE_lex hC hA hD hd
  unfold StepR
  simp only [ho]
  rw [if_pos hw]
  cases hc : clsOf P o.op with
  | stat =>
    rw [hc] at hl
    simp only
    obtain ⟨v, hv, hq⟩ := hl
    refine ⟨v, hv, ?_⟩
    cases hdr : draw with
    | false => subst hdr; simp only at hq; exact ih v h dn dn' (fun _ => hv) hq hdn hsub
    | true => subst hdr; simp only [hc] at hq; exact ih v h dn dn' (fun _ => hv) hq hdn hsub
  | read =>
    rw [hc] at hl
    simp only
    obtain ⟨v, hv, hq⟩ := hl
    refine ⟨v, hv, ?_⟩
    cases hdr : draw with
    | false => subst hdr; simp only at hq; exact ih v h dn _ (fun hh => by rw [hc] at hh; cases hh) hq hdn (fun hh => by cases hh)
    | true =>
      subst hdr; simp only [hc] at hq
      refine ih v h _ _ (fun hh => by rw [hc] at hh; cases hh) hq (fun _ p hp => ?_) (fun _ p hp => ?_)
      · cases hp with
        | head => exact ⟨o, ho, hc⟩
        | tail _ hp => exact hdn rfl p hp
      · cases hp with
        | head => exact List.mem_cons_self ..
        | tail _ hp => exact List.mem_cons_of_mem _ (hsub rfl p hp)
  | eff =>
    rw [hc] at hl
    simp only
    refine Does.mono hl fun v h' hq => ?_
    cases hdr : draw with
    | false => subst hdr; simp only at hq; exact ⟨fun hh => (by cases hh), ih v h' dn dn' (fun hh => by rw [hc] at hh; cases hh) hq hdn hsub⟩
    | true =>
      subst hdr; simp only [hc] at hq
      obtain ⟨h1, h2⟩ := again_sound hC (hA.put hdst v) (hD.put hdd v) dn (hdn rfl) hq
      exact ⟨fun _ i v' hi hb => h1 i v' (hsub rfl _ hi) hb, ih v h' dn dn' (fun hh => by rw [hc] at hh; cases hh) h2 hdn hsub⟩

theorem StepR.pass {K : Done → Act → Heap → Prop} {b : Array Nat} {j : Nat} {o : Oper} {dn : Done} {a : Act} {h : Heap} (ho : ops[j]? = some o) (hw : want ops o a = false)
    (hl : K dn (a.put o.dst undef) h) : StepR P ops b draw K j dn a h := by
  unfold StepR
  simp only [ho, hw]
  simpa using hl

theorem litOf_sound {d : Dec} {a : Act} (hD : DecOK d a) {x : Operand} {b : Bool} (h : litOf d x = some b) : a.eval x = .bool b := by
  cases x with
  | tmp t =>
    have := hD t b h
    simp [Act.eval, this]
  | const c => cases c <;> simp [litOf] at h; subst h; rfl
  | global g => cases h
  | func f => cases h

theorem litOp_sound {d : Dec} {a : Act} (hD : DecOK d a) {o : Oper} {b : Bool} (h : litOp d o.op = some b) : clsOf P o.op = .stat ∧ ∀ w, (execOp a.eval o).run P w = .ok (.value (.bool b)) w := by
  unfold litOp at h
  split at h
  · rename_i x ho
    exact ⟨by rw [ho]; rfl, fun w => by simp [execOp, ho, litOf_sound hD h]⟩
  · rename_i x ho
    exact ⟨by rw [ho]; rfl, fun w => by simp [execOp, ho, litOf_sound hD h]⟩
  · rename_i t x y ho
    refine ⟨by rw [ho]; rfl, fun w => ?_⟩
    split at h
    · rename_i hg
      have ht := hD t true hg
      have hx := litOf_sound hD h
      have he : a.eval (.tmp t) = .bool true := by simp [Act.eval, ht]
      simp [execOp, ho, he, asBool, hx]
    · rename_i hg
      have ht := hD t false hg
      have hx := litOf_sound hD h
      have he : a.eval (.tmp t) = .bool false := by simp [Act.eval, ht]
      simp [execOp, ho, he, asBool, hx]
    · cases h
  · cases h

theorem decAfter_ok {d : Dec} {a : Act} (hD : DecOK d a) {o : Oper} (hdd : ∀ s, o.dst = some s → d.get s = none) (hlt : ∀ s, o.dst = some s → s < a.tmps.size) {v : Value} (hst : clsOf P o.op = .stat → Stat P (execOp a.eval o) v) :
    DecOK (decAfter d o) (a.put o.dst v) := by
  have hp := hD.put hdd v
  unfold decAfter
  cases hs : o.dst with
  | none => rw [hs] at hp; exact hp
  | some s =>
    rw [hs] at hp
    simp only
    cases hl : litOp d o.op with
    | none => exact hp
    | some b =>
      obtain ⟨hc, hr⟩ := litOp_sound (P := P) hD hl
      have h1 := hst hc default
      rw [hr default] at h1
      cases h1
      exact hp.cons (by simp [Act.put, hlt s hs])

theorem want_none {o : Oper} {a : Act} (h : o.guard = none) : want ops o a = true := by simp [want, Region.wanted, h]
theorem want_some {o : Oper} {a : Act} {g : Nat} {wnt b : Bool} {s : Nat} (h : o.guard = some (g, wnt)) (hs : guardSlot ops g = some s) (hb : a.tmps[s]? = some (.bool b)) : want ops o a = (b == wnt) := by
  unfold guardSlot at hs
  cases hg : ops.toList[g]? with
  | none => simp only [hg] at hs; cases hs
  | some og =>
    simp only [hg] at hs
    have hg' : ops[g]? = some og := by simpa using hg
    simp only [want, Region.wanted, h, yielded, hg', Option.bind_some, hs, hb]
    cases b <;> cases wnt <;> rfl

theorem want_undef {o : Oper} {a : Act} {g : Nat} {wnt : Bool} {s : Nat} {vs : Array Value} (h : o.guard = some (g, wnt)) (hs : guardSlot ops g = some s) (hb : a.tmps[s]? = some (.tuple vs)) : want ops o a = false := by
  unfold guardSlot at hs
  cases hg : ops.toList[g]? with
  | none => simp only [hg] at hs; cases hs
  | some og =>
    simp only [hg] at hs
    have hg' : ops[g]? = some og := by simpa using hg
    simp only [want, Region.wanted, h, yielded, hg', Option.bind_some, hs, hb]
    cases wnt <;> rfl

theorem denStep_lex (hC : ∀ f, f ∈ C → CallOK P f) {k : Env → Dec → Done → HM ρ} {K : Done → Act → Heap → Prop} (D : List Nat) (hD0 : ∀ o s, o ∈ ops → o.dst = some s → s ∈ D) (e0 : Env)
    (ih : ∀ (e : Env) (d : Dec) (dn dn' : Done) (a : Act) (h : Heap), k e d dn h Q → Ext D e0 e → Agree n e a → DecOK d a → DnOK P ops draw dn → (draw = true → ∀ p, p ∈ dn' → p ∈ dn) → K dn' a h)
    (j : Nat) (e : Env) (d : Dec) (dn dn' : Done) (a : Act) (h : Heap) (hd : denStep P C n ops draw j e d dn k h Q) (hx : Ext D e0 e) (hA : Agree n e a) (hDc : DecOK d a) (hdn : DnOK P ops draw dn) (hsub : draw = true → ∀ p, p ∈ dn' → p ∈ dn) :
    StepR P ops (Region.before ops) draw K j dn' a h := by
    simp only [denStep] at hd
    cases ho : ops.toList[j]? with
    | none => simp only [ho] at hd; exact hd.elim
    | some o =>
      simp only [ho] at hd
      have ho' : ops[j]? = some o := by simpa using ho
      have hmem : o ∈ ops := Array.mem_of_getElem? ho'
      cases hchk : chkDst n d o.dst with
      | false => simp only [hchk] at hd; exact hd.elim
      | true =>
      simp only [hchk] at hd
      have hdst : ∀ s, o.dst = some s → s < n := by
        intro s hs
        rw [hs] at hchk
        have hchk' : (Nat.blt s n && (d.get s).isNone) = true := hchk
        rw [Bool.and_eq_true] at hchk'
        exact Nat.blt_eq.mp hchk'.1
      have hdd : ∀ s, o.dst = some s → d.get s = none := by
        intro s hs
        rw [hs] at hchk
        have hchk' : (Nat.blt s n && (d.get s).isNone) = true := hchk
        rw [Bool.and_eq_true] at hchk'
        exact Option.isNone_iff_eq_none.1 hchk'.2
      have hxp : ∀ v, Ext D e0 (e.put o.dst v) := by
        intro v
        refine hx.trans fun t ht => ?_
        cases hs : o.dst with
        | none => rfl
        | some s =>
          rw [get_put, if_neg]
          intro hst; subst hst; exact ht (hD0 o s hmem hs)
      have hxf : Ext D e0 (e.forget o.dst.toList) := by
        refine hx.trans fun t ht => ?_
        rw [get_forget, if_neg]
        intro hm
        cases hs : o.dst with
        | none => rw [hs] at hm; exact absurd hm List.not_mem_nil
        | some s => rw [hs] at hm; have := List.mem_singleton.1 hm; subst this; exact ht (hD0 o t hmem hs)
      have run : ∀ (d2 : Dec), DecOK d2 a → (∀ s, o.dst = some s → d2.get s = none) → want ops o a = true → (denOne P C ops draw j o e d2 dn fun e' dn' => k e' (decAfter d2 o) dn') h Q →
          StepR P ops (Region.before ops) draw K j dn' a h := by
        intro d2 hd2 hdd2 hw hh
        exact denOne_lex hC ho' hA hd2 hdst hdd2 hdn hsub hw (fun v h' dn2 dn2' hst hh hdn2 hsub2 => ih _ (decAfter d2 o) dn2 dn2' _ h' hh (hxp v) (hA.put hdst v) (decAfter_ok (P := P) hd2 hdd2 (fun s hs => by rw [hA.size]; exact hdst s hs) hst) hdn2 hsub2) hh
      have skip : ∀ (d2 : Dec), DecOK d2 a → (∀ s, o.dst = some s → d2.get s = none) → want ops o a = false → k (e.put o.dst undef) d2 dn h Q →
          StepR P ops (Region.before ops) draw K j dn' a h := by
        intro d2 hd2 hdd2 hw hh
        have := ih _ d2 dn dn' _ h hh (hxp undef) (hA.put hdst undef) (hd2.put hdd2 undef) hdn hsub
        exact StepR.pass ho' hw this
      cases hg : o.guard with
      | none =>
        simp only [hg] at hd
        exact run d hDc hdd (want_none hg) hd
      | some gw =>
        obtain ⟨g, wnt⟩ := gw
        simp only [hg] at hd
        cases hs : guardSlot ops g with
        | none => simp only [hs] at hd; exact hd.elim
        | some s =>
          simp only [hs] at hd
          cases hdg : d.get s with
          | some b =>
            simp only [hdg] at hd
            have hw := want_some (ops := ops) (a := a) hg hs (hDc s b hdg)
            cases b <;> cases wnt <;> simp only at hd
            · exact run d hDc hdd (by rw [hw]; rfl) hd
            · exact skip d hDc hdd (by rw [hw]; rfl) hd
            · exact skip d hDc hdd (by rw [hw]; rfl) hd
            · exact run d hDc hdd (by rw [hw]; rfl) hd
          | none =>
            simp only [hdg] at hd
            cases hh : hits o.dst s with
            | true => simp only [hh] at hd; exact hd.elim
            | false =>
            simp only [hh] at hd
            have hne : ∀ t, o.dst = some t → s ≠ t := by
              intro t ht hst
              subst hst
              rw [ht] at hh
              simp [hits] at hh
            cases hes : e.get s with
            | none => simp only [hes] at hd; exact hd.elim
            | some u =>
              have hts := hA.get s _ hes
              cases u <;> simp only [hes] at hd <;> first | exact hd.elim | exact skip d hDc hdd (want_undef (ops := ops) (a := a) hg hs hts) hd | skip
              rename_i bb
              have hw := want_some (ops := ops) (a := a) hg hs hts
              have hdd' : ∀ b', ∀ t, o.dst = some t → Dec.get ((s, b') :: d) t = none := fun b' t ht => Dec.get_cons (hdd t ht) (hne t ht)
              cases wnt <;> simp only at hd <;> cases bb
              · exact run _ (hDc.cons hts) (hdd' _) (by rw [hw]; rfl) hd
              · exact skip _ (hDc.cons hts) (hdd' _) (by rw [hw]; rfl) hd
              · exact skip _ (hDc.cons hts) (hdd' _) (by rw [hw]; rfl) hd
              · exact run _ (hDc.cons hts) (hdd' _) (by rw [hw]; rfl) hd

theorem allH_mem {h : Heap} : ∀ {l : List (HM ρ)}, allH l h Q → ∀ m ∈ l, m h Q
  | [m], hd, x, hx => by rw [List.mem_singleton.1 hx]; exact hd
  | m :: y :: r, hd, x, hx => by
    have hd' : m h Q ∧ allH (y :: r) h Q := hd
    rcases List.mem_cons.1 hx with rfl | hx
    · exact hd'.1
    · exact allH_mem hd'.2 x hx

theorem denT_lex (hC : ∀ f, f ∈ C → CallOK P f) {k : Env → HM ρ} (D : List Nat) (hD0 : ∀ o s, o ∈ ops → o.dst = some s → s ∈ D) (e0 : Env) : ∀ (t : OTree) (e : Env) (d : Dec) (dn dn' : Done) (a : Act) (h : Heap),
    denT P C n ops draw t e d dn k h Q → Ext D e0 e → Agree n e a → DecOK d a → DnOK P ops draw dn → (draw = true → ∀ p, p ∈ dn' → p ∈ dn) →
    LexT P ops (Region.before ops) draw (fun a' h' => ∃ e', Agree n e' a' ∧ Ext D e0 e' ∧ k e' h' Q) t dn' a h
  | .done, e, d, dn, dn', a, h, hd, hx, hA, _, _, _ => ⟨e, hA, hx, hd⟩
  | .q j t, e, d, dn, dn', a, h, hd, hx, hA, hDc, hdn, hsub => denStep_lex hC D hD0 e0 (denT_lex hC D hD0 e0 t) j e d dn dn' a h hd hx hA hDc hdn hsub
  | .br js f, e, d, dn, dn', a, h, hd, hx, hA, hDc, hdn, hsub => fun j hj =>
    denStep_lex hC D hD0 e0 (denT_lex hC D hD0 e0 (f j)) j e d dn dn' a h (allH_mem hd _ (List.mem_map_of_mem hj)) hx hA hDc hdn hsub

end
end Go.H
