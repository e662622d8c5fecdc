/-
  Hh: regions: one order stands for all.
-/
import Derived.Test.YtlgddhcbiioefaaDoorHg
namespace Go.H
set_option linter.unusedSimpArgs false
set_option linter.unusedVariables false

section
variable {P : Program} {ops : Array Oper} {b : Array Nat} {Φ : Act → Heap → Prop}

theorem Does.mono {s : Sem Next} {h : Heap} {Ψ Ψ' : Value → Heap → Prop} (hd : Does P s h Ψ) (hp : ∀ v h', Ψ v h' → Ψ' v h') : Does P s h Ψ' := by
  intro w hw
  have := hd w hw
  revert this
  cases s.run P w with
  | halt x w' => exact id
  | ok n w' =>
    cases n <;> first
      | exact fun hh => ⟨hh.1, hp _ _ hh.2⟩
      | exact fun hh => ⟨hh.1, HCalls.mono hh.2 hp⟩
      | exact id

def want (ops : Array Oper) (o : Oper) (a : Act) : Bool := Region.wanted o (yielded ops a.tmps)

def AgainAt (P : Program) (ops : Array Oper) (i : Nat) (v : Value) (a : Act) (h : Heap) : Prop := ∃ o, ops[i]? = some o ∧ ReadsAt P (execOp a.eval o) h v

/-- THE OPERATIONS of a region in a given order; 'dn': what was read so far. -/
def LexR (P : Program) (ops : Array Oper) (b : Array Nat) (draw : Bool) (Φ : Act → Heap → Prop) : List Nat → Done → Act → Heap → Prop
  | [], _, a, h => Φ a h
  | j :: t, dn, a, h => match ops[j]? with
    | none => False
    | some o => if want ops o a = true then
        match clsOf P o.op with
        | .stat => ∃ v, Stat P (execOp a.eval o) v ∧ LexR P ops b draw Φ t dn (a.put o.dst v) h
        | .read => ∃ v, ReadsAt P (execOp a.eval o) h v ∧ LexR P ops b draw Φ t ((j, v) :: dn) (a.put o.dst v) h
        | .eff => Does P (execOp a.eval o) h fun v h' => (draw = true → ∀ i v', (i, v') ∈ dn → (b.getD j 0).testBit i = false → AgainAt P ops i v' (a.put o.dst v) h') ∧ LexR P ops b draw Φ t dn (a.put o.dst v) h'
      else LexR P ops b draw Φ t dn (a.put o.dst undef) h

theorem LexR.fewer {draw : Bool} : ∀ (l : List Nat) (dn dn' : Done) (a : Act) (h : Heap), (∀ p, p ∈ dn' → p ∈ dn) → LexR P ops b draw Φ l dn a h → LexR P ops b draw Φ l dn' a h
  | [], _, _, _, _, _, hl => hl
  | j :: t, dn, dn', a, h, hs, hl => by
    unfold LexR at hl ⊢
    cases ho : ops[j]? with
    | none => simp only [ho] at hl
    | some o =>
      simp only [ho] at hl ⊢
      by_cases hw : want ops o a = true
      · rw [if_pos hw] at hl ⊢
        cases hc : clsOf P o.op with
        | stat =>
          simp only [hc] at hl ⊢
          obtain ⟨v, hv, hr⟩ := hl
          exact ⟨v, hv, LexR.fewer t dn dn' _ _ hs hr⟩
        | read =>
          simp only [hc] at hl ⊢
          obtain ⟨v, hv, hr⟩ := hl
          refine ⟨v, hv, LexR.fewer t _ _ _ _ (fun p hp => ?_) hr⟩
          cases hp with
          | head => exact List.mem_cons_self ..
          | tail _ hp => exact List.mem_cons_of_mem _ (hs p hp)
        | eff =>
          simp only [hc] at hl ⊢
          exact hl.mono fun v h' ⟨h1, h2⟩ => ⟨fun hd i v' hi => h1 hd i v' (hs _ hi), LexR.fewer t dn dn' _ _ hs h2⟩
      · rw [if_neg hw] at hl ⊢
        exact LexR.fewer t dn dn' _ _ hs hl

/-- what an operation that doesn't act yields -/
def YX (P : Program) (ops : Array Oper) (o : Oper) (a : Act) (h : Heap) (v : Value) : Prop :=
  (want ops o a = true ∧ ReadsAt P (execOp a.eval o) h v ∧ (clsOf P o.op = .stat → Stat P (execOp a.eval o) v)) ∨ (want ops o a = false ∧ v = undef)

def isRead : Cls → Bool
  | .read => true
  | _ => false

def ext (P : Program) (ops : Array Oper) (j : Nat) (o : Oper) (a : Act) (v : Value) (dn : Done) : Done :=
  match want ops o a && isRead (clsOf P o.op) with
  | true => (j, v) :: dn
  | false => dn

theorem mem_ext {j : Nat} {o : Oper} {a : Act} {v : Value} {dn : Done} {p : Nat × Value} : p ∈ ext P ops j o a v dn ↔ p ∈ dn ∨ ((want ops o a && isRead (clsOf P o.op)) = true ∧ p = (j, v)) := by
  unfold ext
  cases hh : want ops o a && isRead (clsOf P o.op) with
  | true =>
    simp only [List.mem_cons]
    constructor
    · rintro (h | h)
      · exact .inr ⟨trivial, h⟩
      · exact .inl h
    · rintro (h | ⟨-, h⟩)
      · exact .inr h
      · exact .inl h
  | false => simp

theorem LexR.quiet {draw : Bool} {j : Nat} {o : Oper} (ho : ops[j]? = some o) (hc : clsOf P o.op ≠ .eff) {t : List Nat} {dn : Done} {a : Act} {h : Heap} :
    LexR P ops b draw Φ (j :: t) dn a h ↔ ∃ v, YX P ops o a h v ∧ LexR P ops b draw Φ t (ext P ops j o a v dn) (a.put o.dst v) h := by
  conv => lhs; unfold LexR
  simp only [ho]
  by_cases hw : want ops o a = true
  · rw [if_pos hw]
    cases hcl : clsOf P o.op with
    | stat =>
      simp only [YX, ext, hcl, isRead, hw, Bool.and_false]
      constructor
      · rintro ⟨v, hv, hr⟩
        exact ⟨v, .inl ⟨trivial, fun w _ => hv w, fun _ => hv⟩, hr⟩
      · rintro ⟨v, hv | hv, hr⟩
        · exact ⟨v, hv.2.2 trivial, hr⟩
        · exact absurd hv.1 (by simp)
    | read =>
      simp only [YX, ext, hcl, isRead, hw, Bool.and_true]
      constructor
      · rintro ⟨v, hv, hr⟩
        exact ⟨v, .inl ⟨trivial, hv, fun hh => by cases hh⟩, hr⟩
      · rintro ⟨v, hv | hv, hr⟩
        · exact ⟨v, hv.2.1, hr⟩
        · exact absurd hv.1 (by simp)
    | eff => exact absurd hcl hc
  · rw [if_neg hw]
    have hw' : want ops o a = false := by simpa using hw
    simp only [YX, ext, hw', Bool.false_and]
    constructor
    · intro hr
      exact ⟨undef, .inr ⟨trivial, rfl⟩, hr⟩
    · rintro ⟨v, hv | hv, hr⟩
      · exact absurd hv.1 (by simp)
      · obtain ⟨-, rfl⟩ := hv; exact hr

theorem want_put {o : Oper} {a : Act} {dst : Option Tmp} {v : Value} (h : ∀ d, dst = some d → d ∉ o.looksAt ops) : want ops o (a.put dst v) = want ops o a := wanted_put o a dst v h

theorem YX.congr {o : Oper} {a a' : Act} {h : Heap} {v : Value} (he : execOp a'.eval o = execOp a.eval o) (hw : want ops o a' = want ops o a) (hy : YX P ops o a h v) : YX P ops o a' h v := by
  unfold YX at *
  rw [he, hw]
  exact hy

theorem LexR.swap {draw : Bool} {i j : Nat} {x y : Oper} (hdraw : draw = true) (hx : ops[i]? = some x) (hy : ops[j]? = some y) (hap : x.apart ops y = true) (hsel : ∀ cs b, x.op ≠ .select cs b) (hsel' : ∀ cs b, y.op ≠ .select cs b)
    (hcx : clsOf P x.op ≠ .eff) (hb : (b.getD j 0).testBit i = false) (hself : ∀ d, x.dst = some d → d ∉ x.looksAt ops) {r : List Nat} {dn : Done} {a : Act} {h : Heap}
    (hdn : ∀ p, p ∈ dn → ∀ o, ops[p.1]? = some o → (∀ cs b, o.op ≠ .select cs b) ∧ ∀ d, x.dst = some d → d ∉ o.looksAt ops)
    (hl : LexR P ops b draw Φ (i :: j :: r) dn a h) : LexR P ops b draw Φ (j :: i :: r) dn a h := by
  obtain ⟨h1, h2, h3⟩ := Oper.apart_spec hap
  obtain ⟨v, hv, hl⟩ := (LexR.quiet hx hcx).1 hl
  have ey : execOp (a.put x.dst v).eval y = execOp a.eval y := execOp_put y hsel' a x.dst v h1
  have wy : want ops y (a.put x.dst v) = want ops y a := want_put h1
  have kx : ∀ u, execOp (a.put y.dst u).eval x = execOp a.eval x := fun u => execOp_put x hsel a y.dst u h3
  have wx : ∀ u, want ops x (a.put y.dst u) = want ops x a := fun u => want_put h3
  have hcomm : ∀ u, (a.put x.dst v).put y.dst u = (a.put y.dst u).put x.dst v := fun u => Act.put_comm a v u h2
  by_cases hcy : clsOf P y.op = .eff
  · unfold LexR at hl ⊢
    simp only [hy] at hl ⊢
    rw [wy] at hl
    by_cases hw : want ops y a = true
    · rw [if_pos hw] at hl ⊢
      simp only [hcy] at hl ⊢
      rw [ey] at hl
      refine hl.mono fun u h' ⟨hag, hrest⟩ => ⟨fun hd p v' hp hbp => ?_, ?_⟩
      · have hp' : (p, v') ∈ ext P ops i x a v dn := by
          unfold ext; split
          · exact List.mem_cons_of_mem _ hp
          · exact hp
        obtain ⟨o, ho, hr⟩ := hag hd p v' hp' hbp
        obtain ⟨hso, hno⟩ := hdn _ hp o ho
        rw [hcomm u] at hr
        rw [execOp_put o hso (a.put y.dst u) x.dst v hno] at hr
        exact ⟨o, ho, hr⟩
      · refine (LexR.quiet hx hcx).2 ⟨v, ?_, ?_⟩
        · rcases hv with ⟨hw1, hr1, hs1⟩ | ⟨hw1, hv1⟩
          · refine .inl ⟨by rw [wx]; exact hw1, ?_, fun hs => by rw [kx]; exact hs1 hs⟩
            cases hcl : clsOf P x.op with
            | stat => rw [kx]; exact fun w _ => hs1 hcl w
            | eff => exact absurd hcl hcx
            | read =>
              have hp' : (i, v) ∈ ext P ops i x a v dn := by
                unfold ext; rw [hw1, hcl]; exact List.mem_cons_self ..
              obtain ⟨o, ho, hr⟩ := hag hdraw i v hp' hb
              rw [hx] at ho
              cases ho
              rw [hcomm u, execOp_put x hsel (a.put y.dst u) x.dst v hself] at hr
              exact hr
          · exact .inr ⟨by rw [wx]; exact hw1, hv1⟩
        · rw [← hcomm u]
          have : ext P ops i x (a.put y.dst u) v dn = ext P ops i x a v dn := by unfold ext; rw [wx]
          rw [this]
          exact hrest
    · rw [if_neg hw] at hl ⊢
      refine (LexR.quiet hx hcx).2 ⟨v, hv.congr (kx _) (wx _), ?_⟩
      rw [← hcomm]
      have : ext P ops i x (a.put y.dst undef) v dn = ext P ops i x a v dn := by unfold ext; rw [wx]
      rw [this]
      exact hl
  · obtain ⟨u, hu, hl⟩ := (LexR.quiet hy hcy).1 hl
    refine (LexR.quiet hy hcy).2 ⟨u, hu.congr ey.symm wy.symm, (LexR.quiet hx hcx).2 ⟨v, hv.congr (kx _) (wx _), ?_⟩⟩
    rw [← hcomm u]
    refine LexR.fewer _ _ _ _ _ (fun p hp => ?_) hl
    have e1 : ext P ops i x (a.put y.dst u) v (ext P ops j y a u dn) = ext P ops i x a v (ext P ops j y a u dn) := by unfold ext; rw [wx]
    have e2 : ext P ops j y (a.put x.dst v) u (ext P ops i x a v dn) = ext P ops j y a u (ext P ops i x a v dn) := by unfold ext; rw [wy]
    rw [e1] at hp
    rw [e2]
    rw [mem_ext, mem_ext] at hp ⊢
    rcases hp with (hp | hp) | hp
    · exact .inl (.inl hp)
    · exact .inr hp
    · exact .inl (.inr hp)

/-- What follows an operation, changed. -/
theorem LexR.tail {draw : Bool} {j : Nat} {t t' : List Nat} (ht : ∀ dn a h, (∀ p, p ∈ dn → True) → LexR P ops b draw Φ t dn a h → LexR P ops b draw Φ t' dn a h) {dn : Done} {a : Act} {h : Heap}
    (hl : LexR P ops b draw Φ (j :: t) dn a h) : LexR P ops b draw Φ (j :: t') dn a h := by
  unfold LexR at hl ⊢
  cases ho : ops[j]? with
  | none => simp only [ho] at hl
  | some o =>
    simp only [ho] at hl ⊢
    by_cases hw : want ops o a = true
    · rw [if_pos hw] at hl ⊢
      cases hc : clsOf P o.op with
      | stat =>
        simp only [hc] at hl ⊢
        obtain ⟨v, hv, hr⟩ := hl
        exact ⟨v, hv, ht _ _ _ (fun _ _ => trivial) hr⟩
      | read =>
        simp only [hc] at hl ⊢
        obtain ⟨v, hv, hr⟩ := hl
        exact ⟨v, hv, ht _ _ _ (fun _ _ => trivial) hr⟩
      | eff =>
        simp only [hc] at hl ⊢
        exact hl.mono fun v h' ⟨h1, h2⟩ => ⟨h1, ht _ _ _ (fun _ _ => trivial) h2⟩
    · rw [if_neg hw] at hl ⊢
      exact ht _ _ _ (fun _ _ => trivial) hl


/-! ### an order for all -/

/-- of two operations, the first ahead of the second in the order that was walked: the second waits for the first, or they may change places -/
def PairOK (P : Program) (ops : Array Oper) (b : Array Nat) (i j : Nat) : Prop :=
  ∃ x y, ops[i]? = some x ∧ ops[j]? = some y ∧ i ≠ j ∧ ((b.getD j 0).testBit i = true ∧ (clsOf P x.op = .read → ∀ d, y.dst = some d → d ∉ x.looksAt ops) ∨
    (b.getD j 0).testBit i = false ∧ clsOf P x.op ≠ .eff ∧ x.apart ops y = true)

def SelfOK (ops : Array Oper) (i : Nat) : Prop := ∃ x, ops[i]? = some x ∧ ∀ d, x.dst = some d → d ∉ x.looksAt ops

theorem spares_spec {x y : Oper} (h : spares ops x y = true) : ∀ d, y.dst = some d → d ∉ x.looksAt ops := by
  intro d hd hm
  simp only [spares, hd] at h
  simp [hm] at h

theorem pairsFrom_spec : ∀ (l : List Nat), pairsFrom P ops b l = true → l.Pairwise (PairOK P ops b) ∧ ∀ i ∈ l, SelfOK ops i
  | [], _ => ⟨.nil, fun _ h => by cases h⟩
  | i :: r, h => by
    simp only [pairsFrom, Bool.and_eq_true] at h
    obtain ⟨h1, h2⟩ := h
    obtain ⟨h3, h4⟩ := pairsFrom_spec r h2
    cases hx : ops.toList[i]? with
    | none => simp only [hx] at h1; cases h1
    | some x =>
      simp only [hx, Bool.and_eq_true] at h1
      obtain ⟨h0, h1⟩ := h1
      have hx' : ops[i]? = some x := by simpa using hx
      refine ⟨List.Pairwise.cons (fun j hj => ?_) h3, fun k hk => ?_⟩
      · have hj' := List.all_eq_true.1 h1 j hj
        cases hy : ops.toList[j]? with
        | none => simp only [hy] at hj'; cases hj'
        | some y =>
          simp only [hy, Bool.and_eq_true] at hj'
          obtain ⟨hne, hp⟩ := hj'
          refine ⟨x, y, hx', by simpa using hy, fun he => ?_, ?_⟩
          · subst he; simp at hne
          · unfold pairOK at hp
            cases hb : (b.getD j 0).testBit i with
            | true =>
              simp only [hb] at hp
              refine .inl ⟨rfl, fun hr => ?_⟩
              simp only [hr] at hp
              exact spares_spec hp
            | false =>
              simp only [hb] at hp
              refine .inr ⟨rfl, ?_, ?_⟩
              · intro hr; simp only [hr] at hp; cases hp
              · cases hc : clsOf P x.op <;> simp only [hc] at hp <;> first | exact hp | cases hp
      · cases hk with
        | head => exact ⟨x, hx', spares_spec h0⟩
        | tail _ hk => exact h4 k hk

/-- what was read so far bears what is still to come -/
def DoneOK (ops : Array Oper) (dn : Done) (l : List Nat) : Prop :=
  ∀ p, p ∈ dn → ∀ o, ops[p.1]? = some o → ∀ k, k ∈ l → ∀ x, ops[k]? = some x → ∀ d, x.dst = some d → d ∉ o.looksAt ops

/-- An operation that waits for none of those ahead of it comes first. -/
theorem LexR.bubble {j : Nat} {y : Oper} (hy : ops[j]? = some y) (hs : Region.noSelect ops = true) (l2 : List Nat) : ∀ (l1 : List Nat), (∀ i ∈ l1, (b.getD j 0).testBit i = false ∧ SelfOK ops i) →
    ((l1 ++ j :: l2).Pairwise (PairOK P ops b)) → ∀ (dn : Done) (a : Act) (h : Heap), DoneOK ops dn (l1 ++ j :: l2) → LexR P ops b true Φ (l1 ++ j :: l2) dn a h → LexR P ops b true Φ (j :: (l1 ++ l2)) dn a h
  | [], _, _, _, _, _, _, hl => hl
  | i :: l1, hp, hpw, dn, a, h, hdn, hl => by
    obtain ⟨hb, x', hx'', hself⟩ := hp i (List.mem_cons_self ..)
    have hpw' := List.pairwise_cons.1 hpw
    obtain ⟨x, y', hx, hy', hne, hor⟩ := hpw'.1 j (by simp)
    rw [hy] at hy'; cases hy'
    rw [hx] at hx''; cases hx''
    rcases hor with ⟨hb', -⟩ | ⟨-, hcx, hap⟩
    · rw [hb] at hb'; cases hb'
    have h1 : LexR P ops b true Φ (i :: j :: (l1 ++ l2)) dn a h := by
      obtain ⟨v, hv, hq⟩ := (LexR.quiet hx hcx).1 hl
      refine (LexR.quiet hx hcx).2 ⟨v, hv, ?_⟩
      refine LexR.bubble hy hs l2 l1 (fun k hk => hp k (List.mem_cons_of_mem _ hk)) hpw'.2 _ _ _ ?_ hq
      intro p hpm o ho k hk z hz d hd
      rcases mem_ext.1 hpm with hpm | ⟨hread, rfl⟩
      · exact hdn p hpm o ho k (List.mem_cons_of_mem _ hk) z hz d hd
      · rw [hx] at ho; cases ho
        have hrd : clsOf P x'.op = .read := by
          simp only [Bool.and_eq_true] at hread
          cases hc : clsOf P x'.op <;> simp [hc, isRead] at hread ⊢
        obtain ⟨x1, z1, hx1, hz1, -, hor⟩ := hpw'.1 k hk
        rw [hx] at hx1; cases hx1
        rw [hz] at hz1; cases hz1
        rcases hor with ⟨-, hsp⟩ | ⟨-, -, hap'⟩
        · exact hsp hrd d hd
        · exact (Oper.apart_spec hap').2.2 d hd
    exact LexR.swap rfl hx hy hap (fun cs bb => Region.noSelect_spec hs i x' cs bb hx) (fun cs bb => Region.noSelect_spec hs j y cs bb hy) hcx hb hself (fun p hp o ho => ⟨fun cs bb => Region.noSelect_spec hs p.1 o cs bb ho, fun d hd => hdn p hp o ho i (List.mem_cons_self ..) x' hx d hd⟩) h1

/-- What the model's own step asks. -/
theorem wpOp_of_lex {Qx : Exit → Act → World → Prop} {draw : Bool} {i : Nat} {t : List Nat} {dn : Done} {a : Act} {w : World} (hl : LexR P ops b draw Φ (i :: t) dn a w.heap) :
    wpOp P ops Qx i (fun a' w' => Same w w' ∧ ∃ dn', (∀ p, p ∈ dn' → p ∈ dn ∨ ∃ o, ops[i]? = some o ∧ clsOf P o.op = .read ∧ p.1 = i) ∧ LexR P ops b draw Φ t dn' a' w'.heap) a w := by
  unfold LexR at hl
  cases ho : ops[i]? with
  | none => simp only [ho] at hl
  | some o =>
    simp only [ho] at hl
    unfold wpOp
    simp only [ho]
    by_cases hw : want ops o a = true
    · have hw' : Region.wanted o (yielded ops a.tmps) = true := hw
      rw [if_pos hw] at hl
      rw [if_pos hw']
      left
      unfold Oper.wp
      cases hc : clsOf P o.op with
      | stat =>
        simp only [hc] at hl
        obtain ⟨v, hv, hr⟩ := hl
        rw [hv w]
        exact ⟨Same.refl w, dn, fun p hp => .inl hp, hr⟩
      | read =>
        simp only [hc] at hl
        obtain ⟨v, hv, hr⟩ := hl
        rw [hv w rfl]
        refine ⟨Same.refl w, _, fun p hp => ?_, hr⟩
        cases hp with
        | head => exact .inr ⟨o, rfl, hc, rfl⟩
        | tail _ hp => exact .inl hp
      | eff =>
        simp only [hc] at hl
        have := hl w rfl
        revert this
        cases (execOp a.eval o).run P w with
        | halt x w' => exact fun hh => hh.elim
        | ok n w' =>
          cases n <;> first
            | exact fun hh => hh.elim
            | exact fun hh => ⟨hh.1, dn, fun p hp => .inl hp, hh.2.2⟩
            | skip
          rename_i f args
          intro hh
          refine Calls.mono (hh.2 w' rfl) ?_
          rintro e w'' ⟨v, rfl, hsame, h1, h2⟩
          exact ⟨hh.1.trans hsame, dn, fun p hp => .inl hp, h2⟩
    · have hw' : ¬ Region.wanted o (yielded ops a.tmps) = true := hw
      rw [if_neg hw] at hl
      rw [if_neg hw']
      exact ⟨Same.refl w, dn, fun p hp => .inl hp, hl⟩

/-- In the very order that was walked. -/
theorem wpOps_of_lex {Qx : Exit → Act → World → Prop} {draw : Bool} {w0 : World} (hQ : ∀ a w', Same w0 w' → Φ a w'.heap → Qx .normal a w') : ∀ (l : List Nat) (dn : Done) (a : Act) (w : World), Same w0 w →
    LexR P ops b draw Φ l dn a w.heap → wpOps P ops Qx l a w
  | [], _, a, w, hs, hl => hQ a w hs hl
  | i :: t, dn, a, w, hs, hl => by
    rw [wpOps_cons]
    exact wpOp_mono (fun a' w' ⟨h1, dn', _, h2⟩ => wpOps_of_lex hQ t dn' a' w' (hs.trans h1) h2) (wpOp_of_lex hl)

/-! ### what waits for what -/

theorem fold_bits (acc : Array Nat) : ∀ (l : List Edge) (s x : Nat), (l.foldl (fun s e => if Region.binds .any e then s ||| 2 ^ e.on ||| acc.getD e.on 0 else s) s).testBit x = true →
    s.testBit x = true ∨ ∃ e ∈ l, Region.binds .any e = true ∧ (e.on = x ∨ (acc.getD e.on 0).testBit x = true)
  | [], s, x, h => .inl h
  | e :: l, s, x, h => by
    simp only [List.foldl_cons] at h
    rcases fold_bits acc l _ x h with h | ⟨e', he', hb, hor⟩
    · by_cases hb : Region.binds .any e = true
      · rw [if_pos hb] at h
        simp only [Nat.testBit_or, Bool.or_eq_true, Nat.testBit_two_pow] at h
        rcases h with (h | h) | h
        · exact .inl h
        · exact .inr ⟨e, List.mem_cons_self .., hb, .inl (by simpa using h)⟩
        · exact .inr ⟨e, List.mem_cons_self .., hb, .inr h⟩
      · rw [if_neg hb] at h
        exact .inl h
    · exact .inr ⟨e', List.mem_cons_of_mem _ he', hb, hor⟩

def BSpec (ops : Array Oper) (acc : Array Nat) : Prop := ∀ (j x : Nat), (acc.getD j 0).testBit x = true → ∃ o : Oper, ops[j]? = some o ∧ ∃ e ∈ o.after, Region.binds .any e = true ∧ (e.on = x ∨ (acc.getD e.on 0).testBit x = true)

theorem before_spec (ops : Array Oper) : BSpec ops (Region.before ops) := by
  unfold Region.before
  have := Array.foldl_induction (as := ops) (motive := fun k acc => acc.size = k ∧ BSpec ops acc) (init := (#[] : Array Nat))
    (f := fun acc o => acc.push (o.after.foldl (fun s e => if Region.binds .any e then s ||| 2 ^ e.on ||| acc.getD e.on 0 else s) 0)) ?_ ?_
  · exact this.2
  · exact ⟨rfl, fun j x h => by simp at h⟩
  · rintro k acc ⟨hsz, hB⟩
    refine ⟨by simp [hsz], fun j x h => ?_⟩
    have lift : ∀ (v : Nat) m, (acc.getD m 0).testBit x = true → ((acc.push v).getD m 0).testBit x = true := by
      intro v m hm
      have hlt : m < acc.size := by
        rcases Nat.lt_or_ge m acc.size with hh | hh
        · exact hh
        · simp [Array.getElem?_eq_none hh] at hm
      have : (acc.push v)[m]? = acc[m]? := by rw [Array.getElem?_push, if_neg (by omega)]
      simp only [Array.getD_eq_getD_getElem?, this] at hm ⊢
      exact hm
    rcases Nat.lt_trichotomy j acc.size with hj | hj | hj
    · have hold : (acc.getD j 0).testBit x = true := by
        simp only [Array.getD_eq_getD_getElem?] at h ⊢
        rwa [Array.getElem?_push, if_neg (by omega)] at h
      obtain ⟨o, ho, e, he, hb, hor⟩ := hB j x hold
      exact ⟨o, ho, e, he, hb, hor.imp id (lift _ _)⟩
    · subst hj
      have hk : ops[acc.size]? = some ops[k] := by rw [hsz]; exact Array.getElem?_eq_getElem k.2
      refine ⟨_, hk, ?_⟩
      simp only [Array.getD_eq_getD_getElem?, Array.getElem?_push, if_true, Option.getD_some] at h
      rw [← Array.foldl_toList] at h
      rcases fold_bits acc _ 0 x (by simpa only [Array.getD_eq_getD_getElem?] using h) with h0 | ⟨e, he, hb, hor⟩
      · simp at h0
      · exact ⟨e, by simpa using he, hb, hor.imp id (lift _ _)⟩
    · simp only [Array.getD_eq_getD_getElem?] at h
      rw [Array.getElem?_eq_none (by simp; omega)] at h
      simp at h

theorem backOK_spec (h : backOK ops = true) : (∀ (j : Nat) (o : Oper), ops[j]? = some o → ∀ e ∈ o.after, Region.binds .any e = true → e.on < j) ∧ Region.noSelect ops = true := by
  unfold backOK at h
  rw [List.all_eq_true] at h
  have key : ∀ (j : Nat) (o : Oper), ops[j]? = some o → (o.after.toList.all (fun e => !(Region.binds .any e) || Nat.blt e.on j) && !(match o.op with | .select .. => true | _ => false)) = true := by
    intro j o ho
    refine h (o, j) ?_
    rw [List.mem_zipIdx_iff_getElem?]
    simpa using ho
  refine ⟨fun j o ho e he hb => ?_, ?_⟩
  · have := key j o ho
    simp only [Bool.and_eq_true, List.all_eq_true] at this
    have h1 := this.1 e (by simpa using he)
    rw [hb] at h1
    exact Nat.blt_eq.mp (by simpa using h1)
  · unfold Region.noSelect
    rw [Array.all_eq_true_iff_forall_mem]
    intro o ho
    obtain ⟨j, hj, rfl⟩ := Array.mem_iff_getElem.1 ho
    have := key j ops[j] (Array.getElem?_eq_getElem hj)
    simp only [Bool.and_eq_true] at this
    have h2 := this.2
    cases hop : ops[j].op <;> simp [hop] at h2 ⊢

/-! ### in whatever order the model draws -/

theorem wpAny_of_lex {Qx : Exit → Act → World → Prop} {w0 : World} (hQ : ∀ a w', Same w0 w' → Φ a w'.heap → Qx .normal a w') (hB : BSpec ops b)
    (hback : ∀ (j : Nat) (o : Oper), ops[j]? = some o → ∀ e ∈ o.after, Region.binds .any e = true → e.on < j) (hns : Region.noSelect ops = true) :
    ∀ (n : Nat) (l : List Nat) (listed : Array Bool) (dn : Done) (a : Act) (w : World), l.length = n → Same w0 w → l.Pairwise (PairOK P ops b) → (∀ i ∈ l, SelfOK ops i) → DoneOK ops dn l →
      listed.size = ops.size → (∀ i, i ∈ l ↔ listed[i]? = some false) → (∀ m, listed[m]? = some true → ∀ x, (b.getD m 0).testBit x = true → listed[x]? = some true) →
      LexR P ops b true Φ l dn a w.heap → wpAny P .any ops Qx n listed a w := by
  intro n
  induction n with
  | zero =>
    intro l listed dn a w hn hs hpw hself hdn hsz hmem hcl hl
    have : l = [] := List.length_eq_zero_iff.1 hn
    subst this
    refine ⟨?_, hQ a w hs hl⟩
    rw [List.eq_nil_iff_forall_not_mem]
    intro i hi
    obtain ⟨h0, o, ho, _⟩ := mem_ready.1 hi
    have hlt : i < listed.size := by rw [hsz]; exact (Array.getElem?_eq_some_iff.1 ho).1
    have : listed[i]? = some false := by
      rw [Array.getElem?_eq_getElem hlt]
      simp only [Array.getD_eq_getD_getElem?, Array.getElem?_eq_getElem hlt, Option.getD_some] at h0
      rw [h0]
    exact absurd ((hmem i).2 this) (by simp)
  | succ n ih =>
    intro l listed dn a w hn hs hpw hself hdn hsz hmem hcl hl
    have rdy : ∀ i, i ∈ Region.ready .any ops listed → i ∈ l ∧ ∀ x, x ∈ l → (b.getD i 0).testBit x = false := by
      intro i hi
      obtain ⟨h0, o, ho, hall⟩ := mem_ready.1 hi
      have hlt : i < listed.size := by rw [hsz]; exact (Array.getElem?_eq_some_iff.1 ho).1
      have hf : listed[i]? = some false := by
        rw [Array.getElem?_eq_getElem hlt]
        simp only [Array.getD_eq_getD_getElem?, Array.getElem?_eq_getElem hlt, Option.getD_some] at h0
        rw [h0]
      refine ⟨(hmem i).2 hf, fun x hx => ?_⟩
      cases hb : (b.getD i 0).testBit x with
      | false => rfl
      | true =>
        exfalso
        obtain ⟨o', ho', e, he, hbd, hor⟩ := hB i x hb
        rw [ho] at ho'; cases ho'
        have hon := hall e he hbd
        have hon' : listed[e.on]? = some true := by
          simp only [Array.getD_eq_getD_getElem?] at hon
          cases hh : listed[e.on]? with
          | none => rw [hh] at hon; cases hon
          | some z => rw [hh] at hon; simp at hon; rw [hon]
        have hxt : listed[x]? = some true := by
          rcases hor with rfl | hor
          · exact hon'
          · exact hcl e.on hon' x hor
        rw [(hmem x).1 hx] at hxt
        cases hxt
    refine ⟨fun hnil => ?_, fun i hi => ?_⟩
    · -- the least that is left may come
      exfalso
      have hne : l ≠ [] := by intro h0; rw [h0] at hn; simp at hn
      obtain ⟨m, hm, hmin⟩ : ∃ m, m ∈ l ∧ ∀ x, x ∈ l → m ≤ x := by
        have hsome : ∃ m, m ∈ l := by cases l with
          | nil => exact absurd rfl hne
          | cons m t => exact ⟨m, List.mem_cons_self ..⟩
        obtain ⟨m, hm⟩ := hsome
        exact ⟨l.min hne, List.min_mem hne, fun x hx => List.min_le_of_mem hx⟩
      have hf := (hmem m).1 hm
      have hlt : m < listed.size := (Array.getElem?_eq_some_iff.1 hf).1
      have hmo : m < ops.size := by rw [← hsz]; exact hlt
      have : m ∈ Region.ready .any ops listed := by
        rw [mem_ready]
        refine ⟨by simp [Array.getD_eq_getD_getElem?, hf], ops[m], Array.getElem?_eq_getElem hmo, fun e he hbd => ?_⟩
        have hlt' := hback m ops[m] (Array.getElem?_eq_getElem hmo) e he hbd
        have hel : e.on < listed.size := by omega
        cases hh : listed[e.on]? with
        | none => rw [Array.getElem?_eq_getElem hel] at hh; cases hh
        | some z =>
          cases z with
          | true => simp [Array.getD_eq_getD_getElem?, hh]
          | false => have := hmin _ ((hmem e.on).2 hh); omega
      rw [hnil] at this
      cases this
    · obtain ⟨hil, hnb⟩ := rdy i hi
      obtain ⟨l1, l2, rfl⟩ := List.append_of_mem hil
      have hf := (hmem i).1 hil
      have hlt : i < listed.size := (Array.getElem?_eq_some_iff.1 hf).1
      have hio : i < ops.size := by rw [← hsz]; exact hlt
      have hoi : ops[i]? = some ops[i] := Array.getElem?_eq_getElem hio
      have hbub := LexR.bubble hoi hns l2 l1 (fun k hk => ⟨hnb k (List.mem_append_left _ hk), hself k (List.mem_append_left _ hk)⟩) hpw dn a w.heap hdn hl
      refine wpOp_mono ?_ (wpOp_of_lex hbub)
      rintro a' w' ⟨hsame, dn', hdn', hl'⟩
      have hnd : (l1 ++ i :: l2).Nodup := hpw.imp (fun ⟨_, _, _, _, hne, _⟩ => hne)
      have hpw2 : (l1 ++ l2).Pairwise (PairOK P ops b) := hpw.sublist (List.Sublist.append (List.Sublist.refl l1) (List.sublist_cons_self i l2))
      refine ih (l1 ++ l2) (listed.setIfInBounds i true) dn' a' w' (by simp at hn ⊢; omega) (hs.trans hsame) hpw2 (fun k hk => hself k ?_) ?_ (by simp [hsz]) ?_ ?_ hl'
      · rcases List.mem_append.1 hk with hk | hk
        · exact List.mem_append_left _ hk
        · exact List.mem_append_right _ (List.mem_cons_of_mem _ hk)
      · intro p hp o ho k hk z hz d hd
        have hk' : k ∈ l1 ++ i :: l2 := by
          rcases List.mem_append.1 hk with hk | hk
          · exact List.mem_append_left _ hk
          · exact List.mem_append_right _ (List.mem_cons_of_mem _ hk)
        rcases hdn' p hp with hp | ⟨o', ho', hrd, hpi⟩
        · exact hdn p hp o ho k hk' z hz d hd
        · rw [hpi] at ho
          rw [ho] at ho'; cases ho'
          -- i was read, k is still to come
          rcases List.mem_append.1 hk with hk | hk
          · -- k stood ahead of i
            obtain ⟨x1, y1, hx1, hy1, -, hor⟩ := (List.pairwise_append.1 hpw).2.2 k hk i (List.mem_cons_self ..)
            rw [hz] at hx1; cases hx1
            rw [ho] at hy1; cases hy1
            rcases hor with ⟨hb, -⟩ | ⟨-, -, hap⟩
            · rw [hnb k (List.mem_append_left _ hk)] at hb; cases hb
            · exact (Oper.apart_spec hap).1 d hd
          · obtain ⟨x1, y1, hx1, hy1, -, hor⟩ := (List.pairwise_cons.1 (List.pairwise_append.1 hpw).2.1).1 k hk
            rw [ho] at hx1; cases hx1
            rw [hz] at hy1; cases hy1
            rcases hor with ⟨-, hsp⟩ | ⟨-, -, hap⟩
            · exact hsp hrd d hd
            · exact (Oper.apart_spec hap).2.2 d hd
      · intro k
        rw [Array.getElem?_setIfInBounds]
        by_cases hki : i = k
        · subst hki
          simp only [if_true, hlt]
          constructor
          · intro hk
            exfalso
            rw [List.nodup_append] at hnd
            rcases List.mem_append.1 hk with hk | hk
            · exact hnd.2.2 i hk i (List.mem_cons_self ..) rfl
            · exact (List.nodup_cons.1 hnd.2.1).1 hk
          · intro hh; cases hh
        · rw [if_neg hki, ← hmem k]
          simp only [List.mem_append, List.mem_cons]
          constructor
          · rintro (h1 | h1)
            · exact .inl h1
            · exact .inr (.inr h1)
          · rintro (h1 | h1 | h1)
            · exact .inl h1
            · exact absurd h1.symm hki
            · exact .inr h1
      · intro m hm x hx
        rw [Array.getElem?_setIfInBounds] at hm ⊢
        by_cases hix : i = x
        · subst hix; simp [hlt]
        · rw [if_neg hix]
          by_cases him : i = m
          · subst him
            obtain ⟨h0, o, ho, hall⟩ := mem_ready.1 hi
            obtain ⟨o', ho', e, he, hbd, hor⟩ := hB i x hx
            rw [ho] at ho'; cases ho'
            have hon := hall e he hbd
            have hon' : listed[e.on]? = some true := by
              simp only [Array.getD_eq_getD_getElem?] at hon
              cases hh : listed[e.on]? with
              | none => rw [hh] at hon; cases hon
              | some z => rw [hh] at hon; simp at hon; rw [hon]
            rcases hor with rfl | hor
            · exact hon'
            · exact hcl e.on hon' x hor
          · rw [if_neg him] at hm
            exact hcl m hm x hx

end
end Go.H
