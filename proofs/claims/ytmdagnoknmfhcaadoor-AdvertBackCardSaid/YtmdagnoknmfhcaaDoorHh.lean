/-
  Hh: regions: one order stands for all.
-/
import Derived.Test.YtmdagnoknmfhcaaDoorHg
namespace Go.H
set_option linter.unusedSimpArgs false
set_option linter.unusedVariables false

section
variable {P : Program} {ops : Array Oper} {b : Array Nat} {Φ : Act → Heap → Prop}

theorem Does.mono {s : Sem Next} {h : Heap} {Ψ Ψ' : Value → Heap → Prop} (hd : Does P s h Ψ) (hp : ∀ v h', Ψ v h' → Ψ' v h') : Does P s h Ψ' := by
  intro w hw
  have := hd w hw
  revert this
  cases s.run P w with
  | halt x w' => exact id
  | ok n w' =>
    cases n <;> first
      | exact fun hh => ⟨hh.1, hp _ _ hh.2⟩
      | exact fun hh => ⟨hh.1, HCalls.mono hh.2 hp⟩
      | exact id

def want (ops : Array Oper) (o : Oper) (a : Act) : Bool := Region.wanted o (yielded ops a.tmps)

def AgainAt (P : Program) (ops : Array Oper) (i : Nat) (v : Value) (a : Act) (h : Heap) : Prop := ∃ o, ops[i]? = some o ∧ ReadsAt P (execOp a.eval o) h v

/-- one operation; 'K': what is asked behind it -/
def StepR (P : Program) (ops : Array Oper) (b : Array Nat) (draw : Bool) (K : Done → Act → Heap → Prop) (j : Nat) (dn : Done) (a : Act) (h : Heap) : Prop :=
  match ops[j]? with
    | none => False
    | some o => if want ops o a = true then
        match clsOf P o.op with
        | .stat => ∃ v, Stat P (execOp a.eval o) v ∧ K dn (a.put o.dst v) h
        | .read => ∃ v, ReadsAt P (execOp a.eval o) h v ∧ K ((j, v) :: dn) (a.put o.dst v) h
        | .eff => Does P (execOp a.eval o) h fun v h' => (draw = true → ∀ i v', (i, v') ∈ dn → (b.getD j 0).testBit i = false → AgainAt P ops i v' (a.put o.dst v) h') ∧ K dn (a.put o.dst v) h'
      else K dn (a.put o.dst undef) h

/-- what asks nothing more where less was read -/
def Anti (K : Done → Act → Heap → Prop) : Prop := ∀ (dn dn' : Done) (a : Act) (h : Heap), (∀ p, p ∈ dn' → p ∈ dn) → K dn a h → K dn' a h

theorem StepR.imp {K K' : Done → Act → Heap → Prop} {draw : Bool} {j : Nat} {dn : Done} {a : Act} {h : Heap} (hi : ∀ dn a h, K dn a h → K' dn a h) (hl : StepR P ops b draw K j dn a h) : StepR P ops b draw K' j dn a h := by
  unfold StepR at hl ⊢
  cases ho : ops[j]? with
  | none => simp only [ho] at hl
  | some o =>
    simp only [ho] at hl ⊢
    by_cases hw : want ops o a = true
    · rw [if_pos hw] at hl ⊢
      cases hc : clsOf P o.op with
      | stat =>
        simp only [hc] at hl ⊢
        obtain ⟨v, hv, hr⟩ := hl
        exact ⟨v, hv, hi _ _ _ hr⟩
      | read =>
        simp only [hc] at hl ⊢
        obtain ⟨v, hv, hr⟩ := hl
        exact ⟨v, hv, hi _ _ _ hr⟩
      | eff =>
        simp only [hc] at hl ⊢
        exact hl.mono fun v h' ⟨h1, h2⟩ => ⟨h1, hi _ _ _ h2⟩
    · rw [if_neg hw] at hl ⊢
      exact hi _ _ _ hl

theorem StepR.anti {K : Done → Act → Heap → Prop} {draw : Bool} {j : Nat} (hK : Anti K) : Anti (StepR P ops b draw K j) := by
  intro dn dn' a h hs hl
  unfold StepR at hl ⊢
  cases ho : ops[j]? with
  | none => simp only [ho] at hl
  | some o =>
    simp only [ho] at hl ⊢
    by_cases hw : want ops o a = true
    · rw [if_pos hw] at hl ⊢
      cases hc : clsOf P o.op with
      | stat =>
        simp only [hc] at hl ⊢
        obtain ⟨v, hv, hr⟩ := hl
        exact ⟨v, hv, hK _ _ _ _ hs hr⟩
      | read =>
        simp only [hc] at hl ⊢
        obtain ⟨v, hv, hr⟩ := hl
        refine ⟨v, hv, hK _ _ _ _ (fun p hp => ?_) hr⟩
        cases hp with
        | head => exact List.mem_cons_self ..
        | tail _ hp => exact List.mem_cons_of_mem _ (hs p hp)
      | eff =>
        simp only [hc] at hl ⊢
        exact hl.mono fun v h' ⟨h1, h2⟩ => ⟨fun hd i v' hi => h1 hd i v' (hs _ hi), hK _ _ _ _ hs h2⟩
    · rw [if_neg hw] at hl ⊢
      exact hK _ _ _ _ hs hl

/-- THE OPERATIONS of a region in these orders -/
def LexT (P : Program) (ops : Array Oper) (b : Array Nat) (draw : Bool) (Φ : Act → Heap → Prop) : OTree → Done → Act → Heap → Prop
  | .done, _, a, h => Φ a h
  | .q j t, dn, a, h => StepR P ops b draw (LexT P ops b draw Φ t) j dn a h
  | .br js f, dn, a, h => ∀ j, j ∈ js → StepR P ops b draw (LexT P ops b draw Φ (f j)) j dn a h

theorem LexT.anti {draw : Bool} : ∀ (t : OTree), Anti (LexT P ops b draw Φ t)
  | .done => fun _ _ _ _ _ hl => hl
  | .q j t => StepR.anti (LexT.anti t)
  | .br js f => fun dn dn' a h hs hl j hj => StepR.anti (LexT.anti (f j)) dn dn' a h hs (hl j hj)

theorem LexT.imp {Φ' : Act → Heap → Prop} {draw : Bool} (hi : ∀ a h, Φ a h → Φ' a h) : ∀ (t : OTree) (dn : Done) (a : Act) (h : Heap), LexT P ops b draw Φ t dn a h → LexT P ops b draw Φ' t dn a h
  | .done, _, _, _, hl => hi _ _ hl
  | .q j t, dn, a, h, hl => StepR.imp (LexT.imp hi t) hl
  | .br js f, dn, a, h, hl => fun j hj => StepR.imp (LexT.imp hi (f j)) (hl j hj)

/-- what an operation that doesn't act yields -/
def YX (P : Program) (ops : Array Oper) (o : Oper) (a : Act) (h : Heap) (v : Value) : Prop :=
  (want ops o a = true ∧ ReadsAt P (execOp a.eval o) h v ∧ (clsOf P o.op = .stat → Stat P (execOp a.eval o) v)) ∨ (want ops o a = false ∧ v = undef)

def isRead : Cls → Bool
  | .read => true
  | _ => false

def ext (P : Program) (ops : Array Oper) (j : Nat) (o : Oper) (a : Act) (v : Value) (dn : Done) : Done :=
  match want ops o a && isRead (clsOf P o.op) with
  | true => (j, v) :: dn
  | false => dn

theorem mem_ext {j : Nat} {o : Oper} {a : Act} {v : Value} {dn : Done} {p : Nat × Value} : p ∈ ext P ops j o a v dn ↔ p ∈ dn ∨ ((want ops o a && isRead (clsOf P o.op)) = true ∧ p = (j, v)) := by
  unfold ext
  cases hh : want ops o a && isRead (clsOf P o.op) with
  | true =>
    simp only [List.mem_cons]
    constructor
    · rintro (h | h)
      · exact .inr ⟨trivial, h⟩
      · exact .inl h
    · rintro (h | ⟨-, h⟩)
      · exact .inr h
      · exact .inl h
  | false => simp

theorem StepR.quiet {K : Done → Act → Heap → Prop} {draw : Bool} {j : Nat} {o : Oper} (ho : ops[j]? = some o) (hc : clsOf P o.op ≠ .eff) {dn : Done} {a : Act} {h : Heap} :
    StepR P ops b draw K j dn a h ↔ ∃ v, YX P ops o a h v ∧ K (ext P ops j o a v dn) (a.put o.dst v) h := by
  conv => lhs; unfold StepR
  simp only [ho]
  by_cases hw : want ops o a = true
  · rw [if_pos hw]
    cases hcl : clsOf P o.op with
    | stat =>
      simp only [YX, ext, hcl, isRead, hw, Bool.and_false]
      constructor
      · rintro ⟨v, hv, hr⟩
        exact ⟨v, .inl ⟨trivial, fun w _ => hv w, fun _ => hv⟩, hr⟩
      · rintro ⟨v, hv | hv, hr⟩
        · exact ⟨v, hv.2.2 trivial, hr⟩
        · exact absurd hv.1 (by simp)
    | read =>
      simp only [YX, ext, hcl, isRead, hw, Bool.and_true]
      constructor
      · rintro ⟨v, hv, hr⟩
        exact ⟨v, .inl ⟨trivial, hv, fun hh => by cases hh⟩, hr⟩
      · rintro ⟨v, hv | hv, hr⟩
        · exact ⟨v, hv.2.1, hr⟩
        · exact absurd hv.1 (by simp)
    | eff => exact absurd hcl hc
  · rw [if_neg hw]
    have hw' : want ops o a = false := by simpa using hw
    simp only [YX, ext, hw', Bool.false_and]
    constructor
    · intro hr
      exact ⟨undef, .inr ⟨trivial, rfl⟩, hr⟩
    · rintro ⟨v, hv | hv, hr⟩
      · exact absurd hv.1 (by simp)
      · obtain ⟨-, rfl⟩ := hv; exact hr

theorem want_put {o : Oper} {a : Act} {dst : Option Tmp} {v : Value} (h : ∀ d, dst = some d → d ∉ o.looksAt ops) : want ops o (a.put dst v) = want ops o a := wanted_put o a dst v h

theorem YX.congr {o : Oper} {a a' : Act} {h : Heap} {v : Value} (he : execOp a'.eval o = execOp a.eval o) (hw : want ops o a' = want ops o a) (hy : YX P ops o a h v) : YX P ops o a' h v := by
  unfold YX at *
  rw [he, hw]
  exact hy

theorem StepR.swap {K : Done → Act → Heap → Prop} (hK : Anti K) {draw : Bool} {i j : Nat} {x y : Oper} (hdraw : draw = true) (hx : ops[i]? = some x) (hy : ops[j]? = some y) (hap : x.apart ops y = true) (hsel : ∀ cs b, x.op ≠ .select cs b) (hsel' : ∀ cs b, y.op ≠ .select cs b)
    (hcx : clsOf P x.op ≠ .eff) (hb : (b.getD j 0).testBit i = false) (hself : ∀ d, x.dst = some d → d ∉ x.looksAt ops) {dn : Done} {a : Act} {h : Heap}
    (hdn : ∀ p, p ∈ dn → ∀ o, ops[p.1]? = some o → (∀ cs b, o.op ≠ .select cs b) ∧ ∀ d, x.dst = some d → d ∉ o.looksAt ops)
    (hl : StepR P ops b draw (StepR P ops b draw K j) i dn a h) : StepR P ops b draw (StepR P ops b draw K i) j dn a h := by
  obtain ⟨h1, h2, h3⟩ := Oper.apart_spec hap
  obtain ⟨v, hv, hl⟩ := (StepR.quiet hx hcx).1 hl
  have ey : execOp (a.put x.dst v).eval y = execOp a.eval y := execOp_put y hsel' a x.dst v h1
  have wy : want ops y (a.put x.dst v) = want ops y a := want_put h1
  have kx : ∀ u, execOp (a.put y.dst u).eval x = execOp a.eval x := fun u => execOp_put x hsel a y.dst u h3
  have wx : ∀ u, want ops x (a.put y.dst u) = want ops x a := fun u => want_put h3
  have hcomm : ∀ u, (a.put x.dst v).put y.dst u = (a.put y.dst u).put x.dst v := fun u => Act.put_comm a v u h2
  by_cases hcy : clsOf P y.op = .eff
  · unfold StepR at hl ⊢
    simp only [hy] at hl ⊢
    rw [wy] at hl
    by_cases hw : want ops y a = true
    · rw [if_pos hw] at hl ⊢
      simp only [hcy] at hl ⊢
      rw [ey] at hl
      refine hl.mono fun u h' ⟨hag, hrest⟩ => ⟨fun hd p v' hp hbp => ?_, ?_⟩
      · have hp' : (p, v') ∈ ext P ops i x a v dn := by
          unfold ext; split
          · exact List.mem_cons_of_mem _ hp
          · exact hp
        obtain ⟨o, ho, hr⟩ := hag hd p v' hp' hbp
        obtain ⟨hso, hno⟩ := hdn _ hp o ho
        rw [hcomm u] at hr
        rw [execOp_put o hso (a.put y.dst u) x.dst v hno] at hr
        exact ⟨o, ho, hr⟩
      · refine (StepR.quiet hx hcx).2 ⟨v, ?_, ?_⟩
        · rcases hv with ⟨hw1, hr1, hs1⟩ | ⟨hw1, hv1⟩
          · refine .inl ⟨by rw [wx]; exact hw1, ?_, fun hs => by rw [kx]; exact hs1 hs⟩
            cases hcl : clsOf P x.op with
            | stat => rw [kx]; exact fun w _ => hs1 hcl w
            | eff => exact absurd hcl hcx
            | read =>
              have hp' : (i, v) ∈ ext P ops i x a v dn := by
                unfold ext; rw [hw1, hcl]; exact List.mem_cons_self ..
              obtain ⟨o, ho, hr⟩ := hag hdraw i v hp' hb
              rw [hx] at ho
              cases ho
              rw [hcomm u, execOp_put x hsel (a.put y.dst u) x.dst v hself] at hr
              exact hr
          · exact .inr ⟨by rw [wx]; exact hw1, hv1⟩
        · rw [← hcomm u]
          have : ext P ops i x (a.put y.dst u) v dn = ext P ops i x a v dn := by unfold ext; rw [wx]
          rw [this]
          exact hrest
    · rw [if_neg hw] at hl ⊢
      refine (StepR.quiet hx hcx).2 ⟨v, hv.congr (kx _) (wx _), ?_⟩
      rw [← hcomm]
      have : ext P ops i x (a.put y.dst undef) v dn = ext P ops i x a v dn := by unfold ext; rw [wx]
      rw [this]
      exact hl
  · obtain ⟨u, hu, hl⟩ := (StepR.quiet hy hcy).1 hl
    refine (StepR.quiet hy hcy).2 ⟨u, hu.congr ey.symm wy.symm, (StepR.quiet hx hcx).2 ⟨v, hv.congr (kx _) (wx _), ?_⟩⟩
    rw [← hcomm u]
    refine hK _ _ _ _ (fun p hp => ?_) hl
    have e1 : ext P ops i x (a.put y.dst u) v (ext P ops j y a u dn) = ext P ops i x a v (ext P ops j y a u dn) := by unfold ext; rw [wx]
    have e2 : ext P ops j y (a.put x.dst v) u (ext P ops i x a v dn) = ext P ops j y a u (ext P ops i x a v dn) := by unfold ext; rw [wy]
    rw [e1] at hp
    rw [e2]
    rw [mem_ext, mem_ext] at hp ⊢
    rcases hp with (hp | hp) | hp
    · exact .inl (.inl hp)
    · exact .inr hp
    · exact .inl (.inr hp)

/-! ### an order for all -/

/-- of two operations, the first ahead of the second in the order that was walked: the second waits for the first, or they may change places -/
def PairOK (P : Program) (ops : Array Oper) (b : Array Nat) (i j : Nat) : Prop :=
  ∃ x y, ops[i]? = some x ∧ ops[j]? = some y ∧ i ≠ j ∧ ((b.getD j 0).testBit i = true ∧ (clsOf P x.op = .read → ∀ d, y.dst = some d → d ∉ x.looksAt ops) ∨
    (b.getD j 0).testBit i = false ∧ clsOf P x.op ≠ .eff ∧ x.apart ops y = true)

def SelfOK (ops : Array Oper) (i : Nat) : Prop := ∃ x, ops[i]? = some x ∧ ∀ d, x.dst = some d → d ∉ x.looksAt ops

theorem spares_spec {x y : Oper} (h : spares ops x y = true) : ∀ d, y.dst = some d → d ∉ x.looksAt ops := by
  intro d hd hm
  simp only [spares, hd] at h
  simp [hm] at h

theorem memN_spec : ∀ {l : List Nat} {n : Nat}, memN n l = true → n ∈ l
  | t :: l, n, h => by
    simp only [memN] at h
    cases hb : Nat.beq t n with
    | true => rw [Nat.eq_of_beq_eq_true hb]; exact List.mem_cons_self ..
    | false => simp only [hb] at h; exact List.mem_cons_of_mem _ (memN_spec h)

theorem mem_dropN {j : Nat} : ∀ {l : List Nat} {i : Nat}, i ∈ dropN j l ↔ i ∈ l ∧ i ≠ j
  | [], i => by simp [dropN]
  | x :: l, i => by
    simp only [dropN]
    cases hb : Nat.beq x j with
    | true =>
      have hx := Nat.eq_of_beq_eq_true hb
      subst hx
      simp only [mem_dropN (l := l), List.mem_cons]
      constructor
      · rintro ⟨h1, h2⟩; exact ⟨.inr h1, h2⟩
      · rintro ⟨h1 | h1, h2⟩
        · exact absurd h1 h2
        · exact ⟨h1, h2⟩
    | false =>
      have hx : x ≠ j := Nat.ne_of_beq_eq_false hb
      simp only [List.mem_cons, mem_dropN (l := l)]
      constructor
      · rintro (h1 | ⟨h1, h2⟩)
        · subst h1; exact ⟨.inl rfl, hx⟩
        · exact ⟨.inr h1, h2⟩
      · rintro ⟨h1 | h1, h2⟩
        · exact .inl h1
        · exact .inr ⟨h1, h2⟩
theorem dropN_nodup {j : Nat} : ∀ {l : List Nat}, l.Nodup → (dropN j l).Nodup
  | [], h => h
  | x :: l, h => by
    rw [List.nodup_cons] at h
    simp only [dropN]
    cases hb : Nat.beq x j with
    | true => exact dropN_nodup h.2
    | false => rw [List.nodup_cons]; exact ⟨fun hm => h.1 (mem_dropN.1 hm).1, dropN_nodup h.2⟩
theorem dropN_none {j : Nat} : ∀ {l : List Nat}, j ∉ l → dropN j l = l
  | [], _ => rfl
  | x :: l, h => by
    simp only [List.mem_cons, not_or] at h
    simp only [dropN]
    cases hb : Nat.beq x j with
    | true => exact absurd (Nat.eq_of_beq_eq_true hb).symm h.1
    | false => rw [dropN_none h.2]
theorem dropN_length {j : Nat} : ∀ {l : List Nat}, l.Nodup → j ∈ l → (dropN j l).length + 1 = l.length
  | x :: l, h, hm => by
    rw [List.nodup_cons] at h
    simp only [dropN]
    cases hb : Nat.beq x j with
    | true =>
      have hx := Nat.eq_of_beq_eq_true hb
      subst hx
      rw [dropN_none h.1]
      rfl
    | false =>
      have hx : x ≠ j := Nat.ne_of_beq_eq_false hb
      rcases List.mem_cons.1 hm with e | hm
      · exact absurd e.symm hx
      · simp only [List.length_cons, dropN_length h.2 hm]

/-- THE ORDERS STAND FOR ALL. 'R': what is left -/
def GoodT (P : Program) (ops : Array Oper) (b : Array Nat) : OTree → List Nat → Prop
  | .done, R => R = []
  | .q j t, R => (∃ x, ops[j]? = some x ∧ clsOf P x.op ≠ .eff ∧ ∀ d, x.dst = some d → d ∉ x.looksAt ops) ∧ j ∈ R ∧ (∀ i ∈ dropN j R, PairOK P ops b j i) ∧ GoodT P ops b t (dropN j R)
  | .br js f, R => js ≠ [] ∧ (∀ j ∈ js, j ∈ R ∧ (∃ x, ops[j]? = some x ∧ clsOf P x.op = .eff) ∧ GoodT P ops b (f j) (dropN j R)) ∧ ∀ i ∈ R, i ∈ js ∨ ∃ x ∈ R, (b.getD i 0).testBit x = true

theorem isEffAt_spec {j : Nat} {x : Oper} (hx : ops[j]? = some x) : isEffAt P ops j = true ↔ clsOf P x.op = .eff := by
  have hx' : ops.toList[j]? = some x := by simpa using hx
  unfold isEffAt
  simp only [hx']
  cases clsOf P x.op <;> simp

theorem goodT_spec : ∀ (t : OTree) (R : List Nat), goodT P ops b t R = true → GoodT P ops b t R
  | .done, R, h => by simpa [goodT, GoodT] using h
  | .q j t, R, h => by
    simp only [goodT, Bool.and_eq_true] at h
    obtain ⟨h1, h2⟩ := h
    cases hx : ops.toList[j]? with
    | none => simp only [hx] at h1; cases h1
    | some x =>
      have hx' : ops[j]? = some x := by simpa using hx
      simp only [hx, Bool.and_eq_true] at h1
      obtain ⟨⟨⟨h3, h4⟩, h5⟩, h6⟩ := h1
      refine ⟨⟨x, hx', fun hc => ?_, spares_spec h5⟩, memN_spec h3, fun i hi => ?_, goodT_spec t _ h2⟩
      · rw [(isEffAt_spec hx').2 hc] at h4; cases h4
      · have h7 := List.all_eq_true.1 h6 i hi
        cases hy : ops.toList[i]? with
        | none => simp only [hy] at h7; cases h7
        | some y =>
          simp only [hy] at h7
          refine ⟨x, y, hx', by simpa using hy, fun he => (mem_dropN.1 hi).2 he.symm, ?_⟩
          unfold pairOK at h7
          cases hb : (b.getD i 0).testBit j with
          | true =>
            simp only [hb] at h7
            refine .inl ⟨rfl, fun hr => ?_⟩
            simp only [hr] at h7
            exact spares_spec h7
          | false =>
            simp only [hb] at h7
            refine .inr ⟨rfl, ?_, ?_⟩
            · intro hr; simp only [hr] at h7; cases h7
            · cases hc : clsOf P x.op <;> simp only [hc] at h7 <;> first | exact h7 | cases h7
  | .br js f, R, h => by
    simp only [goodT, Bool.and_eq_true, List.all_eq_true] at h
    refine ⟨fun e => ?_, fun j hj => ?_, fun i hi => ?_⟩
    · have := h.1.1; rw [e] at this; cases this
    · obtain ⟨⟨h1, h2⟩, h3⟩ := h.1.2 j hj
      refine ⟨memN_spec h1, ?_, goodT_spec (f j) _ h3⟩
      cases hx : ops.toList[j]? with
      | none => simp [isEffAt, hx] at h2
      | some x => exact ⟨x, by simpa using hx, (isEffAt_spec (by simpa using hx)).1 h2⟩
    · have := h.2 i hi
      rw [Bool.or_eq_true] at this
      rcases this with h1 | h1
      · exact .inl (memN_spec h1)
      · obtain ⟨x, hx, hb⟩ := List.any_eq_true.1 h1
        exact .inr ⟨x, hx, hb⟩

/-- what was read so far bears what is still to come -/
def DoneOK (ops : Array Oper) (dn : Done) (l : List Nat) : Prop :=
  ∀ p, p ∈ dn → ∀ o, ops[p.1]? = some o → ∀ k, k ∈ l → ∀ x, ops[k]? = some x → ∀ d, x.dst = some d → d ∉ o.looksAt ops

/-- An operation that waits for none of those that are left may come first. -/
theorem LexT.pull (hs : Region.noSelect ops = true) {i : Nat} : ∀ (t : OTree) (R : List Nat), GoodT P ops b t R → i ∈ R → (∀ x ∈ R, (b.getD i 0).testBit x = false) →
    ∃ t' o, GoodT P ops b t' (dropN i R) ∧ ops[i]? = some o ∧ (clsOf P o.op = .read → ∀ k ∈ dropN i R, ∀ z, ops[k]? = some z → ∀ d, z.dst = some d → d ∉ o.looksAt ops) ∧
      ∀ (dn : Done) (a : Act) (h : Heap), DoneOK ops dn R → LexT P ops b true Φ t dn a h → StepR P ops b true (LexT P ops b true Φ t') i dn a h
  | .done, R, hg, hi, _ => by rw [show R = [] from hg] at hi; cases hi
  | .br js f, R, hg, hi, hm => by
    rcases hg.2.2 i hi with h1 | ⟨x, hx, hb⟩
    · obtain ⟨-, ⟨o, ho, hc⟩, hgi⟩ := hg.2.1 i h1
      exact ⟨f i, o, hgi, ho, (fun hr => by rw [hc] at hr; cases hr), fun dn a h _ hl => hl i h1⟩
    · rw [hm x hx] at hb; cases hb
  | .q j t, R, hg, hi, hm => by
    obtain ⟨⟨x, hx, hcx, hself⟩, hjR, hpairs, hgt⟩ := hg
    by_cases hij : i = j
    · subst hij
      refine ⟨t, x, hgt, hx, fun hr k hk z hz d hd => ?_, fun dn a h _ hl => hl⟩
      obtain ⟨x1, z1, hx1, hz1, -, hor⟩ := hpairs k hk
      rw [hx] at hx1; cases hx1
      rw [hz] at hz1; cases hz1
      rcases hor with ⟨-, hsp⟩ | ⟨-, -, hap⟩
      · exact hsp hr d hd
      · exact (Oper.apart_spec hap).2.2 d hd
    · have hi' : i ∈ dropN j R := mem_dropN.2 ⟨hi, hij⟩
      obtain ⟨t', o, hgt', ho, hread, hstep⟩ := LexT.pull hs t (dropN j R) hgt hi' (fun y hy => hm y (mem_dropN.1 hy).1)
      have hcomm : ∀ R : List Nat, dropN i (dropN j R) = dropN j (dropN i R) := by
        intro R
        induction R with
        | nil => rfl
        | cons y R ih =>
          simp only [dropN]
          cases h1 : Nat.beq y j <;> cases h2 : Nat.beq y i <;> simp only [dropN, h1, h2, ih]
      obtain ⟨x1, o1, hx1, ho1, hne, hor⟩ := hpairs i hi'
      rw [hx] at hx1; cases hx1
      rw [ho] at ho1; cases ho1
      have hap : x.apart ops o = true := by
        rcases hor with ⟨hb, -⟩ | ⟨-, -, hap⟩
        · rw [hm j hjR] at hb; cases hb
        · exact hap
      refine ⟨.q j t', o, ⟨⟨x, hx, hcx, hself⟩, mem_dropN.2 ⟨hjR, fun e => hij e.symm⟩, fun k hk => hpairs k ?_, ?_⟩, ho, fun hr k hk z hz d hd => ?_, fun dn a h hdn hl => ?_⟩
      · rw [← hcomm] at hk; exact (mem_dropN.1 hk).1
      · rw [← hcomm]; exact hgt'
      · by_cases hkj : k = j
        · subst hkj
          rw [hx] at hz; cases hz
          exact (Oper.apart_spec hap).1 d hd
        · exact hread hr k (by rw [hcomm]; exact mem_dropN.2 ⟨hk, hkj⟩) z hz d hd
      · refine StepR.swap (LexT.anti t') rfl hx ho hap (fun cs bb => Region.noSelect_spec hs j x cs bb hx) (fun cs bb => Region.noSelect_spec hs i o cs bb ho) hcx (hm j hjR) hself (fun p hp o' ho' => ⟨fun cs bb => Region.noSelect_spec hs p.1 o' cs bb ho', fun d hd => hdn p hp o' ho' j hjR x hx d hd⟩) ?_
        obtain ⟨v, hv, hq⟩ := (StepR.quiet hx hcx).1 hl
        refine (StepR.quiet hx hcx).2 ⟨v, hv, hstep _ _ _ ?_ hq⟩
        intro p hpm o' ho' k hk z hz d hd
        rcases mem_ext.1 hpm with hpm | ⟨hrd, rfl⟩
        · exact hdn p hpm o' ho' k (mem_dropN.1 hk).1 z hz d hd
        · rw [hx] at ho'; cases ho'
          have hrd' : clsOf P x.op = .read := by
            simp only [Bool.and_eq_true] at hrd
            cases hc : clsOf P x.op <;> simp [hc, isRead] at hrd ⊢
          obtain ⟨x1, z1, hx1, hz1, -, hor⟩ := hpairs k hk
          rw [hx] at hx1; cases hx1
          rw [hz] at hz1; cases hz1
          rcases hor with ⟨-, hsp⟩ | ⟨-, -, hap'⟩
          · exact hsp hrd' d hd
          · exact (Oper.apart_spec hap').2.2 d hd

/-- What the model's own step asks. -/
theorem wpOp_of_step {Qx : Exit → Act → World → Prop} {K : Done → Act → Heap → Prop} {draw : Bool} {i : Nat} {dn : Done} {a : Act} {w : World} (hl : StepR P ops b draw K i dn a w.heap) :
    wpOp P ops Qx i (fun a' w' => Same w w' ∧ ∃ dn', (∀ p, p ∈ dn' → p ∈ dn ∨ ∃ o, ops[i]? = some o ∧ clsOf P o.op = .read ∧ p.1 = i) ∧ K dn' a' w'.heap) a w := by
  unfold StepR at hl
  cases ho : ops[i]? with
  | none => simp only [ho] at hl
  | some o =>
    simp only [ho] at hl
    unfold wpOp
    simp only [ho]
    by_cases hw : want ops o a = true
    · have hw' : Region.wanted o (yielded ops a.tmps) = true := hw
      rw [if_pos hw] at hl
      rw [if_pos hw']
      left
      unfold Oper.wp
      cases hc : clsOf P o.op with
      | stat =>
        simp only [hc] at hl
        obtain ⟨v, hv, hr⟩ := hl
        rw [hv w]
        exact ⟨Same.refl w, dn, fun p hp => .inl hp, hr⟩
      | read =>
        simp only [hc] at hl
        obtain ⟨v, hv, hr⟩ := hl
        rw [hv w rfl]
        refine ⟨Same.refl w, _, fun p hp => ?_, hr⟩
        cases hp with
        | head => exact .inr ⟨o, rfl, hc, rfl⟩
        | tail _ hp => exact .inl hp
      | eff =>
        simp only [hc] at hl
        have := hl w rfl
        revert this
        cases (execOp a.eval o).run P w with
        | halt x w' => exact fun hh => hh.elim
        | ok n w' =>
          cases n <;> first
            | exact fun hh => hh.elim
            | exact fun hh => ⟨hh.1, dn, fun p hp => .inl hp, hh.2.2⟩
            | skip
          rename_i f args
          intro hh
          refine Calls.mono (hh.2 w' rfl) ?_
          rintro e w'' ⟨v, rfl, hsame, h1, h2⟩
          exact ⟨hh.1.trans hsame, dn, fun p hp => .inl hp, h2⟩
    · have hw' : ¬ Region.wanted o (yielded ops a.tmps) = true := hw
      rw [if_neg hw] at hl
      rw [if_neg hw']
      exact ⟨Same.refl w, dn, fun p hp => .inl hp, hl⟩

/-- In the very order that was walked. -/
theorem wpOps_of_lex {Qx : Exit → Act → World → Prop} {draw : Bool} {w0 : World} (hQ : ∀ a w', Same w0 w' → Φ a w'.heap → Qx .normal a w') : ∀ (l : List Nat) (dn : Done) (a : Act) (w : World), Same w0 w →
    LexT P ops b draw Φ (.ofList l) dn a w.heap → wpOps P ops Qx l a w
  | [], _, a, w, hs, hl => hQ a w hs hl
  | i :: t, dn, a, w, hs, hl => by
    rw [wpOps_cons]
    exact wpOp_mono (fun a' w' ⟨h1, dn', _, h2⟩ => wpOps_of_lex hQ t dn' a' w' (hs.trans h1) h2) (wpOp_of_step (K := LexT P ops b draw Φ (.ofList t)) hl)

/-! ### what waits for what -/

theorem fold_bits (acc : Array Nat) : ∀ (l : List Edge) (s x : Nat), (l.foldl (fun s e => if Region.binds .any e then s ||| 2 ^ e.on ||| acc.getD e.on 0 else s) s).testBit x = true →
    s.testBit x = true ∨ ∃ e ∈ l, Region.binds .any e = true ∧ (e.on = x ∨ (acc.getD e.on 0).testBit x = true)
  | [], s, x, h => .inl h
  | e :: l, s, x, h => by
    simp only [List.foldl_cons] at h
    rcases fold_bits acc l _ x h with h | ⟨e', he', hb, hor⟩
    · by_cases hb : Region.binds .any e = true
      · rw [if_pos hb] at h
        simp only [Nat.testBit_or, Bool.or_eq_true, Nat.testBit_two_pow] at h
        rcases h with (h | h) | h
        · exact .inl h
        · exact .inr ⟨e, List.mem_cons_self .., hb, .inl (by simpa using h)⟩
        · exact .inr ⟨e, List.mem_cons_self .., hb, .inr h⟩
      · rw [if_neg hb] at h
        exact .inl h
    · exact .inr ⟨e', List.mem_cons_of_mem _ he', hb, hor⟩

def BSpec (ops : Array Oper) (acc : Array Nat) : Prop := ∀ (j x : Nat), (acc.getD j 0).testBit x = true → ∃ o : Oper, ops[j]? = some o ∧ ∃ e ∈ o.after, Region.binds .any e = true ∧ (e.on = x ∨ (acc.getD e.on 0).testBit x = true)

theorem before_spec (ops : Array Oper) : BSpec ops (Region.before ops) := by
  unfold Region.before
  have := Array.foldl_induction (as := ops) (motive := fun k acc => acc.size = k ∧ BSpec ops acc) (init := (#[] : Array Nat))
    (f := fun acc o => acc.push (o.after.foldl (fun s e => if Region.binds .any e then s ||| 2 ^ e.on ||| acc.getD e.on 0 else s) 0)) ?_ ?_
  · exact this.2
  · exact ⟨rfl, fun j x h => by simp at h⟩
  · rintro k acc ⟨hsz, hB⟩
    refine ⟨by simp [hsz], fun j x h => ?_⟩
    have lift : ∀ (v : Nat) m, (acc.getD m 0).testBit x = true → ((acc.push v).getD m 0).testBit x = true := by
      intro v m hm
      have hlt : m < acc.size := by
        rcases Nat.lt_or_ge m acc.size with hh | hh
        · exact hh
        · simp [Array.getElem?_eq_none hh] at hm
      have : (acc.push v)[m]? = acc[m]? := by rw [Array.getElem?_push, if_neg (by omega)]
      simp only [Array.getD_eq_getD_getElem?, this] at hm ⊢
      exact hm
    rcases Nat.lt_trichotomy j acc.size with hj | hj | hj
    · have hold : (acc.getD j 0).testBit x = true := by
        simp only [Array.getD_eq_getD_getElem?] at h ⊢
        rwa [Array.getElem?_push, if_neg (by omega)] at h
      obtain ⟨o, ho, e, he, hb, hor⟩ := hB j x hold
      exact ⟨o, ho, e, he, hb, hor.imp id (lift _ _)⟩
    · subst hj
      have hk : ops[acc.size]? = some ops[k] := by rw [hsz]; exact Array.getElem?_eq_getElem k.2
      refine ⟨_, hk, ?_⟩
      simp only [Array.getD_eq_getD_getElem?, Array.getElem?_push, if_true, Option.getD_some] at h
      rw [← Array.foldl_toList] at h
      rcases fold_bits acc _ 0 x (by simpa only [Array.getD_eq_getD_getElem?] using h) with h0 | ⟨e, he, hb, hor⟩
      · simp at h0
      · exact ⟨e, by simpa using he, hb, hor.imp id (lift _ _)⟩
    · simp only [Array.getD_eq_getD_getElem?] at h
      rw [Array.getElem?_eq_none (by simp; omega)] at h
      simp at h

theorem backOK_spec (h : backOK ops = true) : (∀ (j : Nat) (o : Oper), ops[j]? = some o → ∀ e ∈ o.after, Region.binds .any e = true → e.on < j) ∧ Region.noSelect ops = true := by
  unfold backOK at h
  rw [List.all_eq_true] at h
  have key : ∀ (j : Nat) (o : Oper), ops[j]? = some o → (o.after.toList.all (fun e => !(Region.binds .any e) || Nat.blt e.on j) && !(match o.op with | .select .. => true | _ => false)) = true := by
    intro j o ho
    refine h (o, j) ?_
    rw [List.mem_zipIdx_iff_getElem?]
    simpa using ho
  refine ⟨fun j o ho e he hb => ?_, ?_⟩
  · have := key j o ho
    simp only [Bool.and_eq_true, List.all_eq_true] at this
    have h1 := this.1 e (by simpa using he)
    rw [hb] at h1
    exact Nat.blt_eq.mp (by simpa using h1)
  · unfold Region.noSelect
    rw [Array.all_eq_true_iff_forall_mem]
    intro o ho
    obtain ⟨j, hj, rfl⟩ := Array.mem_iff_getElem.1 ho
    have := key j ops[j] (Array.getElem?_eq_getElem hj)
    simp only [Bool.and_eq_true] at this
    have h2 := this.2
    cases hop : ops[j].op <;> simp [hop] at h2 ⊢

/-! ### in whatever order the model draws -/

theorem wpAny_of_tree {Qx : Exit → Act → World → Prop} {w0 : World} (hQ : ∀ a w', Same w0 w' → Φ a w'.heap → Qx .normal a w') (hB : BSpec ops b)
    (hback : ∀ (j : Nat) (o : Oper), ops[j]? = some o → ∀ e ∈ o.after, Region.binds .any e = true → e.on < j) (hns : Region.noSelect ops = true) :
    ∀ (n : Nat) (t : OTree) (l : List Nat) (listed : Array Bool) (dn : Done) (a : Act) (w : World), l.length = n → Same w0 w → l.Nodup → GoodT P ops b t l → DoneOK ops dn l →
      listed.size = ops.size → (∀ i, i ∈ l ↔ listed[i]? = some false) → (∀ m, listed[m]? = some true → ∀ x, (b.getD m 0).testBit x = true → listed[x]? = some true) →
      LexT P ops b true Φ t dn a w.heap → wpAny P .any ops Qx n listed a w := by
  intro n
  induction n with
  | zero =>
    intro t l listed dn a w hn hs hnd hgood hdn hsz hmem hcl hl
    have : l = [] := List.length_eq_zero_iff.1 hn
    subst this
    have hfin : Φ a w.heap := by
      cases t with
      | done => exact hl
      | q j t => exact absurd hgood.2.1 (by simp)
      | br js f =>
        cases js with
        | nil => exact absurd rfl hgood.1
        | cons j js => exact absurd (hgood.2.1 j (List.mem_cons_self ..)).1 (by simp)
    refine ⟨?_, hQ a w hs hfin⟩
    rw [List.eq_nil_iff_forall_not_mem]
    intro i hi
    obtain ⟨h0, o, ho, _⟩ := mem_ready.1 hi
    have hlt : i < listed.size := by rw [hsz]; exact (Array.getElem?_eq_some_iff.1 ho).1
    have : listed[i]? = some false := by
      rw [Array.getElem?_eq_getElem hlt]
      simp only [Array.getD_eq_getD_getElem?, Array.getElem?_eq_getElem hlt, Option.getD_some] at h0
      rw [h0]
    exact absurd ((hmem i).2 this) (by simp)
  | succ n ih =>
    intro t l listed dn a w hn hs hnd hgood hdn hsz hmem hcl hl
    have rdy : ∀ i, i ∈ Region.ready .any ops listed → i ∈ l ∧ ∀ x, x ∈ l → (b.getD i 0).testBit x = false := by
      intro i hi
      obtain ⟨h0, o, ho, hall⟩ := mem_ready.1 hi
      have hlt : i < listed.size := by rw [hsz]; exact (Array.getElem?_eq_some_iff.1 ho).1
      have hf : listed[i]? = some false := by
        rw [Array.getElem?_eq_getElem hlt]
        simp only [Array.getD_eq_getD_getElem?, Array.getElem?_eq_getElem hlt, Option.getD_some] at h0
        rw [h0]
      refine ⟨(hmem i).2 hf, fun x hx => ?_⟩
      cases hb : (b.getD i 0).testBit x with
      | false => rfl
      | true =>
        exfalso
        obtain ⟨o', ho', e, he, hbd, hor⟩ := hB i x hb
        rw [ho] at ho'; cases ho'
        have hon := hall e he hbd
        have hon' : listed[e.on]? = some true := by
          simp only [Array.getD_eq_getD_getElem?] at hon
          cases hh : listed[e.on]? with
          | none => rw [hh] at hon; cases hon
          | some z => rw [hh] at hon; simp at hon; rw [hon]
        have hxt : listed[x]? = some true := by
          rcases hor with rfl | hor
          · exact hon'
          · exact hcl e.on hon' x hor
        rw [(hmem x).1 hx] at hxt
        cases hxt
    refine ⟨fun hnil => ?_, fun i hi => ?_⟩
    · -- the least that is left may come
      exfalso
      have hne : l ≠ [] := by intro h0; rw [h0] at hn; simp at hn
      obtain ⟨m, hm, hmin⟩ : ∃ m, m ∈ l ∧ ∀ x, x ∈ l → m ≤ x := by
        have hsome : ∃ m, m ∈ l := by cases l with
          | nil => exact absurd rfl hne
          | cons m t => exact ⟨m, List.mem_cons_self ..⟩
        obtain ⟨m, hm⟩ := hsome
        exact ⟨l.min hne, List.min_mem hne, fun x hx => List.min_le_of_mem hx⟩
      have hf := (hmem m).1 hm
      have hlt : m < listed.size := (Array.getElem?_eq_some_iff.1 hf).1
      have hmo : m < ops.size := by rw [← hsz]; exact hlt
      have : m ∈ Region.ready .any ops listed := by
        rw [mem_ready]
        refine ⟨by simp [Array.getD_eq_getD_getElem?, hf], ops[m], Array.getElem?_eq_getElem hmo, fun e he hbd => ?_⟩
        have hlt' := hback m ops[m] (Array.getElem?_eq_getElem hmo) e he hbd
        have hel : e.on < listed.size := by omega
        cases hh : listed[e.on]? with
        | none => rw [Array.getElem?_eq_getElem hel] at hh; cases hh
        | some z =>
          cases z with
          | true => simp [Array.getD_eq_getD_getElem?, hh]
          | false => have := hmin _ ((hmem e.on).2 hh); omega
      rw [hnil] at this
      cases this
    · obtain ⟨hil, hnb⟩ := rdy i hi
      have hf := (hmem i).1 hil
      have hlt : i < listed.size := (Array.getElem?_eq_some_iff.1 hf).1
      obtain ⟨t', oi, hg', hoi, hrdi, hstep⟩ := LexT.pull (Φ := Φ) hns t l hgood hil hnb
      refine wpOp_mono ?_ (wpOp_of_step (hstep dn a w.heap hdn hl))
      rintro a' w' ⟨hsame, dn', hdn', hl'⟩
      have hlen := dropN_length hnd hil
      refine ih t' (dropN i l) (listed.setIfInBounds i true) dn' a' w' (by omega) (hs.trans hsame) (dropN_nodup hnd) hg' ?_ (by simp [hsz]) ?_ ?_ hl'
      · intro p hp o ho k hk z hz d hd
        rcases hdn' p hp with hp | ⟨o', ho', hrd, hpi⟩
        · exact hdn p hp o ho k (mem_dropN.1 hk).1 z hz d hd
        · rw [hpi] at ho
          rw [ho] at ho'; cases ho'
          rw [ho] at hoi; cases hoi
          exact hrdi hrd k hk z hz d hd
      · intro k
        rw [Array.getElem?_setIfInBounds, mem_dropN]
        by_cases hki : i = k
        · subst hki
          simp only [if_true, hlt]
          constructor
          · rintro ⟨-, h0⟩; exact absurd rfl h0
          · intro hh; cases hh
        · rw [if_neg hki, ← hmem k]
          exact ⟨fun h1 => h1.1, fun h1 => ⟨h1, fun e => hki e.symm⟩⟩
      · intro m hm x hx
        rw [Array.getElem?_setIfInBounds] at hm ⊢
        by_cases hix : i = x
        · subst hix; simp [hlt]
        · rw [if_neg hix]
          by_cases him : i = m
          · subst him
            obtain ⟨h0, o, ho, hall⟩ := mem_ready.1 hi
            obtain ⟨o', ho', e, he, hbd, hor⟩ := hB i x hx
            rw [ho] at ho'; cases ho'
            have hon := hall e he hbd
            have hon' : listed[e.on]? = some true := by
              simp only [Array.getD_eq_getD_getElem?] at hon
              cases hh : listed[e.on]? with
              | none => rw [hh] at hon; cases hon
              | some z => rw [hh] at hon; simp at hon; rw [hon]
            rcases hor with rfl | hor
            · exact hon'
            · exact hcl e.on hon' x hor
          · rw [if_neg him] at hm
            exact hcl m hm x hx

end
end Go.H
