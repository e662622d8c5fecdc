/-
  Hc: what 'den' says of an operation is what the model does: one operation.
-/
import Derived.Test.YtmdagnoknmfhcaaDoorHb
import Derived.Laws.Entries
import Derived.Laws.Strings
import Derived.Laws.StructEq
import Derived.Laws.BytesString
namespace Go.H
set_option linter.unusedSimpArgs false
set_option linter.unusedVariables false

/-- What is known of a frame. -/
structure Agree (n : Nat) (e : Env) (a : Act) : Prop where
  size : a.tmps.size = n
  defers : a.defers = []
  get : ∀ t v, e.get t = some v → a.tmps[t]? = some v

def DecOK (d : Dec) (a : Act) : Prop := ∀ t b, d.get t = some b → a.tmps[t]? = some (.bool b)

theorem Agree.ev {n : Nat} {e : Env} {a : Act} (h : Agree n e a) {x : Operand} {v : Value} (hx : e.ev x = some v) : a.eval x = v := by
  cases x with
  | tmp t =>
    have := h.get t v hx
    simp only [Act.eval, Array.getD_eq_getD_getElem?, this, Option.getD_some]
  | const c => simpa [Env.ev, Act.eval] using hx
  | global g => simpa [Env.ev, Act.eval] using hx
  | func f => simpa [Env.ev, Act.eval] using hx

theorem Agree.evs {n : Nat} {e : Env} {a : Act} (h : Agree n e a) : ∀ {xs : List Operand} {vs : List Value}, e.evs xs = some vs → xs.map a.eval = vs
  | [], vs, hx => by simp only [Env.evs, Option.some.injEq] at hx; subst hx; rfl
  | x :: xs, vs, hx => by
    simp only [Env.evs] at hx
    split at hx
    · rename_i v hv
      split at hx
      · rename_i us hus
        cases hx
        simp [h.ev hv, Agree.evs h hus]
      · cases hx
    · cases hx

theorem Agree.evs_arr {n : Nat} {e : Env} {a : Act} (h : Agree n e a) {xs : Array Operand} {vs : List Value} (hx : e.evs xs.toList = some vs) : xs.map a.eval = vs.toArray := by
  have := h.evs hx
  apply Array.toList_inj.1
  simp [this]

theorem Agree.parts {n : Nat} {e : Env} {a : Act} (h : Agree n e a) : ∀ {xs : List (Nat × Operand)} {vs : List (Nat × Value)}, evParts e xs = some vs → xs.map (fun (i, x) => (i, a.eval x)) = vs
  | [], vs, hx => by simp only [evParts, Option.some.injEq] at hx; subst hx; rfl
  | (i, x) :: xs, vs, hx => by
    simp only [evParts] at hx
    split at hx
    · rename_i v hv
      split at hx
      · rename_i us hus
        cases hx
        simp only [List.map_cons, h.ev hv]
        rw [Agree.parts h hus]
      · cases hx
    · cases hx

/-! ### what an operation does -/

def Res (P : Program) (w0 : World) (Φ : Value → Heap → Prop) : Result Next → Prop
  | .ok (.value v) w' => Same w0 w' ∧ Φ v w'.heap
  | .ok .skip w' => Same w0 w' ∧ Φ undef w'.heap
  | .ok (.enter f args) w' => Same w0 w' ∧ HCalls P f args w'.heap Φ
  | _ => False

def Does (P : Program) (s : Sem Next) (h : Heap) (Φ : Value → Heap → Prop) : Prop := ∀ w, w.heap = h → Res P w Φ (s.run P w)
def Stat (P : Program) (s : Sem Next) (v : Value) : Prop := ∀ w, s.run P w = .ok (.value v) w
def ReadsAt (P : Program) (s : Sem Next) (h : Heap) (v : Value) : Prop := ∀ w, w.heap = h → s.run P w = .ok (.value v) w

def OpLex (P : Program) (c : Cls) (s : Sem Next) (h : Heap) (Φ : Value → Heap → Prop) : Prop :=
  match c with
  | .stat => ∃ v, Stat P s v ∧ Φ v h
  | .read => ∃ v, ReadsAt P s h v ∧ Φ v h
  | .eff => Does P s h Φ

theorem Does.of_stat {P : Program} {s : Sem Next} {h : Heap} {Φ : Value → Heap → Prop} {v : Value} (hs : Stat P s v) (hp : Φ v h) : Does P s h Φ := by
  intro w hw
  rw [hs w]
  exact ⟨Same.refl w, hw ▸ hp⟩

theorem Does.of_read {P : Program} {s : Sem Next} {h : Heap} {Φ : Value → Heap → Prop} {v : Value} (hs : ReadsAt P s h v) (hp : Φ v h) : Does P s h Φ := by
  intro w hw
  rw [hs w hw]
  exact ⟨Same.refl w, hw ▸ hp⟩

/-- 'v' of execOp -/
theorem run_v (P : Program) (s : Sem Value) (w : World) : (do pure (Next.value (← s)) : Sem Next).run P w = (s.run P w).andThen fun x w' => .ok (.value x) w' := by
  simp

theorem Stat.of {P : Program} {s : Sem Value} {v : Value} (h : ∀ w, s.run P w = .ok v w) : Stat P (do pure (Next.value (← s)) : Sem Next) v := by
  intro w; rw [run_v, h w]; rfl
theorem ReadsAt.of {P : Program} {s : Sem Value} {h : Heap} {v : Value} (hs : ∀ w, w.heap = h → s.run P w = .ok v w) : ReadsAt P (do pure (Next.value (← s)) : Sem Next) h v := by
  intro w hw; rw [run_v, hs w hw]; rfl
theorem Does.of_v {P : Program} {s : Sem Value} {h : Heap} {Φ : Value → Heap → Prop} (hs : ∀ w, w.heap = h → ∃ v w', s.run P w = .ok v w' ∧ Same w w' ∧ Φ v w'.heap) :
    Does P (do pure (Next.value (← s)) : Sem Next) h Φ := by
  intro w hw
  obtain ⟨v, w', hr, hm, hp⟩ := hs w hw
  rw [run_v, hr]; exact ⟨hm, hp⟩
theorem Does.of_u {P : Program} {s : Sem Unit} {h : Heap} {Φ : Value → Heap → Prop} (hs : ∀ w, w.heap = h → ∃ w', s.run P w = .ok () w' ∧ Same w w' ∧ Φ undef w'.heap) :
    Does P (do s; pure Next.skip : Sem Next) h Φ := by
  intro w hw
  obtain ⟨w', hr, hm, hp⟩ := hs w hw
  have : (do s; pure Next.skip : Sem Next).run P w = .ok .skip w' := by simp [hr]
  rw [this]; exact ⟨hm, hp⟩

/-! ### the model's tables -/

theorem run_und {P : Program} {t : TypeId} {d : TypeDesc} (h : P.underlying t = some d) (w : World) : (underlying t).run P w = .ok d w := run_underlying h w
theorem run_info {P : Program} {t : TypeId} {i : TypeInfo} (h : P.info? t = some i) (w : World) : (typeInfo t).run P w = .ok i w := by
  simp [typeInfo, h]
theorem run_size {P : Program} {t : TypeId} {i : TypeInfo} (h : P.info? t = some i) (w : World) : (sizeOf t).run P w = .ok i.size w := by
  simp [sizeOf, run_info h]
theorem run_zero {P : Program} {t : TypeId} {i : TypeInfo} {z : Value} (h : P.info? t = some i) (hz : i.zero = some z) (w : World) : (zeroValue t).run P w = .ok z w := by
  simp [zeroValue, run_info h, hz]
theorem cellsOf_eq {P : Program} {t : TypeId} {i : TypeInfo} (h : P.info? t = some i) : P.cellsOf t = i.size := by
  simp [Program.cellsOf, h]
theorem kindOf_info {P : Program} {t : TypeId} {k : Kind} (h : kindOf P t = some k) : ∃ i z, P.info? t = some i ∧ i.zero = some z ∧ Kind.of z = some k := by
  unfold kindOf at h
  split at h
  · rename_i i hi
    split at h
    · rename_i z hz; exact ⟨i, z, hi, hz, h⟩
    · cases h
  · cases h

/-! ### operations that look at nothing but their operands -/
section
variable {ρ : Type} {P : Program} {k : Value → HM ρ} {h : Heap} {Q : ρ → Heap → Prop}

theorem denInt_sound {op : BinOp} {t : TypeId} {kx ky : IntKind} {a b : Int} (h1 : op ≠ .eql) (h2 : op ≠ .neq) (hd : denInt op kx ky a b k h Q) :
    ∃ v, (∀ w, (binOp op t (.int kx a) (.int ky b)).run P w = .ok v w) ∧ k v h Q := by
  unfold denInt at hd
  cases op <;> first | exact absurd rfl h1 | exact absurd rfl h2 | skip
  case shl =>
    obtain ⟨h0, hk⟩ := hd
    refine ⟨_, fun w => ?_, hk⟩
    simp [binOp, Op.shift, Int.not_lt.2 h0]
  case shr =>
    obtain ⟨h0, hk⟩ := hd
    refine ⟨_, fun w => ?_, hk⟩
    simp [binOp, Op.shift, Int.not_lt.2 h0]
  all_goals
    have hke : ikEq kx ky = true := by
      cases hke : ikEq kx ky with
      | false => simp only [hke] at hd; exact hd.elim
      | true => rfl
    simp only [hke] at hd
    obtain rfl := ikEq_eq hke
  case quo =>
    obtain ⟨h0, hk⟩ := hd
    exact ⟨_, fun w => by simp [binOp, Op.intDiv, h0], hk⟩
  case rem =>
    obtain ⟨h0, hk⟩ := hd
    exact ⟨_, fun w => by simp [binOp, Op.intDiv, h0], hk⟩
  all_goals exact ⟨_, fun w => by simp [binOp, Op.intArith, Op.intBits, Op.intCmp, bitOp], hd⟩

theorem denStr_sound {op : BinOp} {t : TypeId} {a b : ByteArray} (h1 : op ≠ .eql) (h2 : op ≠ .neq) (hd : denStr op a b k h Q) :
    ∃ v, (∀ w, (binOp op t (.string a) (.string b)).run P w = .ok v w) ∧ k v h Q := by
  unfold denStr at hd
  cases op <;> first | exact absurd rfl h1 | exact absurd rfl h2 | skip
  case add =>
    obtain ⟨h0, hk⟩ := hd
    refine ⟨_, fun w => ?_, hk⟩
    have : ¬ (((a.size + b.size : Nat) : Int) > 9223372036854775807) := by omega
    simp only [binOp, Op.stringOp, IntKind.max_i64, if_neg this, Sem.run_pure]
  all_goals first
    | exact hd.elim
    | exact ⟨_, fun w => by simp [binOp, Op.stringOp], hd⟩

theorem denUn_sound {op : UnOp} {x : Value} (hd : denUn op x k h Q) :
    ∃ v, (∀ w, (Op.unary op x).run P w = .ok v w) ∧ k v h Q := by
  unfold denUn at hd
  split at hd
  · exact ⟨_, fun w => by simp [Op.unary], hd⟩
  · exact ⟨_, fun w => by simp [Op.unary, Op.intArith], hd⟩
  · exact ⟨_, fun w => by simp [Op.unary, Op.intBits, bitOp], hd⟩
  · exact hd.elim

theorem str_eq (a b : ByteArray) : (a.toList == b.toList) = decide (a = b) := by
  have hinj : a.toList = b.toList ↔ a = b := by
    constructor
    · intro hh
      rw [ByteArray.toList_eq, ByteArray.toList_eq] at hh
      cases a; cases b
      simp_all
    · intro hh; rw [hh]
  by_cases hab : a = b
  · simp [hab]
  · have : ¬ a.toList = b.toList := fun hh => hab (hinj.1 hh)
    simp [hab, this]


/-- '==' of the model, where the two are held against each other -/
theorem run_equal {t : TypeId} {x y : Value} {r : Bool} (hr : ∀ w, (Op.equalIn 10000 t x y).run P w = .ok r w) (w : World) : (Op.equal t x y).run P w = .ok r w := hr w

theorem binOp_eq_gen {t : TypeId} {x y : Value} {r : Bool} (neg : Bool) (h1 : ∀ k n, x ≠ .int k n) (h2 : ∀ k n, x ≠ .float k n) (h3 : ∀ k n m, x ≠ .complex k n m) (h4 : ∀ s, x ≠ .string s)
    (hr : ∀ w, (Op.equal t x y).run P w = .ok r w) (w : World) : (binOp (if neg = true then .neq else .eql) t x y).run P w = .ok (.bool (eqRes neg r)) w := by
  cases neg <;> cases x <;> cases y <;> simp_all [binOp, eqRes]

theorem equalIn_ptr_nil (d : Nat) {t e : TypeId} (ht : P.underlying t = some (.pointer e)) (p : Option Addr) (w : World) : (Op.equalIn (d + 1) t (.pointer p) (.pointer none)).run P w = .ok p.isNone w := by
  cases p <;> simp only [Op.equalIn, Sem.run_bind, run_und ht, Result.andThen_ok] <;> rfl
theorem equalIn_slc_nil (d : Nat) {t e : TypeId} (ht : P.underlying t = some (.slice e)) (p : Option Addr) (a b c f : Nat) (w : World) : (Op.equalIn (d + 1) t (.slice p a b) (.slice none c f)).run P w = .ok p.isNone w := by
  cases p <;> simp only [Op.equalIn, Sem.run_bind, run_und ht, Result.andThen_ok] <;> rfl
theorem equalIn_map_nil (d : Nat) {t e f : TypeId} (ht : P.underlying t = some (.map e f)) (p : Option Nat) (w : World) : (Op.equalIn (d + 1) t (.map p) (.map none)).run P w = .ok p.isNone w := by
  cases p <;> simp only [Op.equalIn, Sem.run_bind, run_und ht, Result.andThen_ok] <;> rfl
theorem equalIn_iface_nil (d : Nat) {t : TypeId} {ms : Array (String × TypeId)} (ht : P.underlying t = some (.interface ms)) (x : Value) (hx : isIface x = true) (w : World) : (Op.equalIn (d + 1) t x .nilIface).run P w = .ok (isNilI x) w := by
  cases x <;> simp [isIface] at hx <;> simp only [Op.equalIn, Sem.run_bind, run_und ht, Result.andThen_ok, isNilI] <;> rfl
theorem equalIn_func_nil (d : Nat) {t : TypeId} {a b : Array TypeId} {c : Bool} (ht : P.underlying t = some (.func a b c)) (x : Value) (hx : isFunc x = true) (w : World) : (Op.equalIn (d + 1) t x .nilFunc).run P w = .ok (isNilF x) w := by
  cases x <;> simp [isFunc] at hx <;> simp only [Op.equalIn, Sem.run_bind, run_und ht, Result.andThen_ok, isNilF] <;> rfl
theorem equalIn_bool (d : Nat) {t : TypeId} (ht : P.underlying t = some .bool) (a b : Bool) (w : World) : (Op.equalIn (d + 1) t (.bool a) (.bool b)).run P w = .ok (a == b) w := by
  simp only [Op.equalIn, Sem.run_bind, run_und ht, Result.andThen_ok]; rfl
theorem equal_ptr_nil {t e : TypeId} (ht : P.underlying t = some (.pointer e)) (p : Option Addr) (w : World) : (Op.equal t (.pointer p) (.pointer none)).run P w = .ok p.isNone w := equalIn_ptr_nil 9999 ht p w
theorem equal_slc_nil {t e : TypeId} (ht : P.underlying t = some (.slice e)) (p : Option Addr) (a b c d : Nat) (w : World) : (Op.equal t (.slice p a b) (.slice none c d)).run P w = .ok p.isNone w := equalIn_slc_nil 9999 ht p a b c d w
theorem equal_map_nil {t e f : TypeId} (ht : P.underlying t = some (.map e f)) (p : Option Nat) (w : World) : (Op.equal t (.map p) (.map none)).run P w = .ok p.isNone w := equalIn_map_nil 9999 ht p w
theorem equal_iface_nil {t : TypeId} {ms : Array (String × TypeId)} (ht : P.underlying t = some (.interface ms)) (x : Value) (hx : isIface x = true) (w : World) : (Op.equal t x .nilIface).run P w = .ok (isNilI x) w := equalIn_iface_nil 9999 ht x hx w
theorem equal_func_nil {t : TypeId} {a b : Array TypeId} {c : Bool} (ht : P.underlying t = some (.func a b c)) (x : Value) (hx : isFunc x = true) (w : World) : (Op.equal t x .nilFunc).run P w = .ok (isNilF x) w := equalIn_func_nil 9999 ht x hx w
theorem equal_bool {t : TypeId} (ht : P.underlying t = some .bool) (a b : Bool) (w : World) : (Op.equal t (.bool a) (.bool b)).run P w = .ok (a == b) w := equalIn_bool 9999 ht a b w

theorem isAgg_run {t : TypeId} {d : TypeDesc} (h : P.underlying t = some d) (w : World) : (isAgg t).run P w = .ok (isAggD d) w := by
  simp only [isAgg, Sem.run_bind, run_und h, Result.andThen_ok]
  cases d <;> rfl

theorem info_of_und {t : TypeId} {d : TypeDesc} (h : P.underlying t = some d) : ∃ i, P.info? t = some i := by
  unfold Program.underlying at h
  split at h
  · exact ⟨_, by assumption⟩
  · exact ⟨_, by assumption⟩
  · cases h

theorem partAs_sound {t : TypeId} {cs : List Value} {off : Nat} {v : Value} (hp : partAs P t cs off = some v) (w : World) : (part t cs.toArray off).run P w = .ok v w := by
  unfold partAs at hp
  cases hu : P.underlying t with
  | none => simp only [hu] at hp; cases hp
  | some d =>
    obtain ⟨i, hi⟩ := info_of_und hu
    cases hagg : isAggD d with
    | true =>
      have hp' : some (Value.agg ((cs.drop off).take (P.cellsOf t)).toArray) = some v := by simpa only [hu, hagg] using hp
      cases hp'
      simp only [part, Sem.run_bind, isAgg_run hu, Result.andThen_ok, hagg, if_true, run_size hi, Sem.run_pure]
      congr 2
      rw [cellsOf_eq hi]
      apply Array.toList_inj.1
      simp [List.drop_take, Nat.add_sub_cancel_left]
    | false =>
      have hp' : cs[off]? = some v := by simpa only [hu, hagg] using hp
      simp only [part, Sem.run_bind, isAgg_run hu, Result.andThen_ok, hagg, Bool.false_eq_true, if_false]
      have : cs.toArray[off]? = some v := by simpa using hp'
      rw [this]; rfl

/-! #### '==' by parts -/

theorem eqFs_sound {rec : TypeId → Value → Value → Option Bool} {n : Nat}
    (hrec : ∀ t x y r, rec t x y = some r → ∀ w, (Op.equalIn n t x y).run P w = .ok r w) {xs ys : Array Value} :
    ∀ (fs : List Field) (r : Bool), eqFs P rec xs.toList ys.toList fs = some r → ∀ w, (Op.eqFields n xs ys fs).run P w = .ok r w
  | [], r, hr, w => by
    simp only [eqFs, Option.some.injEq] at hr
    subst hr
    rfl
  | f :: fs, r, hr, w => by
    simp only [eqFs] at hr
    cases hn : decide (f.name = "_") with
    | true => simp only [hn] at hr; cases hr
    | false =>
    simp only [hn] at hr
    cases ha : partAs P f.type xs.toList f.offset with
    | none => simp only [ha] at hr; cases hr
    | some a =>
    simp only [ha] at hr
    cases hb : partAs P f.type ys.toList f.offset with
    | none => simp only [hb] at hr; cases hr
    | some b =>
    simp only [hb] at hr
    cases h1 : rec f.type a b with
    | none => simp only [h1] at hr; cases hr
    | some r1 =>
    simp only [h1] at hr
    cases h2 : eqFs P rec xs.toList ys.toList fs with
    | none => simp only [h2] at hr; cases hr
    | some r2 =>
    simp only [h2, Option.some.injEq] at hr
    subst hr
    have hn' : f.name ≠ "_" := by simpa using hn
    have pa := partAs_sound ha w
    have pb := partAs_sound hb w
    simp only [Array.toArray_toList] at pa pb
    have ih := eqFs_sound hrec fs r2 h2 w
    simp only [Op.eqFields, hn', ne_eq, not_false_eq_true, if_true, Sem.run_bind, pa, pb, Result.andThen_ok, hrec _ _ _ _ h1 w]
    cases r1
    · simp
    · simpa using ih

theorem guardFs_sound {rec : TypeId → Value → Value → Option Bool} {n : Nat} {t : TypeId} {fields : Array Field} (ht : P.underlying t = some (.struct fields))
    (hrec : ∀ t x y r, rec t x y = some r → ∀ w, (Op.eqGuardIn n t x y).run P w = .ok false w) {xs ys : Array Value} {r : Bool} (hr : eqFs P rec xs.toList ys.toList fields.toList = some r) (w : World) :
    (Op.eqGuardIn (n + 1) t (.agg xs) (.agg ys)).run P w = .ok false w := by
  simp only [Op.eqGuardIn, Sem.run_bind, run_und ht, Result.andThen_ok]
  rw [← Array.forIn_toList]
  generalize fields.toList = fs at hr
  clear ht
  induction fs generalizing r with
  | nil => simp
  | cons f fs ih =>
    simp only [eqFs] at hr
    cases hn : decide (f.name = "_") with
    | true => simp only [hn] at hr; cases hr
    | false =>
    simp only [hn] at hr
    cases ha : partAs P f.type xs.toList f.offset with
    | none => simp only [ha] at hr; cases hr
    | some a =>
    simp only [ha] at hr
    cases hb : partAs P f.type ys.toList f.offset with
    | none => simp only [hb] at hr; cases hr
    | some b =>
    simp only [hb] at hr
    cases h1 : rec f.type a b with
    | none => simp only [h1] at hr; cases hr
    | some r1 =>
    simp only [h1] at hr
    cases h2 : eqFs P rec xs.toList ys.toList fs with
    | none => simp only [h2] at hr; cases hr
    | some r2 =>
    have hn' : f.name ≠ "_" := by simpa using hn
    have pa := partAs_sound ha w
    have pb := partAs_sound hb w
    simp only [Array.toArray_toList] at pa pb
    simp only [List.forIn_cons, hn', ne_eq, not_false_eq_true, if_true, Sem.run_bind, pa, pb, Result.andThen_ok, hrec _ _ _ _ h1 w, Bool.false_eq_true, if_false, Sem.run_pure]
    exact ih h2

theorem keyFs_sound {rec : TypeId → Value → Value → Option Bool} {n : Nat} {t : TypeId} {fields : Array Field} {e : Bool} (ht : P.underlying t = some (.struct fields))
    (hrec : ∀ t x y r, rec t x y = some r → ∀ w, (Instr.checkKey e n t x).run P w = .ok () w) {xs ys : Array Value} {r : Bool} (hr : eqFs P rec xs.toList ys.toList fields.toList = some r) (w : World) :
    (Instr.checkKey e (n + 1) t (.agg xs)).run P w = .ok () w := by
  simp only [Instr.checkKey, Sem.run_bind, run_und ht, Result.andThen_ok]
  rw [← Array.forIn_toList]
  generalize fields.toList = fs at hr
  clear ht
  induction fs generalizing r with
  | nil => simp
  | cons f fs ih =>
    simp only [eqFs] at hr
    cases hn : decide (f.name = "_") with
    | true => simp only [hn] at hr; cases hr
    | false =>
    simp only [hn] at hr
    cases ha : partAs P f.type xs.toList f.offset with
    | none => simp only [ha] at hr; cases hr
    | some a =>
    simp only [ha] at hr
    cases hb : partAs P f.type ys.toList f.offset with
    | none => simp only [hb] at hr; cases hr
    | some b =>
    simp only [hb] at hr
    cases h1 : rec f.type a b with
    | none => simp only [h1] at hr; cases hr
    | some r1 =>
    simp only [h1] at hr
    cases h2 : eqFs P rec xs.toList ys.toList fs with
    | none => simp only [h2] at hr; cases hr
    | some r2 =>
    have hn' : f.name ≠ "_" := by simpa using hn
    have pa := partAs_sound ha w
    simp only [Array.toArray_toList] at pa
    simp only [List.forIn_cons, hn', ne_eq, not_false_eq_true, if_true, Sem.run_bind, pa, Result.andThen_ok, hrec _ _ _ _ h1 w, Sem.run_pure]
    exact ih h2

theorem eqTy_sound : ∀ (d : Nat) {t : TypeId} {x y : Value} {r : Bool}, eqTy P d t x y = some r → ∀ (D : Nat) (w : World),
    (Op.equalIn (d + D) t x y).run P w = .ok r w ∧ (Op.eqGuardIn (d + D) t x y).run P w = .ok false w ∧ ∀ e, (Instr.checkKey e (d + D) t x).run P w = .ok () w
  | 0, _, _, _, _, hr, _, _ => by cases hr
  | d + 1, t, x, y, r, hr, D, w => by
    rw [show d + 1 + D = (d + D) + 1 from by omega]
    unfold eqTy at hr
    cases ht : P.underlying t with
    | none => simp only [ht] at hr; cases hr
    | some dd =>
    cases dd with
    | int kk =>
      simp only [ht] at hr
      cases x <;> try cases hr
      cases y <;> try cases hr
      rename_i k a k' b
      simp only at hr
      cases hke : ikEq k k' with
      | false => simp only [hke] at hr; cases hr
      | true =>
        simp only [hke, Option.some.injEq] at hr
        obtain rfl := ikEq_eq hke
        subst hr
        refine ⟨?_, ?_, fun e => ?_⟩
        · simp only [Op.equalIn, Sem.run_bind, run_und ht, Result.andThen_ok]; simp
        · simp only [Op.eqGuardIn, Sem.run_bind, run_und ht, Result.andThen_ok]; simp
        · simp only [Instr.checkKey, Sem.run_bind, run_und ht, Result.andThen_ok]; simp
    | bool =>
      simp only [ht] at hr
      cases x <;> try cases hr
      cases y <;> try cases hr
      refine ⟨?_, ?_, fun e => ?_⟩
      · simp only [Op.equalIn, Sem.run_bind, run_und ht, Result.andThen_ok]; simp
      · simp only [Op.eqGuardIn, Sem.run_bind, run_und ht, Result.andThen_ok]; simp
      · simp only [Instr.checkKey, Sem.run_bind, run_und ht, Result.andThen_ok]; simp
    | string =>
      simp only [ht] at hr
      cases x <;> try cases hr
      cases y <;> try cases hr
      rename_i a b
      refine ⟨?_, ?_, fun e => ?_⟩
      · simp only [Op.equalIn, Sem.run_bind, run_und ht, Result.andThen_ok]
        have e : (a == b) = decide (a = b) := (beq_toListBytes a b).trans (str_eq a b)
        simp [e]
      · simp only [Op.eqGuardIn, Sem.run_bind, run_und ht, Result.andThen_ok]; simp
      · simp only [Instr.checkKey, Sem.run_bind, run_und ht, Result.andThen_ok]; simp
    | struct fields =>
      simp only [ht] at hr
      cases hst : P.stoodInHeld t with
      | true => simp only [hst] at hr; cases hr
      | false =>
      simp only [hst] at hr
      cases x <;> try cases hr
      cases y <;> try cases hr
      rename_i xs ys
      simp only at hr
      have hf : P.fieldsOf t = fields := by simp [Program.fieldsOf, ht]
      refine ⟨?_, guardFs_sound ht (fun t x y r hr w => (eqTy_sound d hr D w).2.1) hr w, fun e => keyFs_sound ht (fun t x y r hr w => (eqTy_sound d hr D w).2.2 e) hr w⟩
      rw [run_equalIn_struct w (d + D) t xs ys (by rw [hf]; exact ht) hst, hf]
      exact eqFs_sound (fun t x y r hr w => (eqTy_sound d hr D w).1) _ r hr w
    | _ => simp only [ht] at hr; cases hr

def eqOp (neg : Bool) : BinOp := if neg = true then .neq else .eql

theorem denEq_sound {neg : Bool} {t : TypeId} {xo yo : Operand} {x y : Value} (hy : ∀ c, yo = .const c → y = c) (hd : denEq P neg t yo x y k h Q) :
    ∃ v, (∀ w, (do eqGuard (eqOp neg) t xo yo x y; binOp (eqOp neg) t x y : Sem Value).run P w = .ok v w) ∧ k v h Q := by
  cases ht : P.underlying t with
  | none => simp only [denEq, ht] at hd; exact hd.elim
  | some d =>
  cases d with
  | pointer e =>
    simp only [denEq, ht] at hd
    split at hd
    · split at hd
      · rename_i p
        obtain rfl := hy _ rfl
        refine ⟨_, fun w => ?_, hd⟩
        have hb := binOp_eq_gen (P := P) (y := .pointer none) neg (by simp) (by simp) (by simp) (by simp) (equal_ptr_nil ht p) w
        cases neg <;> simpa [eqOp, go_sem] using hb
      · exact hd.elim
    · exact hd.elim
  | slice e =>
    simp only [denEq, ht] at hd
    split at hd
    · split at hd
      · rename_i m n _ p a b
        obtain rfl := hy _ rfl
        refine ⟨_, fun w => ?_, hd⟩
        have hb := binOp_eq_gen (P := P) (y := .slice none m n) neg (by simp) (by simp) (by simp) (by simp) (equal_slc_nil ht p a b m n) w
        cases neg <;> simpa [eqOp, go_sem] using hb
      · exact hd.elim
    · exact hd.elim
  | map e f =>
    simp only [denEq, ht] at hd
    split at hd
    · split at hd
      · rename_i p
        obtain rfl := hy _ rfl
        refine ⟨_, fun w => ?_, hd⟩
        have hb := binOp_eq_gen (P := P) (y := .map none) neg (by simp) (by simp) (by simp) (by simp) (equal_map_nil ht p) w
        cases neg <;> simpa [eqOp, go_sem] using hb
      · exact hd.elim
    · exact hd.elim
  | interface ms =>
    simp only [denEq, ht] at hd
    split at hd
    · obtain ⟨hx, hk⟩ := hd
      obtain rfl := hy _ rfl
      refine ⟨_, fun w => ?_, hk⟩
      have hb := binOp_eq_gen (P := P) (y := .nilIface) neg (by intros; rintro rfl; simp [isIface] at hx) (by intros; rintro rfl; simp [isIface] at hx) (by intros; rintro rfl; simp [isIface] at hx) (by intros; rintro rfl; simp [isIface] at hx) (equal_iface_nil ht x hx) w
      have hg : eqGuard (eqOp neg) t xo (.const .nilIface) x .nilIface = pure () := by cases x <;> simp [isIface] at hx <;> simp [go_sem]
      rw [hg]
      cases neg <;> simpa [eqOp] using hb
    · exact hd.elim
  | func a b c =>
    simp only [denEq, ht] at hd
    split at hd
    · obtain ⟨hx, hk⟩ := hd
      obtain rfl := hy _ rfl
      refine ⟨_, fun w => ?_, hk⟩
      have hb := binOp_eq_gen (P := P) (y := .nilFunc) neg (by intros; rintro rfl; simp [isFunc] at hx) (by intros; rintro rfl; simp [isFunc] at hx) (by intros; rintro rfl; simp [isFunc] at hx) (by intros; rintro rfl; simp [isFunc] at hx) (equal_func_nil ht x hx) w
      have hg : eqGuard (eqOp neg) t xo (.const .nilFunc) x .nilFunc = pure () := by cases x <;> simp [isFunc] at hx <;> simp [go_sem]
      rw [hg]
      cases neg <;> simpa [eqOp] using hb
    · exact hd.elim
  | int ki =>
    simp only [denEq, ht] at hd
    cases x <;> try exact hd.elim
    cases y <;> try exact hd.elim
    rename_i kx a ky b
    simp only at hd
    cases hke : ikEq kx ky with
    | false => simp only [hke] at hd; exact hd.elim
    | true =>
      simp only [hke] at hd
      obtain rfl := ikEq_eq hke
      refine ⟨_, fun w => ?_, hd⟩
      cases neg <;> simp [eqOp, go_sem, eqRes, bne]
  | bool =>
    simp only [denEq, ht] at hd
    cases x <;> try exact hd.elim
    cases y <;> try exact hd.elim
    rename_i a b
    refine ⟨_, fun w => ?_, hd⟩
    have hb := binOp_eq_gen (P := P) (y := .bool b) neg (by simp) (by simp) (by simp) (by simp) (equal_bool ht a b) w
    cases neg <;> simpa [eqOp, go_sem] using hb
  | string =>
    simp only [denEq, ht] at hd
    cases x <;> try exact hd.elim
    cases y <;> try exact hd.elim
    rename_i a b
    refine ⟨_, fun w => ?_, hd⟩
    rw [← str_eq]
    cases neg <;> simp [eqOp, go_sem, eqRes, binOp, Op.stringOp]
  | struct fields =>
    simp only [denEq, ht] at hd
    cases x <;> try exact hd.elim
    rename_i xs
    simp only at hd
    cases hr : eqTy P 8 t (.agg xs) y with
    | none => simp only [hr] at hd; exact hd.elim
    | some r =>
      simp only [hr] at hd
      refine ⟨_, fun w => ?_, hd⟩
      have h1 := (eqTy_sound 8 hr 9992 w).1
      have h2 := (eqTy_sound 8 hr 9992 w).2.1
      have hg : (eqGuard (eqOp neg) t xo yo (.agg xs) y).run P w = .ok () w := by
        have hy' : ∃ ys, y = .agg ys := by
          unfold eqTy at hr
          simp only [ht] at hr
          cases hst : P.stoodInHeld t with
          | true => simp only [hst] at hr; cases hr
          | false =>
            simp only [hst] at hr
            cases y <;> try cases hr
            exact ⟨_, rfl⟩
        obtain ⟨ys, rfl⟩ := hy'
        have h2' : (Op.eqGuardIn Op.maxDepth t (.agg xs) (.agg ys)).run P w = .ok false w := h2
        cases neg
        all_goals
          simp only [eqGuard, eqOp, Bool.false_eq_true, if_false, if_true, Bool.not_true, Sem.run_bind, run_program, Result.andThen_ok]
          simp only [Sem.run_ite]
          split
          · rfl
          · simp only [Sem.run_bind, h2', Result.andThen_ok, Bool.false_eq_true, if_false]
            rfl
      have h1' : (Op.equal t (.agg xs) y).run P w = .ok r w := h1
      have hb := binOp_eq_gen (P := P) (t := t) (x := .agg xs) (y := y) (r := r) neg (by simp) (by simp) (by simp) (by simp)
      rw [Sem.run_bind, hg, Result.andThen_ok]
      exact hb (fun w => (eqTy_sound 8 hr 9992 w).1) w
  | _ => simp only [denEq, ht] at hd; exact hd.elim

theorem denBin_sound {op : BinOp} {t : TypeId} {xo yo : Operand} {x y : Value} (hy : ∀ c, yo = .const c → y = c) (hd : denBin P op t yo x y k h Q) :
    ∃ v, (∀ w, (do eqGuard op t xo yo x y; binOp op t x y : Sem Value).run P w = .ok v w) ∧ k v h Q := by
  unfold denBin at hd
  split at hd
  · exact denEq_sound (neg := false) hy hd
  · exact denEq_sound (neg := true) hy hd
  · rename_i h1 h2
    have hg : ∀ a b, eqGuard op t xo yo a b = pure () := by intro a b; cases op <;> first | rfl | exact absurd rfl h1 | exact absurd rfl h2
    rw [hg]
    split at hd
    · obtain ⟨v, hv, hk⟩ := denInt_sound (t := t) h1 h2 hd
      exact ⟨v, fun w => by simpa using hv w, hk⟩
    · obtain ⟨v, hv, hk⟩ := denStr_sound (t := t) h1 h2 hd
      exact ⟨v, fun w => by simpa using hv w, hk⟩
    · exact hd.elim

theorem add_zero (a : Addr) : a.add 0 = a := by simp [Addr.add]
theorem cellH_spot {h : Heap} {a : Addr} {v : Value} (hc : cellH h a = some v) : a.spot = none := by
  unfold cellH at hc
  split at hc
  · cases hs : a.spot with
    | none => rfl
    | some x => simp [hs] at hc
  · cases hc

/-! ### cells -/
theorem run_load1 {w : World} {a : Addr} {v : Value} (hc : cellH w.heap a = some v) : (load a).run P w = .ok v w := by
  rw [run_load, cell_eq, hc]

theorem run_loadCellsFrom (a : Addr) (w : World) : ∀ (vs : List Value) (i : Nat) (acc : Array Value), (∀ (j : Nat) v, vs[j]? = some v → cellH w.heap (a.add (i + j)) = some v) →
    (loadCellsFrom a i vs.length acc).run P w = .ok (acc ++ vs.toArray) w
  | [], _, acc, _ => by simp [loadCellsFrom]
  | v :: vs, i, acc, hc => by
    have h0 := hc 0 v rfl
    simp only [List.length_cons, loadCellsFrom, Sem.run_bind]
    rw [run_load1 (by simpa using h0)]
    simp only [Result.andThen_ok]
    rw [run_loadCellsFrom a w vs (i + 1) (acc.push v) (fun j u hj => by have := hc (j + 1) u (by simpa using hj); rwa [show i + 1 + j = i + (j + 1) from by omega])]
    congr 1
    apply Array.toList_inj.1
    simp

theorem run_loadCells {a : Addr} {w : World} {vs : List Value} {n : Nat} (hn : n = vs.length) (hc : ∀ (j : Nat) v, vs[j]? = some v → cellH w.heap (a.add j) = some v) :
    (loadCells a n).run P w = .ok vs.toArray w := by
  subst hn
  have := run_loadCellsFrom (P := P) a w vs 0 #[] (by simpa using hc)
  simpa [loadCells] using this

theorem denConvert_sound {s t : TypeId} {x : Value} (hd : denConvert P s t x k h Q) :
    ∃ v, (∀ w, (w.heap = h ∨ ∃ kd, P.underlying t = some (.int kd)) → (convert s t x).run P w = .ok v w) ∧ k v h Q := by
  cases hs : P.underlying s with
  | none => simp only [denConvert, hs] at hd; exact hd.elim
  | some ds =>
  cases ht : P.underlying t with
  | none => simp only [denConvert, hs, ht] at hd; exact hd.elim
  | some dt =>
  cases dt with
  | int kd =>
    simp only [denConvert, hs, ht] at hd
    cases x <;> try exact hd.elim
    exact ⟨_, fun w _ => by simp [convert, run_und hs, run_und ht, Conv.intToInt], hd⟩
  | string =>
    simp only [denConvert, hs, ht] at hd
    cases x <;> try exact hd.elim
    · exact ⟨_, fun w _ => by simp [convert, run_und hs, run_und ht], hd⟩
    · rename_i a n c
      simp only at hd
      cases ds with
      | slice e =>
        simp only at hd
        cases he : P.underlying e with
        | none => simp only [he] at hd; exact hd.elim
        | some de =>
        simp only [he] at hd
        cases de with
        | int kd =>
          cases kd with
          | u8 =>
            obtain ⟨ns, hr, hq⟩ := hd
            refine ⟨_, fun w hw => ?_, hq⟩
            have hw : w.heap = h := by
              rcases hw with hw | ⟨kd, hk⟩
              · exact hw
              · cases hk
            subst hw
            rw [run_convert_bytes_string w s t e a n c hs he ht]
            cases a with
            | none =>
              have hns : ns = [] := by simpa [readsH] using hr
              subst hns
              rfl
            | some a =>
              obtain ⟨h1, h2⟩ := hr
              refine run_bytesToString w a n c ns ?_
              exact run_loadCells (by simpa using h1.symm) (fun j v hv => h2 j v (by simpa using hv))
          | _ => exact hd.elim
        | _ => exact hd.elim
      | _ => exact hd.elim
  | _ => simp only [denConvert, hs, ht] at hd; exact hd.elim

end
end Go.H
