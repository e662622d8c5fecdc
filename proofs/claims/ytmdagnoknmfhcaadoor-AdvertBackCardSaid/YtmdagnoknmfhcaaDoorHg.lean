/-
  Hg: what 'den' says of an operation is what the model does: all operations together.
-/
import Derived.Test.YtmdagnoknmfhcaaDoorHf
namespace Go.H
set_option linter.unusedSimpArgs false
set_option linter.unusedVariables false

section
variable {P : Program} {ρ : Type} {k : Value → HM ρ} {h : Heap} {Q : ρ → Heap → Prop}

theorem memN_sound : ∀ {l : List Nat} {n : Nat}, memN n l = true → n ∈ l
  | [], _, h => by cases h
  | t :: ts, n, h => by
    simp only [memN] at h
    cases hb : Nat.beq t n with
    | true => rw [Nat.eq_of_beq_eq_true hb]; exact List.mem_cons_self ..
    | false => rw [hb] at h; exact List.mem_cons_of_mem _ (memN_sound h)

theorem run_call {c : Call} {ev : Operand → Value} {o : Oper} {f : FuncId} {first captured : Array Value} {x : Operand} (ho : o.op = .call c) (hc : c.callee = .value x)
    (hx : ev x = .func (.func f) first captured) (hf : CallOK P f) (w : World) : (execOp ev o).run P w = .ok (.enter f (first ++ c.args.map ev ++ captured)) w := by
  have := hf (first ++ c.args.map ev ++ captured) w
  rw [Array.append_assoc] at this ⊢
  simp [execOp, ho, resolve, hc, hx, Deferred.ofValue, invoke, this]

theorem run_builtin {c : Call} {ev : Operand → Value} {o : Oper} {b : Builtin} (ho : o.op = .call c) (hc : c.callee = .builtin b) (w : World) :
    (execOp ev o).run P w = (builtin b c.argTypes o.type (c.args.map fun | .const _ => true | _ => false) (c.args.map ev)).run P w := by
  simp only [execOp, ho, Sem.run_bind]
  simp only [resolve, hc, Sem.run_pure, Result.andThen_ok, invoke]
  rfl

theorem denCall_sound {C : List Nat} {c : Call} {ev : Operand → Value} {o : Oper} {f : FuncId} {vs : List Value} (hC : ∀ f, f ∈ C → CallOK P f) (ho : o.op = .call c) (hc : c.callee = .value (.func f))
    (hev : ev (.func f) = .func (.func f) #[] #[]) (hvs : c.args.map ev = vs.toArray) (hd : denCall P C o.type (.func (.func f) #[] #[]) vs k h Q) : Does P (execOp ev o) h fun v h' => k v h' Q := by
  intro w hw
  subst hw
  simp only [denCall] at hd
  cases hm : memN f C with
  | false => simp only [hm] at hd; exact hd.elim
  | true =>
  simp only [hm] at hd
  rw [run_call ho hc hev (hC f (memN_sound hm)) w, hvs]
  refine ⟨Same.refl w, ?_⟩
  have e1 : (#[] ++ vs.toArray ++ #[] : Array Value) = ((#[] : Array Value).toList ++ (vs ++ (#[] : Array Value).toList)).toArray := by simp
  rw [e1]
  cases hr : retOf P o.type with
  | none => simp only [hr] at hd; exact hd.elim
  | some r =>
    cases r with
    | one kd =>
      simp only [hr] at hd
      exact HCalls.mono (Q := fun v h' => ∃ x, v = kd.val x ∧ k (kd.val x) h' Q) hd fun v h' ⟨x, hx, hq⟩ => by subst hx; exact hq
    | many ks =>
      simp only [hr] at hd
      exact HCalls.mono (Q := fun v h' => ∃ x, v = .tuple (KTup.vals ks x).toArray ∧ k (.tuple (KTup.vals ks x).toArray) h' Q) hd fun v h' ⟨x, hx, hq⟩ => by subst hx; exact hq

theorem denCallV_sound {c : Call} {ev : Operand → Value} {o : Oper} {x : Operand} {vs : List Value} (ho : o.op = .call c) (hc : c.callee = .value x)
    (hvs : c.args.map ev = vs.toArray) (hd : denCallV P o.type (ev x) vs k h Q) : Does P (execOp ev o) h fun v h' => k v h' Q := by
  intro w hw
  subst hw
  unfold denCallV at hd
  cases hr : retOf P o.type with
  | none => simp only [hr] at hd; exact hd.elim
  | some r =>
    cases r with
    | one kd =>
      simp only [hr] at hd
      obtain ⟨f, first, captured, hx, hf, hd⟩ := hd
      rw [run_call ho hc hx hf w, hvs]
      exact ⟨Same.refl w, HCalls.mono hd fun v h' ⟨x, hx, hq⟩ => by subst hx; exact hq⟩
    | many ks =>
      simp only [hr] at hd
      obtain ⟨f, first, captured, hx, hf, hd⟩ := hd
      rw [run_call ho hc hx hf w, hvs]
      exact ⟨Same.refl w, HCalls.mono hd fun v h' ⟨x, hx, hq⟩ => by subst hx; exact hq⟩

theorem denPick_sound {n : Nat} {e : Env} {d : Dec} {a : Act} (hA : Agree n e a) (hD : DecOK d a) {o : Oper} {c x y : Operand} (ho : o.op = .pick c x y) (hd : denPick e d c x y k h Q) :
    ∃ v, Stat P (execOp a.eval o) v ∧ k v h Q := by
  unfold denPick at hd
  cases c with
  | tmp t =>
    simp only at hd
    have hrun : ∀ b w, a.eval (.tmp t) = .bool b → (execOp a.eval o).run P w = .ok (.value (if b = true then a.eval x else a.eval y)) w := by
      intro b w hb
      simp [execOp, ho, hb, asBool]
    cases hg : d.get t with
    | some b =>
      have hb : a.eval (.tmp t) = .bool b := by
        have := hD t b hg
        simp [Act.eval, this]
      cases b with
      | true =>
        simp only [hg] at hd
        cases hx : e.ev x with
        | none => simp only [hx] at hd; exact hd.elim
        | some v =>
          simp only [hx] at hd
          exact ⟨v, fun w => by rw [hrun true w hb, hA.ev hx]; rfl, hd⟩
      | false =>
        simp only [hg] at hd
        cases hx : e.ev y with
        | none => simp only [hx] at hd; exact hd.elim
        | some v =>
          simp only [hx] at hd
          exact ⟨v, fun w => by rw [hrun false w hb, hA.ev hx]; rfl, hd⟩
    | none =>
      simp only [hg] at hd
      cases hu : e.ev (.tmp t) with
      | none => simp only [hu] at hd; exact hd.elim
      | some u =>
      simp only [hu] at hd
      cases u <;> try exact hd.elim
      rename_i u
      cases hv : e.ev x with
      | none => simp only [hv] at hd; exact hd.elim
      | some v =>
      simp only [hv] at hd
      cases v <;> try exact hd.elim
      rename_i v
      cases hz : e.ev y with
      | none => simp only [hz] at hd; exact hd.elim
      | some z =>
      simp only [hz] at hd
      cases z <;> try exact hd.elim
      rename_i z
      exact ⟨_, fun w => by rw [hrun u w (hA.ev hu), hA.ev hv, hA.ev hz]; cases u <;> rfl, hd⟩
  | _ => exact hd.elim

theorem OpLex.eff {c : Cls} {s : Sem Next} {Φ : Value → Heap → Prop} (hc : c = .eff) (hd : Does P s h Φ) : OpLex P c s h Φ := by subst hc; exact hd
theorem OpLex.stat {c : Cls} {s : Sem Next} {Φ : Value → Heap → Prop} (hc : c = .stat) (hd : ∃ v, Stat P s v ∧ Φ v h) : OpLex P c s h Φ := by subst hc; exact hd
theorem OpLex.read {c : Cls} {s : Sem Next} {Φ : Value → Heap → Prop} (hc : c = .read) (hd : ∃ v, ReadsAt P s h v ∧ Φ v h) : OpLex P c s h Φ := by subst hc; exact hd

theorem denBuiltin_lex {n : Nat} {e : Env} {a : Act} {o : Oper} {c : Call} {b : Builtin} {vs : List Value} (ho : o.op = .call c) (hc : c.callee = .builtin b)
    (hvs : c.args.map a.eval = vs.toArray) (hd : denBuiltin P b c.argTypes.toList vs k h Q) : OpLex P (clsOf P o.op) (execOp a.eval o) h fun v h' => k v h' Q := by
  have hvs' : (c.args.map a.eval).toList = vs := by rw [hvs]
  rw [← hvs'] at hd
  unfold denBuiltin at hd
  cases b <;> try exact hd.elim
  case len =>
    refine OpLex.read (by simp [clsOf, ho, hc]) ?_
    obtain ⟨v, hv, hq⟩ := denLen_sound (ty := o.type) hd
    exact ⟨v, fun w hw => by rw [run_builtin ho hc]; simp [builtin, hv w hw], hq⟩
  all_goals refine OpLex.eff (by simp [clsOf, ho, hc]) ?_
  all_goals intro w hw
  case append =>
    obtain ⟨r, w', hr, hs, hq⟩ := denAppend_sound (ty := o.type) hd w hw
    rw [run_builtin ho hc]
    have : (builtin .append c.argTypes o.type (c.args.map fun | .const _ => true | _ => false) (c.args.map a.eval)).run P w = .ok (.value r) w' := by simp [builtin, hr]
    rw [this]; exact ⟨hs, hq⟩
  case delete =>
    obtain ⟨r, w', hr, hs, hq⟩ := denDelete_sound (ty := o.type) hd w hw
    rw [run_builtin ho hc]
    have : (builtin .delete c.argTypes o.type (c.args.map fun | .const _ => true | _ => false) (c.args.map a.eval)).run P w = .ok (.value r) w' := by simp [builtin, hr]
    rw [this]; exact ⟨hs, hq⟩
  case max =>
    obtain ⟨v, hv, hq⟩ := denMinMax_sound (P := P) (ts := c.argTypes) (ty := o.type) hd
    rw [run_builtin ho hc]
    have : (builtin .max c.argTypes o.type (c.args.map fun | .const _ => true | _ => false) (c.args.map a.eval)).run P w = .ok (.value v) w := by
      have := hv w; simp at this; simp [builtin, this]
    rw [this]; exact ⟨Same.refl w, by rw [hw]; exact hq⟩
  case min =>
    obtain ⟨v, hv, hq⟩ := denMinMax_sound (P := P) (ts := c.argTypes) (ty := o.type) hd
    rw [run_builtin ho hc]
    have : (builtin .min c.argTypes o.type (c.args.map fun | .const _ => true | _ => false) (c.args.map a.eval)).run P w = .ok (.value v) w := by
      have := hv w; simp at this; simp [builtin, this]
    rw [this]; exact ⟨Same.refl w, by rw [hw]; exact hq⟩

/-- ONE OPERATION, whatever it is. -/
theorem denOp_lex {C : List Nat} (hC : ∀ f, f ∈ C → CallOK P f) {n : Nat} {e : Env} {d : Dec} {a : Act} (hA : Agree n e a) (hD : DecOK d a) {o : Oper} (hd : denOp P C e d o k h Q) :
    OpLex P (clsOf P o.op) (execOp a.eval o) h fun v h' => k v h' Q := by
  unfold denOp at hd
  cases ho : o.op <;> simp only [ho] at hd <;> try exact hd.elim
  case move x =>
    cases hx : e.ev x with
    | none => simp only [hx] at hd; exact hd.elim
    | some v =>
      simp only [hx] at hd
      exact OpLex.stat rfl ⟨v, fun w => by simp [execOp, ho, hA.ev hx], hd⟩
  case assign x =>
    cases hx : e.ev x with
    | none => simp only [hx] at hd; exact hd.elim
    | some v =>
      simp only [hx] at hd
      exact OpLex.stat rfl ⟨v, fun w => by simp [execOp, ho, hA.ev hx], hd⟩
  case pick c x y => exact OpLex.stat rfl (denPick_sound hA hD ho hd)
  case alloc t =>
    have := Does.of_v (Φ := fun v h' => k v h' Q) (denAlloc_sound hd)
    exact OpLex.eff rfl (by simpa [execOp, ho] using this)
  case box t x =>
    cases hx : e.ev x with
    | none => simp only [hx] at hd; exact hd.elim
    | some v =>
      simp only [hx] at hd
      have := Does.of_v (Φ := fun v h' => k v h' Q) (denBox_sound hd)
      exact OpLex.eff rfl (by simpa [execOp, ho, hA.ev hx] using this)
  case build t ps =>
    cases hx : evParts e ps.toList with
    | none => simp only [hx] at hd; exact hd.elim
    | some vs =>
      simp only [hx] at hd
      have hp := hA.parts hx
      have hp' : ps.map (fun (i, x) => (i, a.eval x)) = vs.toArray := by apply Array.toList_inj.1; simpa using hp
      obtain ⟨v, hv, hq⟩ := denBuild_sound (ps := vs.toArray) (by simpa using hd)
      refine OpLex.stat rfl ⟨v, ?_, hq⟩
      have := Stat.of hv
      simpa [execOp, ho, hp'] using this
  case buildSlice t m ps =>
    cases hx : evParts e ps.toList with
    | none => simp only [hx] at hd; exact hd.elim
    | some vs =>
      simp only [hx] at hd
      have hp := hA.parts hx
      have hp' : ps.map (fun (i, x) => (i, a.eval x)) = vs.toArray := by apply Array.toList_inj.1; simpa using hp
      have := Does.of_v (Φ := fun v h' => k v h' Q) (denBuildSlice_sound (ps := vs.toArray) (by simpa using hd))
      exact OpLex.eff rfl (by simpa [execOp, ho, hp'] using this)
  case load t x =>
    cases hx : e.ev x with
    | none => simp only [hx] at hd; exact hd.elim
    | some v =>
      simp only [hx] at hd
      obtain ⟨u, hu, hq⟩ := denLoad_sound hd
      refine OpLex.read rfl ⟨u, ?_, hq⟩
      have := ReadsAt.of hu
      simpa [execOp, ho, hA.ev hx] using this
  case store t x y =>
    cases hx : e.ev x with
    | none => simp only [hx] at hd; exact hd.elim
    | some v =>
    simp only [hx] at hd
    cases hy : e.ev y with
    | none => simp only [hy] at hd; exact hd.elim
    | some u =>
      simp only [hy] at hd
      have := Does.of_u (Φ := fun v h' => k v h' Q) (denStore_sound hd)
      exact OpLex.eff rfl (by simpa [execOp, ho, hA.ev hx, hA.ev hy] using this)
  case nilCheck x =>
    cases hx : e.ev x with
    | none => simp only [hx] at hd; exact hd.elim
    | some v =>
      simp only [hx] at hd
      rw [← hA.ev hx] at hd
      exact OpLex.stat rfl (denNilCheck_sound ho hd)
  case binOp op t x y t2 =>
    cases hx : e.ev x with
    | none => simp only [hx] at hd; exact hd.elim
    | some v =>
    simp only [hx] at hd
    cases hy : e.ev y with
    | none => simp only [hy] at hd; exact hd.elim
    | some u =>
      simp only [hy] at hd
      obtain ⟨r, hr, hq⟩ := denBin_sound (xo := x) (fun c hc => by subst hc; simp only [Env.ev, Option.some.injEq] at hy; exact hy.symm) hd
      refine OpLex.stat rfl ⟨r, ?_, hq⟩
      have := Stat.of hr
      simpa [execOp, ho, hA.ev hx, hA.ev hy] using this
  case unOp op t x =>
    cases hx : e.ev x with
    | none => simp only [hx] at hd; exact hd.elim
    | some v =>
      simp only [hx] at hd
      obtain ⟨r, hr, hq⟩ := denUn_sound (P := P) hd
      refine OpLex.stat rfl ⟨r, ?_, hq⟩
      have := Stat.of hr
      simpa [execOp, ho, hA.ev hx] using this
  case convert s t x =>
    cases hx : e.ev x with
    | none => simp only [hx] at hd; exact hd.elim
    | some v =>
      simp only [hx] at hd
      obtain ⟨r, hr, hq⟩ := denConvert_sound hd
      simp only [clsOf]
      split
      · rename_i kd hk
        refine ⟨r, ?_, hq⟩
        have := Stat.of (fun w => hr w (.inr ⟨kd, hk⟩))
        simpa [execOp, ho, hA.ev hx] using this
      · refine Does.of_read (v := r) ?_ hq
        have := ReadsAt.of (fun w hw => hr w (.inl hw))
        simpa [execOp, ho, hA.ev hx] using this
  case mapEntry t x y =>
    cases hx : e.ev x with
    | none => simp only [hx] at hd; exact hd.elim
    | some v =>
    simp only [hx] at hd
    cases hy : e.ev y with
    | none => simp only [hy] at hd; exact hd.elim
    | some u =>
      simp only [hy] at hd
      have := Does.of_v (Φ := fun v h' => k v h' Q) (denMapEntry_sound hd)
      exact OpLex.eff rfl (by simpa [execOp, ho, hA.ev hx, hA.ev hy] using this)
  case entryStore t x y z =>
    cases hx : e.ev x with
    | none => simp only [hx] at hd; exact hd.elim
    | some v =>
    simp only [hx] at hd
    cases hy : e.ev y with
    | none => simp only [hy] at hd; exact hd.elim
    | some u =>
    simp only [hy] at hd
    cases hz : e.ev z with
    | none => simp only [hz] at hd; exact hd.elim
    | some u' =>
      simp only [hz] at hd
      have := Does.of_u (P := P) (Φ := fun v h' => k v h' Q) (denEntryStore_sound (P := P) (t := t) hd)
      exact OpLex.eff rfl (by simpa [execOp, ho, hA.ev hx, hA.ev hy, hA.ev hz] using this)
  case range t x =>
    cases hx : e.ev x with
    | none => simp only [hx] at hd; exact hd.elim
    | some v =>
      simp only [hx] at hd
      have := Does.of_v (Φ := fun v h' => k v h' Q) (denRange_sound hd)
      exact OpLex.eff rfl (by simpa [execOp, ho, hA.ev hx] using this)
  case next x str =>
    cases hx : e.ev x with
    | none => simp only [hx] at hd; exact hd.elim
    | some v =>
      simp only [hx] at hd
      have := Does.of_v (P := P) (Φ := fun v h' => k v h' Q) (denNext_sound (P := P) (t := o.type) hd)
      exact OpLex.eff rfl (by simpa [execOp, ho, hA.ev hx] using this)
  case makeInterface t x =>
    cases hx : e.ev x with
    | none => simp only [hx] at hd; exact hd.elim
    | some v =>
      simp only [hx] at hd
      refine OpLex.stat rfl ?_
      cases ht : P.underlying t with
      | none => simp only [ht] at hd; exact hd.elim
      | some dd =>
        simp only [ht] at hd
        cases dd <;> first
          | exact hd.elim
          | exact ⟨_, fun w => by simp [execOp, ho, hA.ev hx, Instr.makeInterface, run_und ht], hd⟩
  case makeFunc fn first captured =>
    cases hx : e.evs first.toList with
    | none => simp only [hx] at hd; exact hd.elim
    | some vs =>
    simp only [hx] at hd
    cases hy : e.evs captured.toList with
    | none => simp only [hy] at hd; exact hd.elim
    | some us =>
      simp only [hy] at hd
      refine OpLex.stat rfl ⟨_, fun w => ?_, hd⟩
      simp [execOp, ho, hA.evs_arr hx, hA.evs_arr hy, Instr.makeFunc]
  case makeMap t r =>
    cases r with
    | some r => exact hd.elim
    | none =>
      refine OpLex.eff rfl ?_
      intro w hw
      subst hw
      have : (execOp a.eval o).run P w = .ok (.value (.map (some w.heap.size))) (w.alloc (.map #[] 0)) := by simp [execOp, ho, Instr.makeMap]
      rw [this]
      exact ⟨⟨rfl, rfl, rfl⟩, hd⟩
  case makeSlice t x y =>
    cases hx : e.ev x with
    | none => simp only [hx] at hd; exact hd.elim
    | some v =>
    simp only [hx] at hd
    cases hy : e.ev y with
    | none => simp only [hy] at hd; exact hd.elim
    | some u =>
      simp only [hy] at hd
      have := Does.of_v (Φ := fun v h' => k v h' Q) (denMakeSlice_sound hd)
      exact OpLex.eff rfl (by simpa [execOp, ho, hA.ev hx, hA.ev hy] using this)
  case slice t x lo hi mx =>
    cases hx : e.ev x with
    | none => simp only [hx] at hd; exact hd.elim
    | some v =>
    simp only [hx] at hd
    cases hl : optInt e lo with
    | none => simp only [hl] at hd; exact hd.elim
    | some l =>
    simp only [hl] at hd
    cases hh : optInt e hi with
    | none => simp only [hh] at hd; exact hd.elim
    | some u =>
    simp only [hh] at hd
    cases hm : optInt e mx with
    | none => simp only [hm] at hd; exact hd.elim
    | some m =>
      simp only [hm] at hd
      obtain ⟨r, hr, hq⟩ := denSlice_sound (optInt_sound hA hl) (optInt_sound hA hh) (optInt_sound hA hm) hd
      refine OpLex.stat rfl ⟨r, ?_, hq⟩
      have := Stat.of hr
      simpa [execOp, ho, hA.ev hx] using this
  case fieldAddr t x f =>
    cases hx : e.ev x with
    | none => simp only [hx] at hd; exact hd.elim
    | some v =>
      simp only [hx] at hd
      obtain ⟨r, hr, hq⟩ := denFieldAddr_sound hd
      refine OpLex.stat rfl ⟨r, ?_, hq⟩
      have := Stat.of hr
      simpa [execOp, ho, hA.ev hx] using this
  case field t x f =>
    cases hx : e.ev x with
    | none => simp only [hx] at hd; exact hd.elim
    | some v =>
      simp only [hx] at hd
      obtain ⟨r, hr, hq⟩ := denField_sound hd
      refine OpLex.stat rfl ⟨r, ?_, hq⟩
      have := Stat.of hr
      simpa [execOp, ho, hA.ev hx] using this
  case indexAddr t x y =>
    cases hx : e.ev x with
    | none => simp only [hx] at hd; exact hd.elim
    | some v =>
    simp only [hx] at hd
    cases hy : e.ev y with
    | none => simp only [hy] at hd; exact hd.elim
    | some u =>
      simp only [hy] at hd
      obtain ⟨r, hr, hq⟩ := denIndexAddr_sound hd
      refine OpLex.stat rfl ⟨r, ?_, hq⟩
      have := Stat.of hr
      simpa [execOp, ho, hA.ev hx, hA.ev hy] using this
  case index t x y =>
    cases hx : e.ev x with
    | none => simp only [hx] at hd; exact hd.elim
    | some v =>
    simp only [hx] at hd
    cases hy : e.ev y with
    | none => simp only [hy] at hd; exact hd.elim
    | some u =>
      simp only [hy] at hd
      obtain ⟨r, hr, hq⟩ := denIndex_sound hd
      refine OpLex.stat rfl ⟨r, ?_, hq⟩
      have := Stat.of hr
      simpa [execOp, ho, hA.ev hx, hA.ev hy] using this
  case lookup t x y ok =>
    cases hx : e.ev x with
    | none => simp only [hx] at hd; exact hd.elim
    | some v =>
    simp only [hx] at hd
    cases hy : e.ev y with
    | none => simp only [hy] at hd; exact hd.elim
    | some u =>
      simp only [hy] at hd
      obtain ⟨r, hr, hq⟩ := denLookup_sound hd
      refine OpLex.read rfl ⟨r, ?_, hq⟩
      have := ReadsAt.of hr
      simpa [execOp, ho, hA.ev hx, hA.ev hy] using this
  case mapUpdate t x y z =>
    cases hx : e.ev x with
    | none => simp only [hx] at hd; exact hd.elim
    | some v =>
    simp only [hx] at hd
    cases hy : e.ev y with
    | none => simp only [hy] at hd; exact hd.elim
    | some u =>
    simp only [hy] at hd
    cases hz : e.ev z with
    | none => simp only [hz] at hd; exact hd.elim
    | some u' =>
      simp only [hz] at hd
      have := Does.of_u (Φ := fun v h' => k v h' Q) (denMapSet_sound hd)
      exact OpLex.eff rfl (by simpa [execOp, ho, hA.ev hx, hA.ev hy, hA.ev hz] using this)
  case insert t x y z =>
    cases hx : e.ev x with
    | none => simp only [hx] at hd; exact hd.elim
    | some v =>
    simp only [hx] at hd
    cases hy : e.ev y with
    | none => simp only [hy] at hd; exact hd.elim
    | some u =>
    simp only [hy] at hd
    cases hz : e.ev z with
    | none => simp only [hz] at hd; exact hd.elim
    | some u' =>
      simp only [hz] at hd
      have := Does.of_u (Φ := fun v h' => k v h' Q) (denMapSet_sound hd)
      exact OpLex.eff rfl (by simpa [execOp, ho, hA.ev hx, hA.ev hy, hA.ev hz] using this)
  case extract x i =>
    cases hx : e.ev x with
    | none => simp only [hx] at hd; exact hd.elim
    | some v =>
      cases v <;> simp only [hx] at hd <;> try exact hd.elim
      rename_i vs
      cases hi : vs.toList[i]? with
      | none => simp only [hi] at hd; exact hd.elim
      | some u =>
        simp only [hi] at hd
        refine OpLex.stat rfl ⟨u, fun w => ?_, hd⟩
        have hi' : vs[i]? = some u := by simpa using hi
        simp [execOp, ho, hA.ev hx, Instr.extract, hi']
  case call c =>
    cases hx : e.evs c.args.toList with
    | none => simp only [hx] at hd; exact hd.elim
    | some vs =>
      simp only [hx] at hd
      have hvs := hA.evs_arr hx
      cases hc : c.callee with
      | builtin b =>
        simp only [hc] at hd
        have := denBuiltin_lex (n := n) (e := e) ho hc hvs hd
        rwa [ho] at this
      | invoke x m => simp only [hc] at hd; exact hd.elim
      | value x =>
        refine OpLex.eff (by simp [clsOf, hc]) ?_
        cases x with
        | func f =>
          simp only [hc] at hd
          exact denCall_sound hC ho hc rfl hvs hd
        | tmp t =>
          simp only [hc] at hd
          cases hv : e.ev (.tmp t) with
          | none => simp only [hv] at hd; exact hd.elim
          | some v =>
            simp only [hv] at hd
            rw [← hA.ev hv] at hd
            exact denCallV_sound ho hc hvs hd
        | const v =>
          simp only [hc] at hd
          exact denCallV_sound (x := .const v) ho hc hvs hd
        | global g =>
          simp only [hc] at hd
          exact denCallV_sound (x := .global g) ho hc hvs hd


theorem denOpE_lex {C : List Nat} (hC : ∀ f, f ∈ C → CallOK P f) {n : Nat} {e : Env} {d : Dec} {a : Act} (hA : Agree n e a) (hD : DecOK d a) {ops : Array Oper} {o : Oper} (hd : denOpE P C ops e d o k h Q) :
    OpLex P (clsOf P o.op) (execOp a.eval o) h fun v h' => k v h' Q := by
  have key : (∃ x, o.op = .entry x) ∨ denOpE P C ops e d o k = denOp P C e d o k := by
    unfold denOpE
    cases o.op <;> first | exact .inr rfl | exact .inl ⟨_, rfl⟩
  rcases key with ⟨x, ho⟩ | key
  · unfold denOpE at hd
    simp only [ho] at hd
    cases hx : e.ev x with
    | none => simp only [hx] at hd; exact hd.elim
    | some v =>
      simp only [hx] at hd
      obtain ⟨r, hr, hq⟩ := denEntry_sound (P := P) hd
      refine OpLex.eff (by rw [ho]; rfl) (Does.of_read (v := r) ?_ hq)
      have := ReadsAt.of hr
      simpa [execOp, ho, hA.ev hx] using this
  · rw [key] at hd
    exact denOp_lex hC hA hD hd

end
end Go.H
