/-
  Hf: what 'den' says of an operation is what the model does: appends, maps, calls; and all of them together.
-/
import Derived.Test.YthedaikdfhopoaaHe
namespace Go.H

section
variable {P : Program} {ρ : Type} {k : Value → HM ρ} {h : Heap} {Q : ρ → Heap → Prop}

/-! ### append -/

theorem run_firstCells_slc {a : Option Addr} {m n c size : Nat} {vs : Array Value} {w : World} (hr : readsH w.heap a (n * size) vs) :
    (Builtin.firstCells size n (.slice a m c)).run P w = .ok vs w := by
  cases a with
  | none => simp only [readsH] at hr; subst hr; rfl
  | some x =>
    obtain ⟨h1, h2⟩ := hr
    have := run_loadCells (P := P) (a := x) (w := w) (vs := vs.toList) (n := n * size) (by simp [h1]) (fun j v hj => h2 j v (by simpa using hj))
    simpa [Builtin.firstCells] using this

theorem run_firstCells_str {s : ByteArray} {size : Nat} {w : World} : (Builtin.firstCells size s.size (.string s)).run P w = .ok (s.data.map fun b => .int .u8 b.toNat) w := by
  simp [Builtin.firstCells, ByteArray.extract_zero_size]

theorem append_gen {t u elem : TypeId} {ty : TypeId} {i : TypeInfo} {z x : Value} {s : Slc} {n : Nat} {src : Heap → Array Value → Prop} {du : TypeDesc}
    (ht : P.underlying t = some (.slice elem)) (hu : P.underlying u = some du) (hdu : ∀ kd, du ≠ .int kd) (hi : P.info? elem = some i) (hz : i.zero = some z)
    (hlen : ∀ w, (Builtin.lenOf x).run P w = .ok n w)
    (hsrc : ∀ (w : World) (vs : Array Value), src w.heap vs → (Builtin.firstCells i.size n x).run P w = .ok vs w)
    {R : Slc → Heap → Prop} (hd : HM.append elem i.size i.bytes z.cells s n src h R) :
    ∀ w, w.heap = h → ∃ r w', (Builtin.append_ #[t, u] ty #[.slice s.a s.len s.cap, x]).run P w = .ok (.slice r.a r.len r.cap) w' ∧ Same w w' ∧ R r w'.heap := by
  intro w hw
  subst hw
  obtain ⟨h1, h2⟩ := hd
  have hzf : (match du with | .int _ => true | _ => false) = false := by cases du <;> first | rfl | exact absurd rfl (hdu _)
  by_cases hle : s.len + n ≤ s.cap
  · obtain ⟨vs, hvs, hm⟩ := h1 hle
    cases ha : s.a with
    | none =>
      simp only [ha] at hm
      refine ⟨_, w, ?_, Same.refl w, hm⟩
      simp [Builtin.append_, run_und ht, run_und hu, hzf, run_size hi, hlen, hle, hsrc w vs hvs]
    | some a =>
      simp only [ha] at hm
      obtain ⟨h3, hq⟩ := hm
      obtain ⟨w', hr, hs, hh⟩ := run_storeCells (P := P) (a.add (s.len * i.size)) vs.toList 0 w (fun j v hj => by rw [Nat.zero_add]; exact h3 j v (by simpa using hj))
      refine ⟨⟨some a, s.len + n, s.cap⟩, w', ?_, hs, by rw [hh]; exact hq⟩
      simp [Builtin.append_, run_und ht, run_und hu, hzf, run_size hi, hlen, hle, hsrc w vs hvs, hr]
  · obtain ⟨hmax, hcap, old, vs, hold, hvs, hq⟩ := h2 (by omega)
    have hc1 : ¬ (((s.len + n : Nat) : Int) > IntKind.i64.max ∧ (false = true ∨ i.bytes = 0)) := by rw [IntKind.max_i64]; omega
    have hc2 : ¬ (Builtin.nextslicecap (s.len + n) s.cap * i.bytes > 2 ^ 48) := by omega
    have hge : s.len + n ≤ Question.cut (.appendCap (s.len + n) s.cap elem) (w.tape w.drawn (.appendCap (s.len + n) s.cap elem)) := by simp [Question.cut]
    refine ⟨_, (w.drew).alloc (.cells (old ++ vs ++ Builtin.zeroCells z.cells (Question.cut (.appendCap (s.len + n) s.cap elem) (w.tape w.drawn (.appendCap (s.len + n) s.cap elem)) - (s.len + n))) elem), ?_, ⟨rfl, rfl, rfl⟩, hq _ hge⟩
    have hold' : (Builtin.firstCells i.size s.len (.slice s.a s.len s.cap)).run P w.drew = .ok old w.drew := run_firstCells_slc (w := w.drew) hold
    have hvs' : (Builtin.firstCells i.size n x).run P w.drew = .ok vs w.drew := hsrc w.drew vs hvs
    have hc1' : ¬ (((s.len : Int) + (n : Int)) > 9223372036854775807 ∧ i.bytes = 0) := by omega
    simp [Builtin.append_, run_und ht, run_und hu, hzf, run_size hi, hlen, hle, run_info hi, hc1', hc2, Question.forced, hold', hvs', run_zero hi hz, newRow]

theorem denAppend_sound {ts : Array TypeId} {ty : TypeId} {vs : Array Value} (hd : denAppend P ts.toList vs.toList k h Q) :
    ∀ w, w.heap = h → ∃ r w', (Builtin.append_ ts ty vs).run P w = .ok r w' ∧ Same w w' ∧ k r w'.heap Q := by
  obtain ⟨ts⟩ := ts
  obtain ⟨vs⟩ := vs
  simp only at hd
  unfold denAppend at hd
  match ts, vs, hd with
  | [t, u], [s, x], hd =>
    simp only at hd
    cases ht : P.underlying t with
    | none => simp only [ht] at hd; exact hd.elim
    | some d =>
    cases d with
    | slice elem =>
      simp only [ht] at hd
      cases s <;> try exact hd.elim
      rename_i a n c
      simp only at hd
      cases hi : P.info? elem with
      | none => simp only [hi] at hd; exact hd.elim
      | some i =>
      simp only [hi] at hd
      cases hz : i.zero with
      | none => simp only [hz] at hd; exact hd.elim
      | some z =>
      simp only [hz] at hd
      cases hu : P.underlying u with
      | none => simp only [hu] at hd; exact hd.elim
      | some du =>
      cases du with
      | slice e2 =>
        simp only [hu] at hd
        cases x <;> try exact hd.elim
        rename_i b m dd
        simp only at hd
        intro w hw
        obtain ⟨r, w', hr, hs, hq⟩ := append_gen (ty := ty) (x := .slice b m dd) (s := ⟨a, n, c⟩) ht hu (by simp) hi hz (fun w => rfl) (fun w vs hvs => run_firstCells_slc hvs) hd w hw
        exact ⟨_, w', hr, hs, hq⟩
      | string =>
        simp only [hu] at hd
        cases x <;> try exact hd.elim
        rename_i b
        simp only at hd
        intro w hw
        obtain ⟨r, w', hr, hs, hq⟩ := append_gen (ty := ty) (x := .string b) (s := ⟨a, n, c⟩) ht hu (by simp) hi hz (fun w => rfl) (fun w vs hvs => by simp only [srcStr] at hvs; subst hvs; exact run_firstCells_str) hd w hw
        exact ⟨_, w', hr, hs, hq⟩
      | _ => simp only [hu] at hd; exact hd.elim
    | _ => simp only [ht] at hd; exact hd.elim
  | [], _, hd => exact hd.elim
  | [_], _, hd => exact hd.elim
  | [_, _], [], hd => exact hd.elim
  | [_, _], [_], hd => exact hd.elim
  | [_, _], _ :: _ :: _ :: _, hd => exact hd.elim
  | _ :: _ :: _ :: _, _, hd => exact hd.elim

theorem denLen_sound {ts : Array TypeId} {ty : TypeId} {vs : Array Value} (hd : denLen P ts.toList vs.toList k h Q) :
    ∃ v, (∀ w, w.heap = h → (Builtin.len_ ts ty vs).run P w = .ok v w) ∧ k v h Q := by
  obtain ⟨ts⟩ := ts
  obtain ⟨vs⟩ := vs
  simp only at hd
  unfold denLen at hd
  match ts, vs, hd with
  | [t], [x], hd =>
    simp only at hd
    cases ht : P.underlying t with
    | none => simp only [ht] at hd; exact hd.elim
    | some d =>
    cases d with
    | string =>
      simp only [ht] at hd
      cases x <;> try exact hd.elim
      exact ⟨_, fun w _ => by simp [Builtin.len_, run_und ht, goInt], hd⟩
    | slice e =>
      simp only [ht] at hd
      cases x <;> try exact hd.elim
      exact ⟨_, fun w _ => by simp [Builtin.len_, run_und ht, goInt], hd⟩
    | array n e =>
      simp only [ht] at hd
      exact ⟨_, fun w _ => by simp [Builtin.len_, run_und ht, goInt], hd⟩
    | map a b =>
      simp only [ht] at hd
      cases x <;> try exact hd.elim
      rename_i r
      obtain ⟨es, clock, he, hq⟩ := hd
      refine ⟨_, fun w hw => ?_, hq⟩
      subst hw
      cases r with
      | none => obtain ⟨rfl, -⟩ := he; simp [Builtin.len_, run_und ht, goInt]
      | some r =>
        have hg : (getObj r).run P w = .ok (.map es.toArray clock) w := by
          have he' : w.heap[r]? = some (.map es.toArray clock) := he
          simp [getObj, Sem.run, he']
        simp [Builtin.len_, run_und ht, goInt, hg]
    | _ => simp only [ht] at hd; exact hd.elim
  | [], _, hd => exact hd.elim
  | [_], [], hd => exact hd.elim
  | [_], _ :: _ :: _, hd => exact hd.elim
  | _ :: _ :: _, _, hd => exact hd.elim

theorem denMinMax_sound {mx : Bool} {ts : Array TypeId} {ty : TypeId} {vs : Array Value} (hd : denMinMax mx vs.toList k h Q) :
    ∃ v, (∀ w, (if mx = true then Builtin.max_ ts ty vs else Builtin.min_ ts ty vs).run P w = .ok v w) ∧ k v h Q := by
  obtain ⟨vs⟩ := vs
  simp only at hd
  unfold denMinMax at hd
  split at hd
  · rename_i ka a kb b
    cases hk : ikEq ka kb with
    | false => simp only [hk] at hd; exact hd.elim
    | true =>
      simp only [hk] at hd
      obtain rfl := ikEq_eq hk
      cases mx with
      | true => exact ⟨_, fun w => by simp [Builtin.max_, Builtin.max2], hd⟩
      | false => exact ⟨_, fun w => by simp [Builtin.min_, Builtin.min2], hd⟩
  · exact hd.elim

theorem denMakeSlice_sound {t : TypeId} {n c : Value} (hd : denMakeSlice P t n c k h Q) :
    ∀ w, w.heap = h → ∃ r w', (Instr.makeSlice t n c).run P w = .ok r w' ∧ Same w w' ∧ k r w'.heap Q := by
  unfold denMakeSlice at hd
  cases ht : P.underlying t with
  | none => simp only [ht] at hd; exact hd.elim
  | some d =>
  cases d with
  | slice elem =>
    simp only [ht] at hd
    cases hi : P.info? elem with
    | none => simp only [hi] at hd; exact hd.elim
    | some i =>
    simp only [hi] at hd
    cases hz : i.zero with
    | none => simp only [hz] at hd; exact hd.elim
    | some z =>
    simp only [hz] at hd
    cases hb : Nat.beq z.cells.toList.length i.size with
    | false => simp only [hb] at hd; exact hd.elim
    | true =>
    simp only [hb] at hd
    cases n <;> try exact hd.elim
    cases c <;> try exact hd.elim
    rename_i kn n kc c
    obtain ⟨h0, h1, h2, h3, hq⟩ := hd
    intro w hw
    subst hw
    have hsz : z.cells.size = i.size := by simpa using Nat.eq_of_beq_eq_true hb
    refine ⟨_, w.alloc (.cells (Builtin.zeroCells z.cells c.toNat) elem), ?_, ⟨rfl, rfl, rfl⟩, hq⟩
    have hwn : IntKind.i64.wrap n = n := by simp [IntKind.wrap, IntKind.bits, IntKind.signed]; omega
    have hwc : IntKind.i64.wrap c = c := by simp [IntKind.wrap, IntKind.bits, IntKind.signed]; omega
    have hc1 : ¬ (c < 0) := by omega
    have hc2 : ¬ (281474976710656 < (i.bytes : Int) * c) := by omega
    have hn0 : ¬ (n < 0) := by omega
    have hnc : ¬ (c < n) := by omega
    by_cases hz0 : c.toNat * i.size = 0
    · have : Builtin.zeroCells z.cells c.toNat = #[] := by simp [Builtin.zeroCells, hsz, hz0]
      simp [Instr.makeSlice, run_und ht, asInt, asIntOf, run_info hi, hwn, hwc, hc1, hc2, hn0, hnc, run_size hi, hz0, newRow, this, Array.range_zero']
    · simp only [Builtin.zeroCells, hsz]
      simp [Instr.makeSlice, run_und ht, asInt, asIntOf, run_info hi, hwn, hwc, hc1, hc2, hn0, hnc, run_size hi, hz0, newRow, run_zero hi hz, hsz]
  | _ => simp only [ht] at hd; exact hd.elim

/-! ### maps -/

theorem run_checkKey {kt : TypeId} {kd : TypeDesc} (hk : P.underlying kt = some kd) (hp : plainKey kd = true) (e : Bool) (n : Nat) (v : Value) (w : World) :
    (Instr.checkKey e (n + 1) kt v).run P w = .ok () w := by
  simp only [Instr.checkKey, Sem.run_bind, run_und hk, Result.andThen_ok]
  cases kd <;> first | (cases v <;> rfl) | cases hp

theorem run_findKey {kt : TypeId} {kd : TypeDesc} (hk : P.underlying kt = some kd) {key : Value} {es : List MapEntry} {o : Option (Nat × Value)} (hf : placeOf kd key es = some o) (w : World) :
    (Instr.findKey kt key es).run P w = .ok o w := by
  simp only [placeOf] at hf
  simp [Instr.findKey, run_und hk, hf]

theorem run_getObj {w : World} {r : Nat} {o : Obj} (ho : w.heap[r]? = some o) (hc : ∀ a b c, o ≠ .cells a b c) : (getObj r).run P w = .ok o w := by
  cases o <;> first | exact absurd rfl (hc _ _ _) | simp only [getObj, Sem.run, ho]

theorem run_setObj {w : World} {r : Nat} {o o' : Obj} (ho : w.heap[r]? = some o) (hc : ∀ a b c, o ≠ .cells a b c) : (setObj r o').run P w = .ok () { w with heap := w.heap.setIfInBounds r o' } := by
  cases o <;> first | exact absurd rfl (hc _ _ _) | simp only [setObj, Sem.run, ho]

theorem denLookup_sound {t : TypeId} {x key : Value} {ok : Bool} (hd : denLookup P t x key ok k h Q) :
    ∃ v, (∀ w, w.heap = h → (Instr.lookup t x key ok).run P w = .ok v w) ∧ k v h Q := by
  unfold denLookup at hd
  cases ht : P.underlying t with
  | none => simp only [ht] at hd; exact hd.elim
  | some d =>
  cases d with
  | map kt et =>
    simp only [ht] at hd
    cases hkt : P.underlying kt with
    | none => simp only [hkt] at hd; exact hd.elim
    | some kd =>
    simp only [hkt] at hd
    cases hp : plainKey kd with
    | false => simp only [hp] at hd; exact hd.elim
    | true =>
    simp only [hp] at hd
    cases x <;> try exact hd.elim
    rename_i r
    simp only at hd
    cases hi : P.info? et with
    | none => simp only [hi] at hd; exact hd.elim
    | some i =>
    simp only [hi] at hd
    cases hz : i.zero with
    | none => simp only [hz] at hd; exact hd.elim
    | some z =>
    simp only [hz] at hd
    cases hek : Kind.of z with
    | none => simp only [hek] at hd; exact hd.elim
    | some ek =>
    simp only [hek] at hd
    obtain ⟨es, clock, o, xx, he, hf, hv, hq⟩ := hd
    have hrun : ∀ w, w.heap = h → (Instr.lookup t (.map r) key ok).run P w = .ok (if ok = true then .tuple #[ek.val xx, .bool o.isSome] else ek.val xx) w := by
      intro w hw
      subst hw
      cases r with
      | none =>
        obtain ⟨rfl, -⟩ := he
        simp only [placeOf, Instr.findNow, Option.some.injEq] at hf
        subst hf
        simp only at hv
        simp [Instr.lookup, run_und ht, run_checkKey hkt hp, run_findKey hkt (show placeOf kd key [] = some none from rfl), run_zero hi hz, hv]
      | some r =>
        have he' : w.heap[r]? = some (.map es.toArray clock) := he
        cases o with
        | none =>
          simp only at hv
          simp [Instr.lookup, run_und ht, run_getObj he' (by simp), run_checkKey hkt hp, run_findKey hkt hf, run_zero hi hz, hv]
        | some ov =>
          obtain ⟨j, vv⟩ := ov
          simp only at hv
          simp [Instr.lookup, run_und ht, run_getObj he' (by simp), run_checkKey hkt hp, run_findKey hkt hf, hv]
    cases ok with
    | true => exact ⟨_, hrun, hq⟩
    | false => exact ⟨_, hrun, hq⟩
  | _ => simp only [ht] at hd; exact hd.elim

theorem denMapSet_sound {t : TypeId} {x key v : Value} (hd : denMapSet P t x key v k h Q) :
    ∀ w, w.heap = h → ∃ w', (Instr.mapUpdate t x key v).run P w = .ok () w' ∧ Same w w' ∧ k undef w'.heap Q := by
  unfold denMapSet at hd
  cases ht : P.underlying t with
  | none => simp only [ht] at hd; exact hd.elim
  | some d =>
  cases d with
  | map kt et =>
    simp only [ht] at hd
    cases hkt : P.underlying kt with
    | none => simp only [hkt] at hd; exact hd.elim
    | some kd =>
    simp only [hkt] at hd
    cases hp : plainKey kd with
    | false => simp only [hp] at hd; exact hd.elim
    | true =>
    simp only [hp] at hd
    cases x <;> try exact hd.elim
    rename_i r
    obtain ⟨b, es, clock, o, rfl, he, hf, hq⟩ := hd
    intro w hw
    subst hw
    cases o with
    | none =>
      refine ⟨{ w with heap := w.heap.setIfInBounds b (.map (es.push { key := key, val := v, born := clock }) (clock + 1)) }, ?_, ⟨rfl, rfl, rfl⟩, hq⟩
      simp [Instr.mapUpdate, run_und ht, run_getObj he (by simp), run_checkKey hkt hp, run_findKey hkt hf, run_setObj he (by simp)]
    | some ov =>
      obtain ⟨j, vv⟩ := ov
      obtain ⟨hkey, hsb, hq⟩ := hq
      refine ⟨{ w with heap := w.heap.setIfInBounds b (.map (es.modify j fun e => { e with key := key, val := v }) clock) }, ?_, ⟨rfl, rfl, rfl⟩, hq⟩
      have hks : (Instr.keyThatStays (((es[j]?).map (·.key)).getD key) key).run P w = .ok key w := by
        rw [hkey]
        unfold Instr.keyThatStays
        rw [if_pos hsb]
        rfl
      simp [Instr.mapUpdate, run_und ht, run_getObj he (by simp), run_checkKey hkt hp, run_findKey hkt hf, run_setObj he (by simp), hks]
  | _ => simp only [ht] at hd; exact hd.elim

theorem denDelete_sound {ts : Array TypeId} {ty : TypeId} {vs : Array Value} (hd : denDelete P ts.toList vs.toList k h Q) :
    ∀ w, w.heap = h → ∃ r w', (Builtin.delete_ ts ty vs).run P w = .ok r w' ∧ Same w w' ∧ k r w'.heap Q := by
  obtain ⟨ts⟩ := ts
  obtain ⟨vs⟩ := vs
  simp only at hd
  unfold denDelete at hd
  match ts, vs, hd with
  | t :: tr, [x, key], hd =>
    simp only at hd
    cases ht : P.underlying t with
    | none => simp only [ht] at hd; exact hd.elim
    | some d =>
    cases d with
    | map kt et =>
      simp only [ht] at hd
      cases hkt : P.underlying kt with
      | none => simp only [hkt] at hd; exact hd.elim
      | some kd =>
      simp only [hkt] at hd
      cases hp : plainKey kd with
      | false => simp only [hp] at hd; exact hd.elim
      | true =>
      simp only [hp] at hd
      cases x <;> try exact hd.elim
      rename_i r
      intro w hw
      subst hw
      cases r with
      | none =>
        exact ⟨_, w, by simp [Builtin.delete_, run_und ht, run_checkKey hkt hp], Same.refl w, hd⟩
      | some b =>
        obtain ⟨es, clock, o, he, hf, hq⟩ := hd
        cases o with
        | none =>
          refine ⟨_, { w with heap := w.heap.setIfInBounds b (.map es clock) }, ?_, ⟨rfl, rfl, rfl⟩, hq⟩
          simp [Builtin.delete_, run_und ht, run_getObj he (by simp), run_checkKey hkt hp, run_findKey hkt hf, run_setObj he (by simp)]
        | some ov =>
          refine ⟨_, { w with heap := w.heap.setIfInBounds b (.map (es.eraseIdxIfInBounds ov.1) clock) }, ?_, ⟨rfl, rfl, rfl⟩, hq⟩
          simp [Builtin.delete_, run_und ht, run_getObj he (by simp), run_checkKey hkt hp, run_findKey hkt hf, run_setObj he (by simp)]
    | _ => simp only [ht] at hd; exact hd.elim
  | [], _, hd => exact hd.elim
  | _ :: _, [], hd => exact hd.elim
  | _ :: _, [_], hd => exact hd.elim
  | _ :: _, _ :: _ :: _ :: _, hd => exact hd.elim

end
end Go.H
