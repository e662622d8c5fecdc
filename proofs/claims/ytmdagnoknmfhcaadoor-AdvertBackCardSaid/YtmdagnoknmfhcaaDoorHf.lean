/-
  Hf: what 'den' says of an operation is what the model does: appends, maps, calls; and all of them together.
-/
import Derived.Test.YtmdagnoknmfhcaaDoorHe
namespace Go.H
set_option linter.unusedSimpArgs false
set_option linter.unusedVariables false

section
variable {P : Program} {ρ : Type} {k : Value → HM ρ} {h : Heap} {Q : ρ → Heap → Prop}

/-! ### append -/

theorem run_firstCells_slc {a : Option Addr} {m n c size : Nat} {vs : Array Value} {w : World} (hr : readsH w.heap a (n * size) vs) :
    (Builtin.firstCells size n (.slice a m c)).run P w = .ok vs w := by
  cases a with
  | none => simp only [readsH] at hr; subst hr; rfl
  | some x =>
    obtain ⟨h1, h2⟩ := hr
    have := run_loadCells (P := P) (a := x) (w := w) (vs := vs.toList) (n := n * size) (by simp [h1]) (fun j v hj => h2 j v (by simpa using hj))
    simpa [Builtin.firstCells] using this

theorem run_firstCells_str {s : ByteArray} {size : Nat} {w : World} : (Builtin.firstCells size s.size (.string s)).run P w = .ok (s.data.map fun b => .int .u8 b.toNat) w := by
  simp [Builtin.firstCells, ByteArray.extract_zero_size]

theorem append_gen {t u elem : TypeId} {ty : TypeId} {i : TypeInfo} {z x : Value} {s : Slc} {n : Nat} {src : Heap → Array Value → Prop} {du : TypeDesc}
    (ht : P.underlying t = some (.slice elem)) (hu : P.underlying u = some du) (hdu : ∀ kd, du ≠ .int kd) (hi : P.info? elem = some i) (hz : i.zero = some z)
    (hlen : ∀ w, (Builtin.lenOf x).run P w = .ok n w)
    (hsrc : ∀ (w : World) (vs : Array Value), src w.heap vs → (Builtin.firstCells i.size n x).run P w = .ok vs w)
    {R : Slc → Heap → Prop} (hd : HM.append elem i.size i.bytes z.cells s n src h R) :
    ∀ w, w.heap = h → ∃ r w', (Builtin.append_ #[t, u] ty #[.slice s.a s.len s.cap, x]).run P w = .ok (.slice r.a r.len r.cap) w' ∧ Same w w' ∧ R r w'.heap := by
  intro w hw
  subst hw
  obtain ⟨h1, h2⟩ := hd
  have hzf : (match du with | .int _ => true | _ => false) = false := by cases du <;> first | rfl | exact absurd rfl (hdu _)
  by_cases hle : s.len + n ≤ s.cap
  · obtain ⟨vs, hvs, hm⟩ := h1 hle
    cases ha : s.a with
    | none =>
      simp only [ha] at hm
      refine ⟨_, w, ?_, Same.refl w, hm⟩
      simp [Builtin.append_, run_und ht, run_und hu, hzf, run_size hi, hlen, hle, hsrc w vs hvs]
    | some a =>
      simp only [ha] at hm
      obtain ⟨h3, hq⟩ := hm
      obtain ⟨w', hr, hs, hh⟩ := run_storeCells (P := P) (a.add (s.len * i.size)) vs.toList 0 w (fun j v hj => by rw [Nat.zero_add]; exact h3 j v (by simpa using hj))
      refine ⟨⟨some a, s.len + n, s.cap⟩, w', ?_, hs, by rw [hh]; exact hq⟩
      simp [Builtin.append_, run_und ht, run_und hu, hzf, run_size hi, hlen, hle, hsrc w vs hvs, hr]
  · obtain ⟨hmax, hcap, old, vs, hold, hvs, hq⟩ := h2 (by omega)
    have hc1 : ¬ (((s.len + n : Nat) : Int) > IntKind.i64.max ∧ (false = true ∨ i.bytes = 0)) := by rw [IntKind.max_i64]; omega
    have hc2 : ¬ (Builtin.nextslicecap (s.len + n) s.cap * i.bytes > 2 ^ 48) := by omega
    have hge : s.len + n ≤ Question.cut (.appendCap (s.len + n) s.cap elem) (w.tape w.drawn (.appendCap (s.len + n) s.cap elem)) := by simp [Question.cut]
    have hle2 : Question.cut (.appendCap (s.len + n) s.cap elem) (w.tape w.drawn (.appendCap (s.len + n) s.cap elem)) ≤ 9223372036854775807 := by
      simp only [Question.cut]
      have := Nat.mod_lt (w.tape w.drawn (.appendCap (s.len + n) s.cap elem)) (show 2 ^ 63 - (s.len + n) > 0 by omega)
      omega
    refine ⟨_, (w.drew).alloc (.cells (old ++ vs ++ Builtin.zeroCells z.cells (Question.cut (.appendCap (s.len + n) s.cap elem) (w.tape w.drawn (.appendCap (s.len + n) s.cap elem)) - (s.len + n))) elem), ?_, ⟨rfl, rfl, rfl⟩, hq _ hge hle2⟩
    have hold' : (Builtin.firstCells i.size s.len (.slice s.a s.len s.cap)).run P w.drew = .ok old w.drew := run_firstCells_slc (w := w.drew) hold
    have hvs' : (Builtin.firstCells i.size n x).run P w.drew = .ok vs w.drew := hsrc w.drew vs hvs
    have hc1' : ¬ (((s.len : Int) + (n : Int)) > 9223372036854775807 ∧ i.bytes = 0) := by omega
    simp [Builtin.append_, run_und ht, run_und hu, hzf, run_size hi, hlen, hle, run_info hi, hc1', hc2, Question.forced, hold', hvs', run_zero hi hz, newRow]

theorem denAppend_sound {ts : Array TypeId} {ty : TypeId} {vs : Array Value} (hd : denAppend P ts.toList vs.toList k h Q) :
    ∀ w, w.heap = h → ∃ r w', (Builtin.append_ ts ty vs).run P w = .ok r w' ∧ Same w w' ∧ k r w'.heap Q := by
  obtain ⟨ts⟩ := ts
  obtain ⟨vs⟩ := vs
  simp only at hd
  unfold denAppend at hd
  match ts, vs, hd with
  | [t, u], [s, x], hd =>
    simp only at hd
    cases ht : P.underlying t with
    | none => simp only [ht] at hd; exact hd.elim
    | some d =>
    cases d with
    | slice elem =>
      simp only [ht] at hd
      cases s <;> try exact hd.elim
      rename_i a n c
      simp only at hd
      cases hi : P.info? elem with
      | none => simp only [hi] at hd; exact hd.elim
      | some i =>
      simp only [hi] at hd
      cases hz : i.zero with
      | none => simp only [hz] at hd; exact hd.elim
      | some z =>
      simp only [hz] at hd
      cases hu : P.underlying u with
      | none => simp only [hu] at hd; exact hd.elim
      | some du =>
      cases du with
      | slice e2 =>
        simp only [hu] at hd
        cases x <;> try exact hd.elim
        rename_i b m dd
        simp only at hd
        intro w hw
        obtain ⟨r, w', hr, hs, hq⟩ := append_gen (ty := ty) (x := .slice b m dd) (s := ⟨a, n, c⟩) ht hu (by simp) hi hz (fun w => rfl) (fun w vs hvs => run_firstCells_slc hvs) hd w hw
        exact ⟨_, w', hr, hs, hq⟩
      | string =>
        simp only [hu] at hd
        cases x <;> try exact hd.elim
        rename_i b
        simp only at hd
        intro w hw
        obtain ⟨r, w', hr, hs, hq⟩ := append_gen (ty := ty) (x := .string b) (s := ⟨a, n, c⟩) ht hu (by simp) hi hz (fun w => rfl) (fun w vs hvs => by simp only [srcStr] at hvs; subst hvs; exact run_firstCells_str) hd w hw
        exact ⟨_, w', hr, hs, hq⟩
      | _ => simp only [hu] at hd; exact hd.elim
    | _ => simp only [ht] at hd; exact hd.elim
  | [], _, hd => exact hd.elim
  | [_], _, hd => exact hd.elim
  | [_, _], [], hd => exact hd.elim
  | [_, _], [_], hd => exact hd.elim
  | [_, _], _ :: _ :: _ :: _, hd => exact hd.elim
  | _ :: _ :: _ :: _, _, hd => exact hd.elim

theorem denLen_sound {ts : Array TypeId} {ty : TypeId} {vs : Array Value} (hd : denLen P ts.toList vs.toList k h Q) :
    ∃ v, (∀ w, w.heap = h → (Builtin.len_ ts ty vs).run P w = .ok v w) ∧ k v h Q := by
  obtain ⟨ts⟩ := ts
  obtain ⟨vs⟩ := vs
  simp only at hd
  unfold denLen at hd
  match ts, vs, hd with
  | [t], [x], hd =>
    simp only at hd
    cases ht : P.underlying t with
    | none => simp only [ht] at hd; exact hd.elim
    | some d =>
    cases d with
    | string =>
      simp only [ht] at hd
      cases x <;> try exact hd.elim
      exact ⟨_, fun w _ => by simp [Builtin.len_, run_und ht, goInt], hd⟩
    | slice e =>
      simp only [ht] at hd
      cases x <;> try exact hd.elim
      exact ⟨_, fun w _ => by simp [Builtin.len_, run_und ht, goInt], hd⟩
    | array n e =>
      simp only [ht] at hd
      exact ⟨_, fun w _ => by simp [Builtin.len_, run_und ht, goInt], hd⟩
    | map a b =>
      simp only [ht] at hd
      cases x <;> try exact hd.elim
      rename_i r
      obtain ⟨es, clock, he, hq⟩ := hd
      refine ⟨_, fun w hw => ?_, hq⟩
      subst hw
      cases r with
      | none => obtain ⟨rfl, -⟩ := he; simp [Builtin.len_, run_und ht, goInt]
      | some r =>
        have hg : (getObj r).run P w = .ok (.map es.toArray clock) w := by
          have he' : w.heap[r]? = some (.map es.toArray clock) := he
          simp [getObj, Sem.run, he']
        simp [Builtin.len_, run_und ht, goInt, hg]
    | _ => simp only [ht] at hd; exact hd.elim
  | [], _, hd => exact hd.elim
  | [_], [], hd => exact hd.elim
  | [_], _ :: _ :: _, hd => exact hd.elim
  | _ :: _ :: _, _, hd => exact hd.elim

theorem denMinMax_sound {mx : Bool} {ts : Array TypeId} {ty : TypeId} {vs : Array Value} (hd : denMinMax mx vs.toList k h Q) :
    ∃ v, (∀ w, (if mx = true then Builtin.max_ ts ty vs else Builtin.min_ ts ty vs).run P w = .ok v w) ∧ k v h Q := by
  obtain ⟨vs⟩ := vs
  simp only at hd
  unfold denMinMax at hd
  split at hd
  · rename_i ka a kb b
    cases hk : ikEq ka kb with
    | false => simp only [hk] at hd; exact hd.elim
    | true =>
      simp only [hk] at hd
      obtain rfl := ikEq_eq hk
      cases mx with
      | true => exact ⟨_, fun w => by simp [Builtin.max_, Builtin.max2], hd⟩
      | false => exact ⟨_, fun w => by simp [Builtin.min_, Builtin.min2], hd⟩
  · rename_i ka a kb b kc c
    cases hk : ikEq ka kb && ikEq ka kc with
    | false => simp only [hk] at hd; exact hd.elim
    | true =>
      simp only [hk] at hd
      rw [Bool.and_eq_true] at hk
      obtain rfl := ikEq_eq hk.1
      obtain rfl := ikEq_eq hk.2
      cases mx with
      | true => exact ⟨_, fun w => by simp [Builtin.max_, Builtin.max2], hd⟩
      | false => exact ⟨_, fun w => by simp [Builtin.min_, Builtin.min2], hd⟩
  · exact hd.elim

theorem denMakeSlice_sound {t : TypeId} {n c : Value} (hd : denMakeSlice P t n c k h Q) :
    ∀ w, w.heap = h → ∃ r w', (Instr.makeSlice t n c).run P w = .ok r w' ∧ Same w w' ∧ k r w'.heap Q := by
  unfold denMakeSlice at hd
  cases ht : P.underlying t with
  | none => simp only [ht] at hd; exact hd.elim
  | some d =>
  cases d with
  | slice elem =>
    simp only [ht] at hd
    cases hi : P.info? elem with
    | none => simp only [hi] at hd; exact hd.elim
    | some i =>
    simp only [hi] at hd
    cases hz : i.zero with
    | none => simp only [hz] at hd; exact hd.elim
    | some z =>
    simp only [hz] at hd
    cases hb : Nat.beq z.cells.toList.length i.size with
    | false => simp only [hb] at hd; exact hd.elim
    | true =>
    simp only [hb] at hd
    cases n <;> try exact hd.elim
    cases c <;> try exact hd.elim
    rename_i kn n kc c
    obtain ⟨h0, h1, h2, h3, hq⟩ := hd
    intro w hw
    subst hw
    have hsz : z.cells.size = i.size := by simpa using Nat.eq_of_beq_eq_true hb
    refine ⟨_, w.alloc (.cells (Builtin.zeroCells z.cells c.toNat) elem), ?_, ⟨rfl, rfl, rfl⟩, hq⟩
    have hwn : IntKind.i64.wrap n = n := by simp [IntKind.wrap, IntKind.bits, IntKind.signed]; omega
    have hwc : IntKind.i64.wrap c = c := by simp [IntKind.wrap, IntKind.bits, IntKind.signed]; omega
    have hc1 : ¬ (c < 0) := by omega
    have hc2 : ¬ (281474976710656 < (i.bytes : Int) * c) := by omega
    have hn0 : ¬ (n < 0) := by omega
    have hnc : ¬ (c < n) := by omega
    by_cases hz0 : c.toNat * i.size = 0
    · have : Builtin.zeroCells z.cells c.toNat = #[] := by simp [Builtin.zeroCells, hsz, hz0]
      simp [Instr.makeSlice, run_und ht, asInt, asIntOf, run_info hi, hwn, hwc, hc1, hc2, hn0, hnc, run_size hi, hz0, newRow, this, Array.range_zero']
    · simp only [Builtin.zeroCells, hsz]
      simp [Instr.makeSlice, run_und ht, asInt, asIntOf, run_info hi, hwn, hwc, hc1, hc2, hn0, hnc, run_size hi, hz0, newRow, run_zero hi hz, hsz]
  | _ => simp only [ht] at hd; exact hd.elim

/-! ### maps -/

/-- keys that may be held against each other -/
def KeyOK (P : Program) (kt : TypeId) (kd : TypeDesc) (key : Value) : Prop := plainKey kd = true ∨ (∃ fs, kd = .struct fs) ∧ eqTy P 8 kt key key = some true

theorem keyReq_sound {kt : TypeId} {kd : TypeDesc} {key : Value} {m : HM ρ} (hd : keyReq P kt kd key m h Q) : KeyOK P kt kd key ∧ m h Q := by
  unfold keyReq at hd
  cases hp : plainKey kd with
  | true => simp only [hp] at hd; exact ⟨.inl hp, hd⟩
  | false =>
    simp only [hp] at hd
    cases kd <;> try exact hd.elim
    exact ⟨.inr ⟨⟨_, rfl⟩, hd.1⟩, hd.2⟩

theorem run_checkKeyN {kt : TypeId} {kd : TypeDesc} (hk : P.underlying kt = some kd) (hp : plainKey kd = true) (e : Bool) (n : Nat) (v : Value) (w : World) :
    (Instr.checkKey e (n + 1) kt v).run P w = .ok () w := by
  simp only [Instr.checkKey, Sem.run_bind, run_und hk, Result.andThen_ok]
  cases kd <;> first | (cases v <;> rfl) | cases hp

theorem run_checkKey {kt : TypeId} {kd : TypeDesc} {v : Value} (hk : P.underlying kt = some kd) (hp : KeyOK P kt kd v) (e : Bool) (w : World) :
    (Instr.checkKey e 10000 kt v).run P w = .ok () w := by
  rcases hp with hp | ⟨-, hp⟩
  · exact run_checkKeyN hk hp e 9999 v w
  · exact (eqTy_sound 8 hp 9992 w).2.2 e

theorem run_findAsking {kt : TypeId} {key : Value} {w : World} : ∀ (es : List MapEntry) (i : Nat) (o : Option (Nat × Value)), placeAt (eqTy P 8 kt) key es i = some o → (Instr.findAsking kt key es i).run P w = .ok o w
  | [], i, o, hf => by
    simp only [placeAt, Option.some.injEq] at hf
    subst hf
    rfl
  | e :: es, i, o, hf => by
    simp only [placeAt] at hf
    cases hs : eqTy P 8 kt key e.key with
    | none => simp only [hs] at hf; cases hf
    | some r =>
      have h1 : (Op.equal kt key e.key).run P w = .ok r w := (eqTy_sound 8 hs 9992 w).1
      simp only [Instr.findAsking, Sem.run_bind, h1, Result.andThen_ok]
      simp only [hs] at hf
      cases r with
      | true =>
        simp only [Option.some.injEq] at hf
        subst hf
        rfl
      | false =>
        simp only at hf
        simpa using run_findAsking es (i + 1) o hf

theorem run_findKey {kt : TypeId} {kd : TypeDesc} (hk : P.underlying kt = some kd) {key : Value} (hp : KeyOK P kt kd key) {es : List MapEntry} {o : Option (Nat × Value)} (hf : placeOf (keySame P kt kd) key es = some o) (w : World) :
    (Instr.findKey kt key es).run P w = .ok o w := by
  rcases hp with hp | ⟨⟨fs, rfl⟩, -⟩
  · have e : keySame P kt kd = Instr.sameNow kd := by cases kd <;> first | rfl | cases hp
    rw [e] at hf
    simp only [placeOf, placeAt_now] at hf
    simp [Instr.findKey, run_und hk, hf]
  · simp only [placeOf, keySame] at hf
    simp only [Instr.findKey, Sem.run_bind, run_und hk, Result.andThen_ok]
    cases es with
    | nil =>
      simp only [placeAt, Option.some.injEq] at hf
      subst hf
      rfl
    | cons e es =>
      have : Instr.findNow (.struct fs) key (e :: es) 0 = none := by simp [Instr.findNow, Instr.sameNow]
      rw [this]
      exact run_findAsking (e :: es) 0 o hf

theorem run_getObj {w : World} {r : Nat} {o : Obj} (ho : w.heap[r]? = some o) (hc : ∀ a b c, o ≠ .cells a b c) : (getObj r).run P w = .ok o w := by
  cases o <;> first | exact absurd rfl (hc _ _ _) | simp only [getObj, Sem.run, ho]

theorem run_setObj {w : World} {r : Nat} {o o' : Obj} (ho : w.heap[r]? = some o) (hc : ∀ a b c, o ≠ .cells a b c) : (setObj r o').run P w = .ok () { w with heap := w.heap.setIfInBounds r o' } := by
  cases o <;> first | exact absurd rfl (hc _ _ _) | simp only [setObj, Sem.run, ho]

theorem denLookup_sound {t : TypeId} {x key : Value} {ok : Bool} (hd : denLookup P t x key ok k h Q) :
    ∃ v, (∀ w, w.heap = h → (Instr.lookup t x key ok).run P w = .ok v w) ∧ k v h Q := by
  unfold denLookup at hd
  cases ht : P.underlying t with
  | none => simp only [ht] at hd; exact hd.elim
  | some d =>
  cases d with
  | map kt et =>
    simp only [ht] at hd
    cases hkt : P.underlying kt with
    | none => simp only [hkt] at hd; exact hd.elim
    | some kd =>
    simp only [hkt] at hd
    have hd0 := keyReq_sound hd
    clear hd
    obtain ⟨hp, hd⟩ := hd0
    cases x <;> try exact hd.elim
    rename_i r
    simp only at hd
    cases hi : P.info? et with
    | none => simp only [hi] at hd; exact hd.elim
    | some i =>
    simp only [hi] at hd
    cases hz : i.zero with
    | none => simp only [hz] at hd; exact hd.elim
    | some z =>
    simp only [hz] at hd
    cases hek : Kind.of z with
    | none => simp only [hek] at hd; exact hd.elim
    | some ek =>
    simp only [hek] at hd
    obtain ⟨es, clock, o, xx, he, hf, hv, hq⟩ := hd
    have hrun : ∀ w, w.heap = h → (Instr.lookup t (.map r) key ok).run P w = .ok (if ok = true then .tuple #[ek.val xx, .bool o.isSome] else ek.val xx) w := by
      intro w hw
      subst hw
      cases r with
      | none =>
        obtain ⟨rfl, -⟩ := he
        simp only [placeOf, placeAt, Option.some.injEq] at hf
        subst hf
        simp only at hv
        simp [Instr.lookup, run_und ht, run_checkKey hkt hp, run_findKey hkt hp (show placeOf (keySame P kt kd) key [] = some none from rfl), run_zero hi hz, hv]
      | some r =>
        have he' : w.heap[r]? = some (.map es.toArray clock) := he
        cases o with
        | none =>
          simp only at hv
          simp [Instr.lookup, run_und ht, run_getObj he' (by simp), run_checkKey hkt hp, run_findKey hkt hp hf, run_zero hi hz, hv]
        | some ov =>
          obtain ⟨j, vv⟩ := ov
          simp only at hv
          simp [Instr.lookup, run_und ht, run_getObj he' (by simp), run_checkKey hkt hp, run_findKey hkt hp hf, hv]
    cases ok with
    | true => exact ⟨_, hrun, hq⟩
    | false => exact ⟨_, hrun, hq⟩
  | _ => simp only [ht] at hd; exact hd.elim

theorem denMapSet_sound {t : TypeId} {x key v : Value} (hd : denMapSet P t x key v k h Q) :
    ∀ w, w.heap = h → ∃ w', (Instr.mapUpdate t x key v).run P w = .ok () w' ∧ Same w w' ∧ k undef w'.heap Q := by
  unfold denMapSet at hd
  cases ht : P.underlying t with
  | none => simp only [ht] at hd; exact hd.elim
  | some d =>
  cases d with
  | map kt et =>
    simp only [ht] at hd
    cases hkt : P.underlying kt with
    | none => simp only [hkt] at hd; exact hd.elim
    | some kd =>
    simp only [hkt] at hd
    have hd0 := keyReq_sound hd
    clear hd
    obtain ⟨hp, hd⟩ := hd0
    cases x <;> try exact hd.elim
    rename_i r
    obtain ⟨b, es, clock, o, rfl, he, hf, hq⟩ := hd
    intro w hw
    subst hw
    cases o with
    | none =>
      refine ⟨{ w with heap := w.heap.setIfInBounds b (.map (es.push { key := key, val := v, born := clock }) (clock + 1)) }, ?_, ⟨rfl, rfl, rfl⟩, hq⟩
      simp [Instr.mapUpdate, run_und ht, run_getObj he (by simp), run_checkKey hkt hp, run_findKey hkt hp hf, run_setObj he (by simp)]
    | some ov =>
      obtain ⟨j, vv⟩ := ov
      obtain ⟨hkey, hsb, hq⟩ := hq
      refine ⟨{ w with heap := w.heap.setIfInBounds b (.map (es.modify j fun e => { e with key := key, val := v }) clock) }, ?_, ⟨rfl, rfl, rfl⟩, hq⟩
      have hks : (Instr.keyThatStays (((es[j]?).map (·.key)).getD key) key).run P w = .ok key w := by
        rw [hkey]
        unfold Instr.keyThatStays
        rw [if_pos hsb]
        rfl
      simp [Instr.mapUpdate, run_und ht, run_getObj he (by simp), run_checkKey hkt hp, run_findKey hkt hp hf, run_setObj he (by simp), hks]
  | _ => simp only [ht] at hd; exact hd.elim

theorem denDelete_sound {ts : Array TypeId} {ty : TypeId} {vs : Array Value} (hd : denDelete P ts.toList vs.toList k h Q) :
    ∀ w, w.heap = h → ∃ r w', (Builtin.delete_ ts ty vs).run P w = .ok r w' ∧ Same w w' ∧ k r w'.heap Q := by
  obtain ⟨ts⟩ := ts
  obtain ⟨vs⟩ := vs
  simp only at hd
  unfold denDelete at hd
  match ts, vs, hd with
  | t :: tr, [x, key], hd =>
    simp only at hd
    cases ht : P.underlying t with
    | none => simp only [ht] at hd; exact hd.elim
    | some d =>
    cases d with
    | map kt et =>
      simp only [ht] at hd
      cases hkt : P.underlying kt with
      | none => simp only [hkt] at hd; exact hd.elim
      | some kd =>
      simp only [hkt] at hd
      have hd0 := keyReq_sound hd
      clear hd
      obtain ⟨hp, hd⟩ := hd0
      cases x <;> try exact hd.elim
      rename_i r
      intro w hw
      subst hw
      cases r with
      | none =>
        exact ⟨_, w, by simp [Builtin.delete_, run_und ht, run_checkKey hkt hp], Same.refl w, hd⟩
      | some b =>
        obtain ⟨es, clock, o, he, hf, hq⟩ := hd
        cases o with
        | none =>
          refine ⟨_, { w with heap := w.heap.setIfInBounds b (.map es clock) }, ?_, ⟨rfl, rfl, rfl⟩, hq⟩
          simp [Builtin.delete_, run_und ht, run_getObj he (by simp), run_checkKey hkt hp, run_findKey hkt hp hf, run_setObj he (by simp)]
        | some ov =>
          refine ⟨_, { w with heap := w.heap.setIfInBounds b (.map (es.eraseIdxIfInBounds ov.1) clock) }, ?_, ⟨rfl, rfl, rfl⟩, hq⟩
          simp [Builtin.delete_, run_und ht, run_getObj he (by simp), run_checkKey hkt hp, run_findKey hkt hp hf, run_setObj he (by simp)]
    | _ => simp only [ht] at hd; exact hd.elim
  | [], _, hd => exact hd.elim
  | _ :: _, [], hd => exact hd.elim
  | _ :: _, [_], hd => exact hd.elim
  | _ :: _, _ :: _ :: _ :: _, hd => exact hd.elim

/-! ### ranges -/

theorem denRange_sound {t : TypeId} {x : Value} (hd : denRange P t x k h Q) :
    ∀ w, w.heap = h → ∃ v w', (Instr.range t x).run P w = .ok v w' ∧ Same w w' ∧ k v w'.heap Q := by
  unfold denRange at hd
  cases ht : P.underlying t with
  | none => simp only [ht] at hd; exact hd.elim
  | some d =>
  cases d with
  | string =>
    simp only [ht] at hd
    cases x <;> try exact hd.elim
    intro w hw
    subst hw
    rename_i s
    refine ⟨_, w.alloc (.stringIter s 0), ?_, ⟨rfl, rfl, rfl⟩, hd⟩
    simp [Instr.range, run_und ht]
  | map kt et =>
    simp only [ht] at hd
    cases x <;> try exact hd.elim
    rename_i r
    intro w hw
    subst hw
    cases r with
    | none =>
      refine ⟨_, w.alloc (.mapIter none 0 #[] 0), ?_, ⟨rfl, rfl, rfl⟩, hd⟩
      simp [Instr.range, run_und ht]
    | some m =>
      obtain ⟨es, clock, he, hq⟩ := hd
      refine ⟨_, w.alloc (.mapIter (some m) clock #[] clock), ?_, ⟨rfl, rfl, rfl⟩, hq⟩
      simp [Instr.range, run_und ht, run_getObj he (by simp)]
  | _ => simp only [ht] at hd; exact hd.elim

theorem run_choose_some (n : Nat) (hn : 0 < n) (w : World) : ∃ i w', (choose (.mapNext n)).run P w = .ok i w' ∧ i < n ∧ w'.heap = w.heap ∧ Same w w' := by
  rw [run_choose]
  by_cases hf : (Question.mapNext n).forced = true
  · exact ⟨0, w, by rw [if_pos hf], hn, rfl, Same.refl w⟩
  · exact ⟨w.tape w.drawn (.mapNext n) % n, { w with drawn := w.drawn + 1 }, by rw [if_neg hf]; rfl, Nat.mod_lt _ hn, rfl, ⟨rfl, rfl, rfl⟩⟩

theorem denNext_sound {t : TypeId} {str : Bool} {x : Value} (hd : denNext str x k h Q) :
    ∀ w, w.heap = h → ∃ v w', (Instr.next x str t).run P w = .ok v w' ∧ Same w w' ∧ k v w'.heap Q := by
  unfold denNext at hd
  cases x <;> try exact hd.elim
  rename_i a
  cases a with
  | none => exact hd.elim
  | some a =>
  obtain ⟨b, off, sp⟩ := a
  simp only at hd
  cases off with
  | succ n => exact hd.elim
  | zero =>
  simp only [show Nat.beq 0 0 = true from rfl] at hd
  intro w hw
  subst hw
  cases str with
  | true =>
    obtain ⟨s, pos, ho, h1, h2⟩ := hd
    by_cases hp : pos < s.size
    · refine ⟨_, { w with heap := w.heap.setIfInBounds b (.stringIter s (pos + (Utf8.decode s pos).2)) }, ?_, ⟨rfl, rfl, rfl⟩, h1 hp⟩
      simp [Instr.next, run_getObj ho (by simp), hp, run_setObj ho (by simp), goInt]
    · refine ⟨_, w, ?_, Same.refl w, h2 hp⟩
      simp [Instr.next, run_getObj ho (by simp), hp]
  | false =>
    simp only at hd
    obtain ⟨m, since, seen, last, ho, hd⟩ := hd
    cases m with
    | none =>
      refine ⟨_, w, ?_, Same.refl w, hd⟩
      simp [Instr.next, run_getObj ho (by simp)]
    | some m =>
      obtain ⟨es, clock, he, hc, h1, h2⟩ := hd
      have hcc : (!seen.isEmpty && !es.isEmpty && es.all (fun e => decide (e.born ≥ last))) = false := hc
      let left := es.filter fun e => !seen.contains e.born
      let cand := (if (left.filter (fun e => decide (e.born < since))).isEmpty then #[none] else #[]) ++ (left.filter (fun e => decide (e.born < since)) ++ left.filter (fun e => decide (e.born ≥ since))).map some
      have hcand : 0 < cand.size := by
        simp only [cand]
        by_cases hz : (left.filter (fun e => decide (e.born < since))).isEmpty = true
        · simp [hz]; omega
        · have : left.filter (fun e => decide (e.born < since)) ≠ #[] := by simpa using hz
          have := Array.size_pos_iff.2 this
          simp only [Array.size_append, Array.size_map]
          omega
      obtain ⟨i, w', hr, hi, hh, hs⟩ := run_choose_some (P := P) cand.size hcand w
      have hci : cand[i]? = some cand[i] := Array.getElem?_eq_getElem hi
      have run0 : (Instr.next (.pointer (some ⟨b, 0, sp⟩)) false t).run P w = (match cand[i]? with
          | some (some e) => do setObj b (.mapIter (some m) since (seen.push e.born) clock); pure (.tuple #[.bool true, e.key, e.val])
          | some none => pure (.tuple #[.bool false])
          | none => stuck "Next: no such candidate" : Sem Value).run P w' := by
        simp only [Instr.next, Sem.run_bind, run_getObj ho (by simp), Result.andThen_ok, run_getObj he (by simp), hcc, Bool.false_eq_true, if_false]
        show ((choose (.mapNext cand.size)).run P w).andThen _ = _
        rw [hr]
        rfl
      rw [hci] at run0
      cases hx : cand[i] with
      | none =>
        rw [hx] at run0
        refine ⟨_, w', run0.trans rfl, hs, ?_⟩
        rw [hh]
        refine h1 fun e hem hse => ?_
        have hmem : none ∈ cand := hx ▸ Array.getElem_mem hi
        simp only [cand, Array.mem_append, Array.mem_map, reduceCtorEq, and_false, exists_false, or_false] at hmem
        split at hmem
        · rename_i hz
          have hz' : left.filter (fun e => decide (e.born < since)) = #[] := by simpa using hz
          by_cases hlt : e.born < since
          · have : e ∈ left.filter (fun e => decide (e.born < since)) := by simp [left, hem, hlt]; simpa using hse
            rw [hz'] at this
            simp at this
          · omega
        · simp at hmem
      | some e =>
        rw [hx] at run0
        have hmem : some e ∈ cand := hx ▸ Array.getElem_mem hi
        have hel : e ∈ left := by
          simp only [cand, Array.mem_append, Array.mem_map, Option.some.injEq, exists_eq_right] at hmem
          rcases hmem with hmem | hmem
          · split at hmem <;> simp at hmem
          · rcases hmem with hmem | hmem <;> exact (Array.mem_filter.1 hmem).1
        have hel' := Array.mem_filter.1 hel
        have hq := h2 e hel'.1 (by simpa using hel'.2)
        have ho' : w'.heap[b]? = some (.mapIter (some m) since seen last) := by rw [hh]; exact ho
        refine ⟨.tuple #[.bool true, e.key, e.val], { w' with heap := w'.heap.setIfInBounds b (.mapIter (some m) since (seen.push e.born) clock) }, run0.trans ?_, ⟨hs.os, hs.tape, hs.output⟩, ?_⟩
        · simp only [Sem.run_bind, run_setObj ho' (by simp), Result.andThen_ok]
          rfl
        · simpa [hh, HM.opt] using hq

theorem denEntry_sound {ka kb : Kind} {x : Value} (hd : denEntry ka kb x k h Q) : ∃ v, (∀ w, w.heap = h → (Instr.entry x).run P w = .ok v w) ∧ k v h Q := by
  unfold denEntry at hd
  cases x <;> try exact hd.elim
  rename_i a
  cases a with
  | none => exact hd.elim
  | some a =>
  obtain ⟨b, off, sp⟩ := a
  simp only at hd
  cases off with
  | succ n => exact hd.elim
  | zero =>
  simp only [show Nat.beq 0 0 = true from rfl] at hd
  obtain ⟨m, since, seen, stepped, es, stamp, e, kx, vx, ho, hb, he, hf, e1, e2, hq⟩ := hd
  refine ⟨_, fun w hw => ?_, hq⟩
  subst hw
  have hne : (stepped != stepped) = false := by simp
  simp [Instr.entry, run_getObj ho (by simp), run_getObj he (by simp), hb, hf, e1, e2]

theorem denMapEntry_sound {t : TypeId} {x key : Value} (hd : denMapEntry P t x key k h Q) :
    ∀ w, w.heap = h → ∃ v w', (Instr.mapEntry t x key).run P w = .ok v w' ∧ Same w w' ∧ k v w'.heap Q := by
  unfold denMapEntry at hd
  cases ht : P.underlying t with
  | none => simp only [ht] at hd; exact hd.elim
  | some d =>
  cases d with
  | map kt et =>
    simp only [ht] at hd
    cases hkt : P.underlying kt with
    | none => simp only [hkt] at hd; exact hd.elim
    | some kd =>
    simp only [hkt] at hd
    have hd0 := keyReq_sound hd
    clear hd
    obtain ⟨hp, hd⟩ := hd0
    cases x <;> try exact hd.elim
    rename_i r
    simp only at hd
    cases hi : P.info? et with
    | none => simp only [hi] at hd; exact hd.elim
    | some i =>
    simp only [hi] at hd
    cases hz : i.zero with
    | none => simp only [hz] at hd; exact hd.elim
    | some z =>
    simp only [hz] at hd
    cases hek : Kind.of z with
    | none => simp only [hek] at hd; exact hd.elim
    | some ek =>
    simp only [hek] at hd
    obtain ⟨b, es, clock, o, rfl, he, hf, hq⟩ := hd
    intro w hw
    subst hw
    cases o with
    | none =>
      obtain ⟨x, hx, hq⟩ := hq
      refine ⟨.tuple #[ek.val x, .int .i64 clock], { w with heap := w.heap.setIfInBounds b (.map (es.push { key := key, val := z, born := clock }) (clock + 1)) }, ?_, ⟨rfl, rfl, rfl⟩, hq⟩
      simp [Instr.mapEntry, run_und ht, run_getObj he (by simp), run_checkKey hkt hp, run_findKey hkt hp hf, run_setObj he (by simp), run_zero hi hz, goInt, ← hx]
    | some ov =>
      obtain ⟨j, vv⟩ := ov
      obtain ⟨hkey, hsb, x, hx, hq⟩ := hq
      refine ⟨.tuple #[ek.val x, .int .i64 ((((es[j]?).map (·.born)).getD 0 : Nat) : Int)], { w with heap := w.heap.setIfInBounds b (.map (es.modify j fun e => { e with key := key }) clock) }, ?_, ⟨rfl, rfl, rfl⟩, hq⟩
      have hks : (Instr.keyThatStays (((es[j]?).map (·.key)).getD key) key).run P w = .ok key w := by
        rw [hkey]
        unfold Instr.keyThatStays
        rw [if_pos hsb]
        rfl
      simp [Instr.mapEntry, run_und ht, run_getObj he (by simp), run_checkKey hkt hp, run_findKey hkt hp hf, run_setObj he (by simp), hks, goInt, ← hx]
      cases es[j]? <;> simp
  | _ => simp only [ht] at hd; exact hd.elim

theorem denEntryStore_sound {t : TypeId} {x stamp v : Value} (hd : denEntryStore x stamp v k h Q) :
    ∀ w, w.heap = h → ∃ w', (Instr.entryStore t x stamp v).run P w = .ok () w' ∧ Same w w' ∧ k undef w'.heap Q := by
  unfold denEntryStore at hd
  cases x <;> try exact hd.elim
  simp only at hd
  cases stamp <;> try exact hd.elim
  rename_i r kd n
  obtain ⟨b, es, clock, i, rfl, he, hf, hq⟩ := hd
  intro w hw
  subst hw
  refine ⟨{ w with heap := w.heap.setIfInBounds b (.map (es.modify i fun e => { e with val := v }) clock) }, ?_, ⟨rfl, rfl, rfl⟩, hq⟩
  simp [Instr.entryStore, run_getObj he (by simp), asInt, asIntOf, hf, run_setObj he (by simp)]

end
end Go.H
