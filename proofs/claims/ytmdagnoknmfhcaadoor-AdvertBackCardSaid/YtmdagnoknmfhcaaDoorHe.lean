/-
  He: what 'den' says of an operation is what the model does: slices, appends, composite values, maps.
-/
import Derived.Test.YtmdagnoknmfhcaaDoorHd
namespace Go.H
set_option linter.unusedSimpArgs false
set_option linter.unusedVariables false

section
variable {P : Program} {ρ : Type} {k : Value → HM ρ} {h : Heap} {Q : ρ → Heap → Prop}

/-! ### slices -/

def IntOpt (v : Option Value) (r : Option Int) : Prop :=
  match r with
  | none => v = none
  | some n => ∃ kd, v = some (.int kd n)

theorem optInt_sound {n : Nat} {e : Env} {a : Act} (hA : Agree n e a) {x : Option Operand} {r : Option Int} (hx : optInt e x = some r) : IntOpt (x.map a.eval) r := by
  cases x with
  | none => simp only [optInt, Option.some.injEq] at hx; subst hx; rfl
  | some x =>
    simp only [optInt] at hx
    split at hx
    · rename_i kd m hv
      cases hx
      exact ⟨kd, by simp [hA.ev hv]⟩
    · cases hx

theorem run_sliceBound (kd : IntKind) (n : Int) (y : Nat) (code : BoundsCode) (m : Nat) (hm : n = (m : Int)) (hle : m ≤ y) (w : World) :
    (Instr.sliceBound (.int kd n) y code).run P w = .ok m w := by
  subst hm
  have h1 : (0 : Int) ≤ (m : Int) ∧ (m : Int) ≤ (y : Int) := by omega
  simp [Instr.sliceBound, asIntOf, h1]

theorem run_sliceBounds {b : Bool} {len cap : Nat} {lo hi mx : Option Value} {rl rh rm : Option Int} (hl : IntOpt lo rl) (hh : IntOpt hi rh) (hm : IntOpt mx rm) {l u m : Nat}
    (h1 : optLe rm (m = cap) m cap) (h2 : optLe rh (rm = none ∧ u = len) u m) (h3 : optLe rl (l = 0) l u) (w : World) : (Instr.sliceBounds b len cap lo hi mx).run P w = .ok (l, u, m) w := by
  unfold Instr.sliceBounds
  cases rm with
  | none =>
    simp only [IntOpt] at hm; subst hm
    simp only [optLe] at h1; subst h1
    cases rh with
    | none =>
      simp only [IntOpt] at hh; subst hh
      obtain ⟨-, rfl⟩ := h2
      cases rl with
      | none => simp only [IntOpt] at hl; subst hl; simp only [optLe] at h3; subst h3; rfl
      | some x => obtain ⟨kd, rfl⟩ := hl; simp [run_sliceBound _ _ _ _ _ h3.1 h3.2]
    | some y =>
      obtain ⟨kd, rfl⟩ := hh
      cases rl with
      | none => simp only [IntOpt] at hl; subst hl; simp only [optLe] at h3; subst h3; simp [run_sliceBound _ _ _ _ _ h2.1 h2.2]
      | some x => obtain ⟨kd, rfl⟩ := hl; simp [run_sliceBound _ _ _ _ _ h2.1 h2.2, run_sliceBound _ _ _ _ _ h3.1 h3.2]
  | some z =>
    obtain ⟨kz, rfl⟩ := hm
    cases rh with
    | none => exact absurd h2.1 (by simp)
    | some y =>
      obtain ⟨kd, rfl⟩ := hh
      cases rl with
      | none => simp only [IntOpt] at hl; subst hl; simp only [optLe] at h3; subst h3; simp [run_sliceBound _ _ _ _ _ h1.1 h1.2, run_sliceBound _ _ _ _ _ h2.1 h2.2]
      | some x => obtain ⟨kd, rfl⟩ := hl; simp [run_sliceBound _ _ _ _ _ h1.1 h1.2, run_sliceBound _ _ _ _ _ h2.1 h2.2, run_sliceBound _ _ _ _ _ h3.1 h3.2]

theorem denSlice_sound {t : TypeId} {x : Value} {lo hi mx : Option Value} {rl rh rm : Option Int} (hl : IntOpt lo rl) (hh : IntOpt hi rh) (hm : IntOpt mx rm)
    (hd : denSlice P t x rl rh rm k h Q) : ∃ v, (∀ w, (Instr.sliceAt t x lo hi mx).run P w = .ok v w) ∧ k v h Q := by
  unfold denSlice at hd
  cases hu : P.underlying t with
  | none => simp only [hu] at hd; exact hd.elim
  | some d =>
  cases d with
  | string =>
    simp only [hu] at hd
    cases x <;> try exact hd.elim
    rename_i s
    cases rm with
    | some _ => exact hd.elim
    | none =>
      obtain ⟨l, u, h1, h2, hq⟩ := hd
      refine ⟨_, fun w => ?_, hq⟩
      have hm' : mx = none := hm
      subst hm'
      have h1' : optLe rh ((none : Option Int) = none ∧ u = s.size) u s.size := by
        cases rh with
        | none => exact ⟨rfl, h1⟩
        | some y => exact h1
      have hb := run_sliceBounds (P := P) (b := false) (len := s.size) (cap := s.size) (m := s.size) hl hh (mx := none) (rm := none) rfl rfl h1' h2 w
      simp only [Instr.sliceAt, Sem.run_bind, run_und hu, Result.andThen_ok, Instr.slice, Option.isSome_none, Bool.false_eq_true, if_false, hb]
      rfl
  | slice elem =>
    simp only [hu] at hd
    cases x <;> try exact hd.elim
    rename_i a n c
    simp only at hd
    cases hi' : P.info? elem with
    | none => simp only [hi'] at hd; exact hd.elim
    | some inf =>
      simp only [hi'] at hd
      obtain ⟨l, u, m, h1, h2, h3, hq⟩ := hd
      refine ⟨_, fun w => ?_, hq⟩
      have hb := run_sliceBounds (P := P) (b := true) (len := n) (cap := c) hl hh hm h1 h2 h3 w
      simp only [Instr.sliceAt, Sem.run_bind, run_und hu, Result.andThen_ok, Instr.slice, hb, run_size hi']
      rfl
  | _ => simp only [hu] at hd; exact hd.elim

/-! ### composite values -/

def Kind.width : Kind → Nat
  | .one _ => 1
  | .agg ts => ts.length

theorem overlay_nil (cs : List Value) (off : Nat) : overlay cs off [] = cs := by cases cs <;> rfl
theorem overlay_cons (v : Value) (vs : List Value) : ∀ (cs : List Value) (off : Nat), off < cs.length → overlay cs off (v :: vs) = overlay (cs.set off v) (off + 1) vs
  | [], off, h => by simp at h
  | c :: cs, 0, _ => by
    cases vs with
    | nil => simp [overlay, overlay_nil]
    | cons u us => simp [overlay]
  | c :: cs, off + 1, h => by
    have ih := overlay_cons v vs cs off (by simpa using h)
    cases vs with
    | nil => simp only [overlay, List.set_cons_succ, overlay_nil] at ih ⊢; rw [ih]
    | cons u us => simp only [overlay, List.set_cons_succ] at ih ⊢; rw [ih]
theorem overlay_len (vs : List Value) : ∀ (cs : List Value) (off : Nat), (overlay cs off vs).length = cs.length := by
  induction vs with
  | nil => intro cs off; rw [overlay_nil]
  | cons v vs ih =>
    intro cs off
    induction cs generalizing off with
    | nil => rfl
    | cons c cs ihc =>
      cases off with
      | zero => simp only [overlay, List.length_cons]; rw [ih]
      | succ off => simp only [overlay, List.length_cons]; rw [ihc]

theorem fold_overlay (off : Nat) : ∀ (vs : List Value) (i : Nat) (cs : List Value), off + i + vs.length ≤ cs.length →
    (vs.zipIdx i).foldl (fun cs (x : Value × Nat) => cs.setIfInBounds (off + x.2) x.1) cs.toArray = (overlay cs (off + i) vs).toArray
  | [], i, cs, _ => by simp [overlay_nil]
  | v :: vs, i, cs, hle => by
    simp only [List.length_cons] at hle
    rw [overlay_cons v vs cs (off + i) (by omega)]
    have := fold_overlay off vs (i + 1) (cs.set (off + i) v) (by simp; omega)
    simp only [List.zipIdx_cons, List.foldl_cons]
    rw [show off + i + 1 = off + (i + 1) from by omega, ← this]
    congr 1
    simp

theorem cellsAs_len {kd : Kind} {v : Value} {cs : List Value} (h1 : cellsAs kd v = some cs) : cs.length = kd.width := by
  cases kd with
  | one t => simp only [cellsAs, Option.some.injEq] at h1; subst h1; rfl
  | agg ts =>
    simp only [cellsAs] at h1
    cases v <;> simp only at h1 <;> try cases h1
    split at h1
    · rename_i hb; cases h1; exact Nat.eq_of_beq_eq_true hb
    · cases h1

theorem reqParts_sound {place : Nat → Option (Nat × Kind)} {m : HM ρ} : ∀ (ps : List (Nat × Value)), reqParts place ps m h Q →
    (∀ i v off kd, (i, v) ∈ ps → place i = some (off, kd) → ∀ t, kd = .one t → v.oneCell' = true) ∧ m h Q
  | [], hd => by
    refine ⟨fun _ _ _ _ hm => ?_, hd⟩
    exact absurd hm (List.not_mem_nil)
  | (i, v) :: rest, hd => by
    simp only [reqParts] at hd
    cases hp : place i with
    | none => simp only [hp] at hd; exact hd.elim
    | some x =>
      obtain ⟨off, kd⟩ := x
      simp only [hp] at hd
      obtain ⟨h1, h2⟩ := reqOne_sound hd
      obtain ⟨h3, h4⟩ := reqParts_sound rest h2
      refine ⟨fun j u off' kd' hm hp' => ?_, h4⟩
      cases hm with
      | head => rw [hp] at hp'; cases hp'; exact h1
      | tail _ hm => exact h3 j u off' kd' hm hp'

theorem fill_sound {place' : Nat → Option (Nat × Nat)} {place : Nat → Option (Nat × Kind)} (hpl : ∀ i off kd, place i = some (off, kd) → place' i = some (off, kd.width)) :
    ∀ (ps : List (Nat × Value)) (cs out : List Value), fillAs place cs ps = some out →
      (∀ i v off kd, (i, v) ∈ ps → place i = some (off, kd) → ∀ t, kd = .one t → v.oneCell' = true) → Instr.fill place' cs.toArray ps = some out.toArray
  | [], cs, out, hf, _ => by simp only [fillAs, Option.some.injEq] at hf; subst hf; rfl
  | (i, v) :: rest, cs, out, hf, hone => by
    simp only [fillAs] at hf
    split at hf
    · rename_i off kd hp
      split at hf
      · rename_i vs hvs
        split at hf
        · rename_i hb
          have hle : off + vs.length ≤ cs.length := Nat.le_of_ble_eq_true hb
          have hcells := cellsAs_cells hvs (hone i v off kd (List.mem_cons_self ..) hp)
          have hlen := cellsAs_len hvs
          have ih := fill_sound hpl rest _ out hf (fun j u off' kd' hm => hone j u off' kd' (List.mem_cons_of_mem _ hm))
          simp only [Instr.fill, hpl i off kd hp, hcells]
          have hc1 : ¬ ((vs.toArray.size ≠ kd.width || off + vs.toArray.size > cs.toArray.size) = true) := by
            simp [hlen]; omega
          rw [if_neg hc1]
          rw [← ih]
          congr 1
          have := fold_overlay off vs 0 cs (by omega)
          rw [Nat.add_zero] at this
          rw [← this]
          simp [← Array.foldl_toList]
        · cases hf
      · cases hf
    · cases hf

theorem run_mapM {α β : Type} {f : α → Sem β} {g : α → β} {w : World} : ∀ (xs : List α), (∀ x ∈ xs, (f x).run P w = .ok (g x) w) → (xs.mapM f).run P w = .ok (xs.map g) w
  | [], _ => rfl
  | x :: xs, hf => by
    rw [List.mapM_cons]
    simp only [Sem.run_bind, hf x (List.mem_cons_self ..), Result.andThen_ok, run_mapM xs (fun y hy => hf y (List.mem_cons_of_mem _ hy)), Sem.run_pure, List.map_cons]

theorem allInfo_sound : ∀ (fs : List Field), allInfo P fs = true → ∀ f ∈ fs, ∃ i, P.info? f.type = some i
  | [], _, _, hf => by cases hf
  | g :: fs, hi, f, hf => by
    simp only [allInfo] at hi
    split at hi
    · rename_i i hgi
      cases hf with
      | head => exact ⟨i, hgi⟩
      | tail _ hf => exact allInfo_sound fs hi f hf
    · cases hi

theorem fieldPlaces_width {fields : Array Field} {i off : Nat} {kd : Kind} (hp : fieldPlaces P fields i = some (off, kd)) : ∃ f, fields.toList[i]? = some f ∧ f.offset = off ∧ P.cellsOf f.type = kd.width := by
  unfold fieldPlaces at hp
  split at hp
  · rename_i f hf
    refine ⟨f, hf, ?_⟩
    split at hp
    · split at hp
      · split at hp
        · rename_i hb; cases hp; exact ⟨rfl, Nat.eq_of_beq_eq_true hb⟩
        · cases hp
      · split at hp
        · rename_i hb; cases hp; exact ⟨rfl, Nat.eq_of_beq_eq_true hb⟩
        · cases hp
    · cases hp
  · cases hp

theorem elemPlaces_width {elem : TypeId} {i off : Nat} {kd : Kind} (hp : elemPlaces P elem i = some (off, kd)) : off = i * P.cellsOf elem ∧ P.cellsOf elem = kd.width := by
  unfold elemPlaces at hp
  split at hp
  · split at hp
    · split at hp
      · rename_i hb; cases hp; have := Nat.eq_of_beq_eq_true hb; rw [this]; exact ⟨by omega, rfl⟩
      · cases hp
    · split at hp
      · rename_i hb; cases hp; have := Nat.eq_of_beq_eq_true hb; rw [this]; exact ⟨rfl, rfl⟩
      · cases hp
  · cases hp

theorem denBuild_sound {t : TypeId} {ps : Array (Nat × Value)} (hd : denBuild P t ps.toList k h Q) : ∃ v, (∀ w, (Instr.build t ps).run P w = .ok v w) ∧ k v h Q := by
  unfold denBuild at hd
  cases hu : P.underlying t with
  | none => simp only [hu] at hd; exact hd.elim
  | some d =>
  cases d with
  | struct fields =>
    simp only [hu] at hd
    cases ha : allInfo P fields.toList with
    | false => simp only [ha] at hd; exact hd.elim
    | true =>
    simp only [ha] at hd
    cases hi : P.info? t with
    | none => simp only [hi] at hd; exact hd.elim
    | some i =>
    simp only [hi] at hd
    cases hz : i.zero with
    | none => simp only [hz] at hd; exact hd.elim
    | some z =>
    simp only [hz] at hd
    cases hf : fillAs (fieldPlaces P fields) z.cells.toList ps.toList with
    | none => simp only [hf] at hd; exact hd.elim
    | some cs =>
      simp only [hf] at hd
      obtain ⟨hone, hq⟩ := reqParts_sound _ hd
      refine ⟨_, fun w => ?_, hq⟩
      have hpl : ∀ w, (fields.mapM fun f => do pure (f.offset, ← sizeOf f.type) : Sem _).run P w = .ok (fields.map fun f => (f.offset, P.cellsOf f.type)) w := by
        intro w
        rw [Array.mapM_eq_mapM_toList]
        simp only [Sem.run_map]
        rw [run_mapM (g := fun f => (f.offset, P.cellsOf f.type)) fields.toList (fun f hf => by
          obtain ⟨i, hi⟩ := allInfo_sound _ ha f hf
          simp [run_size hi, cellsOf_eq hi])]
        simp only [Result.andThen_ok]
        congr 1
        apply Array.toList_inj.1
        simp
      have hfill := fill_sound (place' := fun i => (fields.map fun f => (f.offset, P.cellsOf f.type))[i]?) (fun i off kd hp => by
        obtain ⟨f, hf, h1, h2⟩ := fieldPlaces_width hp
        have hf' : fields[i]? = some f := by simpa using hf
        simp [hf', h1, h2]) ps.toList _ _ hf hone
      simp only [Instr.build, Sem.run_bind, run_zero hi hz, Result.andThen_ok, run_und hu, hpl]
      simp only [Array.toArray_toList] at hfill
      rw [hfill]
      rfl
  | array len elem =>
    simp only [hu] at hd
    cases hi : P.info? t with
    | none => simp only [hi] at hd; exact hd.elim
    | some i =>
    simp only [hi] at hd
    cases hz : i.zero with
    | none => simp only [hz] at hd; exact hd.elim
    | some z =>
    simp only [hz] at hd
    cases he : P.info? elem with
    | none => simp only [he] at hd; exact hd.elim
    | some ie =>
    simp only [he] at hd
    cases hf : fillAs (elemPlaces P elem) z.cells.toList ps.toList with
    | none => simp only [hf] at hd; exact hd.elim
    | some cs =>
      simp only [hf] at hd
      obtain ⟨hone, hq⟩ := reqParts_sound _ hd
      refine ⟨_, fun w => ?_, hq⟩
      have hfill := fill_sound (place' := fun i => some (i * ie.size, ie.size)) (fun i off kd hp => by
        obtain ⟨h1, h2⟩ := elemPlaces_width hp
        rw [cellsOf_eq he] at h1 h2
        simp [h1, h2]) ps.toList _ _ hf hone
      simp only [Instr.build, Sem.run_bind, run_zero hi hz, Result.andThen_ok, run_und hu, run_size he]
      simp only [Array.toArray_toList] at hfill
      rw [hfill]
      rfl
  | _ => simp only [hu] at hd; exact hd.elim

theorem repl_eq (z : List Value) (n : Nat) : repl z n = (List.range (n * z.length)).map (fun i => z[i % z.length]!) := by
  induction n with
  | zero => simp [repl]
  | succ n ih =>
    have hz : (List.range z.length).map (fun i => z[i % z.length]!) = z := by
      apply List.ext_getElem
      · simp
      · intro i h1 h2
        simp only [List.getElem_map, List.getElem_range]
        rw [Nat.mod_eq_of_lt h2, getElem!_pos z i h2]
    rw [repl, ih, Nat.succ_mul, Nat.add_comm, List.range_add, List.map_append, hz]
    congr 1
    simp [List.map_map, Function.comp_def]

theorem denBuildSlice_sound {t : TypeId} {n : Nat} {ps : Array (Nat × Value)} (hd : denBuildSlice P t n ps.toList k h Q) :
    ∀ w, w.heap = h → ∃ v w', (Instr.buildSlice t n ps).run P w = .ok v w' ∧ Same w w' ∧ k v w'.heap Q := by
  unfold denBuildSlice at hd
  cases hu : P.underlying t with
  | none => simp only [hu] at hd; exact hd.elim
  | some d =>
  cases d with
  | slice elem =>
    simp only [hu] at hd
    cases hi : P.info? elem with
    | none => simp only [hi] at hd; exact hd.elim
    | some i =>
    simp only [hi] at hd
    cases hz : i.zero with
    | none => simp only [hz] at hd; exact hd.elim
    | some z =>
    simp only [hz] at hd
    cases hb : Nat.beq z.cells.toList.length i.size with
    | false => simp only [hb] at hd; exact hd.elim
    | true =>
    simp only [hb] at hd
    cases hb2 : Nat.ble (n * i.size) 16777216 with
    | false => simp only [hb2] at hd; exact hd.elim
    | true =>
    simp only [hb2] at hd
    cases hb3 : Nat.ble 1 i.size with
    | false => simp only [hb3] at hd; exact hd.elim
    | true =>
    simp only [hb3] at hd
    cases hf : fillAs (elemPlaces P elem) (repl z.cells.toList n) ps.toList with
    | none => simp only [hf] at hd; exact hd.elim
    | some cs =>
      simp only [hf] at hd
      obtain ⟨hone, hq⟩ := reqParts_sound _ hd
      intro w hw
      subst hw
      refine ⟨_, w.alloc (.cells cs.toArray elem), ?_, ⟨rfl, rfl, rfl⟩, hq⟩
      have h1 := Nat.eq_of_beq_eq_true hb
      have h2 := Nat.le_of_ble_eq_true hb2
      have h3 := Nat.le_of_ble_eq_true hb3
      have hfill := fill_sound (place' := fun j => some (j * i.size, i.size)) (fun j off kd hp => by
        obtain ⟨g1, g2⟩ := elemPlaces_width hp
        rw [cellsOf_eq hi] at g1 g2
        simp [g1, g2]) ps.toList _ _ hf hone
      have hsz : z.cells.size = i.size := by simpa using h1
      have hrep : (repl z.cells.toList n).toArray = (Array.range (n * i.size)).map (fun j => z.cells[j % z.cells.size]!) := by
        apply Array.toList_inj.1
        rw [repl_eq]
        simp [hsz, Array.toList_range]
        intro a _
        rw [getElem!_def]
        cases z.cells[a % i.size]? <;> rfl
      rw [hrep] at hfill
      have hle : ¬ (n * i.size > 2 ^ 24) := by omega
      by_cases h0 : n * i.size = 0
      · have hr0 : (Array.range (n * i.size)).map (fun j => z.cells[j % z.cells.size]!) = #[] := by rw [h0]; simp
        rw [hr0] at hfill
        simp only [Instr.buildSlice, Sem.run_bind, run_und hu, Result.andThen_ok, run_size hi, if_neg hle, Sem.run_pure, Sem.run_ite, if_pos h0]
        simp only [h0]
        rw [show (Array.range 0).map (fun x => (#[] : Array Value)[x % (#[] : Array Value).size]!) = #[] from by simp, hfill]
        simp [newRow]
      · simp only [Instr.buildSlice, Sem.run_bind, run_und hu, Result.andThen_ok, run_size hi, if_neg hle, Sem.run_pure, Sem.run_ite, if_neg h0, run_zero hi hz]
        rw [hfill]
        simp [newRow]
  | _ => simp only [hu] at hd; exact hd.elim

end
end Go.H
