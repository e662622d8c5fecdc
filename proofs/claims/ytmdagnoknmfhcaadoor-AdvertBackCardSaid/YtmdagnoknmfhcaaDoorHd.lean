/-
  Hd: what 'den' says of an operation is what the model does: memory, slices, maps, calls.
-/
import Derived.Test.YtmdagnoknmfhcaaDoorHc
namespace Go.H
set_option linter.unusedSimpArgs false
set_option linter.unusedVariables false

theorem isSome_setCellH (h : Heap) (a b : Addr) (v : Value) : (cellH (setCellH h a v) b).isSome = (cellH h b).isSome := by
  unfold cellH setCellH
  simp only [Array.getElem?_modify]
  by_cases hb : a.block = b.block
  · simp only [hb, if_true]
    cases hh : h[b.block]? with
    | none => simp
    | some x =>
      cases x <;> simp
      cases hs : b.spot <;> simp
      cases hs' : a.spot <;> simp
      rename_i c _ _
      by_cases hlt : b.off < c.size
      · simp [hlt]
      · simp [hlt]
  · simp [hb]

theorem frozenH_setCellH (h : Heap) (a b : Addr) (v : Value) : frozenH (setCellH h a v) b = frozenH h b := by
  unfold frozenH setCellH
  simp only [Array.getElem?_modify]
  by_cases hb : a.block = b.block
  · simp only [hb, if_true]
    cases hh : h[b.block]? with
    | none => simp
    | some x => cases x <;> simp
  · simp [hb]

theorem size_setCellH (h : Heap) (a : Addr) (v : Value) : (setCellH h a v).size = h.size := by simp [setCellH]

section
variable {P : Program}

theorem run_storeCells (a : Addr) : ∀ (vs : List Value) (i : Nat) (w : World), (∀ (j : Nat) v, vs[j]? = some v → (cellH w.heap (a.add (i + j))).isSome = true ∧ frozenH w.heap (a.add (i + j)) = false ∧ v.oneCell' = true) →
    ∃ w', (storeCells a vs i).run P w = .ok () w' ∧ Same w w' ∧ w'.heap = setCellsH w.heap a vs i
  | [], i, w, _ => ⟨w, by simp [storeCells], Same.refl w, rfl⟩
  | v :: vs, i, w, hc => by
    obtain ⟨h1, h2, h3⟩ := hc 0 v rfl
    simp only [Nat.add_zero] at h1 h2
    obtain ⟨w', hr, hs, hh⟩ := run_storeCells a vs (i + 1) (w.setCell (a.add i) v) (fun j u hj => by
      obtain ⟨k1, k2, k3⟩ := hc (j + 1) u (by simpa using hj)
      rw [show i + 1 + j = i + (j + 1) from by omega, setCell_heap, isSome_setCellH, frozenH_setCellH]
      exact ⟨k1, k2, k3⟩)
    refine ⟨w', ?_, ⟨hs.os, hs.tape, hs.output⟩, hh⟩
    simp only [storeCells, Sem.run_bind]
    rw [run_store P w _ v _ h3, cell_eq]
    obtain ⟨u, hu⟩ := Option.isSome_iff_exists.1 h1
    rw [hu, frozen_eq, h2]
    simpa using hr

theorem run_loadVar_agg {t : TypeId} {d : TypeDesc} {w : World} {a : Addr} {vs : List Value} (hd : P.underlying t = some d) (hagg : isAggD d = true)
    (hn : P.cellsOf t = vs.length) (hc : ∀ (j : Nat) v, vs[j]? = some v → cellH w.heap (a.add j) = some v) : (loadVar t a).run P w = .ok (.agg vs.toArray) w := by
  obtain ⟨i, hi⟩ := info_of_und hd
  simp only [loadVar, Sem.run_bind, isAgg_run hd, Result.andThen_ok, hagg, if_true, run_size hi]
  rw [run_loadCells (by rw [← hn, cellsOf_eq hi]) hc]
  rfl

theorem run_loadVar_one {t : TypeId} {d : TypeDesc} {w : World} {a : Addr} {v : Value} (hd : P.underlying t = some d) (hagg : isAggD d = false)
    (hc : cellH w.heap a = some v) : (loadVar t a).run P w = .ok v w := by
  simp only [loadVar, Sem.run_bind, isAgg_run hd, Result.andThen_ok, hagg]
  exact run_load1 hc

variable {ρ : Type} {k : Value → HM ρ} {h : Heap} {Q : ρ → Heap → Prop}

theorem tup_len (ts : List Tag) (x : Tup ts) : (Tup.vals ts x).length = ts.length := by
  induction ts with
  | nil => rfl
  | cons t ts ih => simp [HT.vals, ih]

theorem denLoad_sound {t : TypeId} {x : Value} (hd : denLoad P t x k h Q) : ∃ v, (∀ w, w.heap = h → (Instr.loadAt t x).run P w = .ok v w) ∧ k v h Q := by
  unfold denLoad at hd
  cases x <;> try exact hd.elim
  rename_i p
  cases p with
  | none => exact hd.elim
  | some a =>
  have hl : ∀ w, (Instr.loadAt t (.pointer (some a))).run P w = (loadVar t a).run P w := fun w => by simp [Instr.loadAt, Instr.sureAddr]
  simp only [hl]
  simp only at hd
  cases hu : P.underlying t with
  | none => simp only [hu] at hd; exact hd.elim
  | some d =>
    simp only [hu] at hd
    cases hagg : isAggD d with
    | true =>
      simp only [hagg] at hd
      cases hk : kindOf P t with
      | none => simp only [hk] at hd; exact hd.elim
      | some kd =>
        cases kd with
        | one tg => simp only [hk] at hd; exact hd.elim
        | agg ts =>
          simp only [hk] at hd
          cases hb : Nat.beq ts.length (P.cellsOf t) with
          | false => simp only [hb] at hd; exact hd.elim
          | true =>
            simp only [hb] at hd
            obtain ⟨x, hx, hq⟩ := hd
            refine ⟨_, fun w hw => ?_, hq⟩
            subst hw
            exact run_loadVar_agg hu hagg (by rw [tup_len]; exact (Nat.eq_of_beq_eq_true hb).symm) hx
    | false =>
      simp only [hagg] at hd
      cases hk : kindOf P t with
      | none => simp only [hk] at hd; exact hd.elim
      | some kd =>
        cases kd with
        | agg ts => simp only [hk] at hd; exact hd.elim
        | one tg =>
          simp only [hk] at hd
          obtain ⟨x, hx, hq⟩ := hd
          exact ⟨_, fun w hw => by subst hw; exact run_loadVar_one hu hagg hx, hq⟩

theorem tagsOf_len : ∀ (vs : List Value) (ts : List Tag), tagsOf vs = some ts → vs.length = ts.length
  | [], ts, h => by simp only [tagsOf, Option.some.injEq] at h; subst h; rfl
  | v :: vs, ts, h => by
    simp only [tagsOf] at h
    split at h
    · split at h
      · rename_i us hus
        cases h
        simp [tagsOf_len vs us hus]
      · cases h
    · cases h

/-- a value's cells, by its kind -/
theorem cellsAs_cells {kd : Kind} {v : Value} {cs : List Value} (h1 : cellsAs kd v = some cs) (hone : ∀ t, kd = .one t → v.oneCell' = true) : v.cells = cs.toArray := by
  cases kd with
  | one t =>
    simp only [cellsAs, Option.some.injEq] at h1
    subst h1
    have := hone t rfl
    cases v <;> first | rfl | simp [Value.oneCell'] at this
  | agg ts =>
    simp only [cellsAs] at h1
    cases v <;> simp only at h1 <;> try cases h1
    split at h1
    · cases h1; simp [Value.cells]
    · cases h1

theorem reqOne_sound {kd : Kind} {v : Value} {α : Type} {m : HM α} {R : α → Heap → Prop} (hd : reqOne kd v m h R) : (∀ t, kd = .one t → v.oneCell' = true) ∧ m h R := by
  cases kd with
  | agg ts => exact ⟨fun t ht => (by cases ht), hd⟩
  | one tg =>
    simp only [reqOne] at hd
    cases ha : tg.isAny with
    | true => simp only [ha] at hd; exact ⟨fun _ _ => hd.1, hd.2⟩
    | false =>
      simp only [ha] at hd
      cases hx : tg.get v with
      | none => simp only [hx] at hd; exact hd.elim
      | some x =>
        simp only [hx] at hd
        refine ⟨fun t ht => ?_, hd⟩
        have := Tag.get_val hx
        subst this
        cases tg <;> first | rfl | cases ha

theorem denStore_sound {t : TypeId} {x v : Value} (hd : denStore P t x v k h Q) : ∀ w, w.heap = h → ∃ w', (Instr.storeAt t x v).run P w = .ok () w' ∧ Same w w' ∧ k undef w'.heap Q := by
  unfold denStore at hd
  cases x <;> try exact hd.elim
  rename_i p
  cases p with
  | none => exact hd.elim
  | some a =>
  simp only at hd
  cases hk : kindOf P t with
  | none => simp only [hk] at hd; exact hd.elim
  | some kd =>
    simp only [hk] at hd
    obtain ⟨i, z, hi, hz, -⟩ := kindOf_info hk
    cases hc : cellsAs kd v with
    | none => simp only [hc] at hd; exact hd.elim
    | some cs =>
      simp only [hc] at hd
      cases hb : Nat.beq cs.length (P.cellsOf t) with
      | false => simp only [hb] at hd; exact hd.elim
      | true =>
        simp only [hb] at hd
        have hlen := Nat.eq_of_beq_eq_true hb
        intro w hw
        subst hw
        have hst : ∀ (vs : List Value), v.cells = vs.toArray → (Instr.storeAt t (.pointer (some a)) v).run P w = (storeCells a vs 0).run P w ∨ vs.length ≠ i.size := by
          intro vs hvs
          by_cases hl : vs.length = i.size
          · left
            simp [Instr.storeAt, Instr.sureAddr, storeVar, run_size hi, hvs, hl]
          · exact .inr hl
        cases kd with
        | one tg =>
          simp only at hd
          obtain ⟨h1, h2, h3, hq⟩ := hd
          have hv := cellsAs_cells hc (fun _ _ => h3)
          simp only [cellsAs, Option.some.injEq] at hc
          subst hc
          obtain ⟨w', hr, hs, hh⟩ := run_storeCells (P := P) a [v] 0 w (fun j u hj => by
            cases j with
            | zero => simp at hj; subst hj; rw [Nat.zero_add, add_zero]; exact ⟨h1, h2, h3⟩
            | succ j => simp at hj)
          refine ⟨w', ?_, hs, ?_⟩
          · rcases hst [v] hv with he | he
            · rw [he]; exact hr
            · rw [cellsOf_eq hi] at hlen; exact absurd hlen he
          · rw [hh]
            simpa [setCellsH, add_zero] using hq
        | agg ts =>
          simp only at hd
          obtain ⟨h1, hq⟩ := hd
          have hv := cellsAs_cells hc (fun _ ht => by cases ht)
          obtain ⟨w', hr, hs, hh⟩ := run_storeCells (P := P) a cs 0 w (fun j u hj => by rw [Nat.zero_add]; exact h1 j u hj)
          refine ⟨w', ?_, hs, by rw [hh]; exact hq⟩
          rcases hst cs hv with he | he
          · rw [he]; exact hr
          · rw [cellsOf_eq hi] at hlen; exact absurd hlen he

theorem run_newVar {t : TypeId} {v : Value} {cs : List Value} (hv : v.cells = cs.toArray) (w : World) :
    (newVar t v).run P w = .ok ⟨w.heap.size, 0, none⟩ { w with heap := w.heap.push (.cells cs.toArray t) } := by
  simp [newVar, newRow, hv]

theorem denBox_sound {t : TypeId} {v : Value} (hd : denBox P t v k h Q) : ∀ w, w.heap = h → ∃ u w', (Instr.box t v).run P w = .ok u w' ∧ Same w w' ∧ k u w'.heap Q := by
  unfold denBox at hd
  cases hk : kindOf P t with
  | none => simp only [hk] at hd; exact hd.elim
  | some kd =>
    simp only [hk] at hd
    cases hc : cellsAs kd v with
    | none => simp only [hc] at hd; exact hd.elim
    | some cs =>
      simp only [hc] at hd
      obtain ⟨ho, hq⟩ := reqOne_sound hd
      intro w hw
      subst hw
      exact ⟨_, w.alloc (.cells cs.toArray t), by simp [Instr.box, run_newVar (cellsAs_cells hc ho)], ⟨rfl, rfl, rfl⟩, hq⟩

theorem denAlloc_sound {t : TypeId} (hd : denAlloc P t k h Q) : ∀ w, w.heap = h → ∃ u w', (Instr.alloc t true (.tuple #[])).run P w = .ok u w' ∧ Same w w' ∧ k u w'.heap Q := by
  unfold denAlloc at hd
  cases hi : P.info? t with
  | none => simp only [hi] at hd; exact hd.elim
  | some i =>
    simp only [hi] at hd
    cases hz : i.zero with
    | none => simp only [hz] at hd; exact hd.elim
    | some z =>
      simp only [hz] at hd
      intro w hw
      subst hw
      exact ⟨_, w.alloc (.cells z.cells t), by simp [Instr.alloc, run_zero hi hz, newVar, newRow], ⟨rfl, rfl, rfl⟩, hd⟩

/-! ### addresses -/

theorem denFieldAddr_sound {s : TypeId} {x : Value} {f : Nat} (hd : denFieldAddr P s x f k h Q) : ∃ v, (∀ w, (Instr.fieldAt s x f).run P w = .ok v w) ∧ k v h Q := by
  unfold denFieldAddr at hd
  cases x <;> try exact hd.elim
  rename_i p
  cases p with
  | none => exact hd.elim
  | some a =>
  simp only at hd
  cases hu : P.underlying s with
  | none => simp only [hu] at hd; exact hd.elim
  | some d =>
  cases d with
  | struct fields =>
    simp only [hu] at hd
    cases hf : fields.toList[f]? with
    | none => simp only [hf] at hd; exact hd.elim
    | some fd =>
      simp only [hf] at hd
      cases hb : Nat.ble 1 (P.cellsOf fd.type) with
      | false => simp only [hb] at hd; exact hd.elim
      | true =>
        simp only [hb] at hd
        refine ⟨_, fun w => ?_, hd⟩
        have hf' : fields[f]? = some fd := by simpa using hf
        have hsz : 1 ≤ P.cellsOf fd.type := Nat.le_of_ble_eq_true hb
        cases hi : P.info? fd.type with
        | none => simp [Program.cellsOf, hi] at hsz
        | some i =>
          rw [cellsOf_eq hi] at hsz
          have hne : i.size ≠ 0 := by omega
          simp [Instr.fieldAt, run_und hu, hf', Instr.sureAddr, fieldPlace, run_size hi, hne]
  | _ => simp only [hu] at hd; exact hd.elim

theorem denField_sound {t : TypeId} {x : Value} {f : Nat} (hd : denField P t x f k h Q) : ∃ v, (∀ w, (Instr.field t x f).run P w = .ok v w) ∧ k v h Q := by
  unfold denField at hd
  cases x <;> try exact hd.elim
  rename_i cs
  simp only at hd
  cases hu : P.underlying t with
  | none => simp only [hu] at hd; exact hd.elim
  | some d =>
  cases d with
  | struct fields =>
    simp only [hu] at hd
    cases hf : fields.toList[f]? with
    | none => simp only [hf] at hd; exact hd.elim
    | some fd =>
      simp only [hf] at hd
      cases hp : partAs P fd.type cs.toList fd.offset with
      | none => simp only [hp] at hd; exact hd.elim
      | some v =>
        simp only [hp] at hd
        refine ⟨_, fun w => ?_, hd⟩
        have hf' : fields[f]? = some fd := by simpa using hf
        have := partAs_sound hp w
        simp only [Instr.field, Sem.run_bind, run_und hu, Result.andThen_ok, hf', asAgg, Sem.run_pure]
        simpa using this
  | _ => simp only [hu] at hd; exact hd.elim

theorem denIndexAddr_sound {t : TypeId} {x i : Value} (hd : denIndexAddr P t x i k h Q) : ∃ v, (∀ w, (Instr.indexAt t x i).run P w = .ok v w) ∧ k v h Q := by
  unfold denIndexAddr at hd
  cases i <;> try exact hd.elim
  rename_i ki n
  simp only at hd
  cases hu : P.underlying t with
  | none => simp only [hu] at hd; exact hd.elim
  | some d =>
  cases d with
  | slice elem =>
    simp only [hu] at hd
    cases x <;> try exact hd.elim
    rename_i a len cap
    simp only at hd
    cases hi : P.info? elem with
    | none => simp only [hi] at hd; exact hd.elim
    | some inf =>
      simp only [hi] at hd
      obtain ⟨ad, rfl, h0, h1, hq⟩ := hd
      refine ⟨_, fun w => ?_, hq⟩
      simp [Instr.indexAt, asIntOf, run_und hu, h0, h1, run_size hi]
  | array len elem =>
    simp only [hu] at hd
    cases x <;> try exact hd.elim
    rename_i p
    cases p with
    | none => exact hd.elim
    | some a =>
    simp only at hd
    cases hi : P.info? elem with
    | none => simp only [hi] at hd; exact hd.elim
    | some inf =>
      simp only [hi] at hd
      obtain ⟨ad, hh, h0, h1, hq⟩ := hd
      cases hh
      refine ⟨_, fun w => ?_, hq⟩
      simp [Instr.indexAt, asIntOf, run_und hu, h0, h1, run_size hi, Instr.sureAddr]
  | _ => simp only [hu] at hd; exact hd.elim

theorem denIndex_sound {t : TypeId} {x i : Value} (hd : denIndex P t x i k h Q) : ∃ v, (∀ w, (Instr.index t x i).run P w = .ok v w) ∧ k v h Q := by
  unfold denIndex at hd
  cases i <;> try exact hd.elim
  rename_i ki n
  simp only at hd
  cases hu : P.underlying t with
  | none => simp only [hu] at hd; exact hd.elim
  | some d =>
  cases d with
  | string =>
    simp only [hu] at hd
    cases x <;> try exact hd.elim
    rename_i s
    simp only at hd
    obtain ⟨b, h0, hb, hq⟩ := hd
    refine ⟨_, fun w => ?_, hq⟩
    simp [Instr.index, asIntOf, run_und hu, h0, hb]
  | _ => simp only [hu] at hd; exact hd.elim

theorem denNilCheck_sound {o : Oper} {x : Operand} {ev : Operand → Value} (ho : o.op = .nilCheck x) (hd : denNilCheck (ev x) k h Q) : ∃ v, Stat P (execOp ev o) v ∧ k v h Q := by
  cases hp : ev x with
  | pointer p =>
    rw [hp] at hd
    obtain ⟨a, rfl, hq⟩ := hd
    exact ⟨_, fun w => by simp [execOp, ho, hp], hq⟩
  | func fn first captured =>
    rw [hp] at hd
    cases fn with
    | func f => exact ⟨_, fun w => by simp [execOp, ho, hp], hd⟩
    | _ => exact hd.elim
  | _ => rw [hp] at hd; exact hd.elim

end
end Go.H
