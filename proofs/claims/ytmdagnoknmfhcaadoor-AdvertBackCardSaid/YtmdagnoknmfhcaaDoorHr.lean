/-
  Hr: slices of the call's own; appends; heaps that grow.
-/
import Derived.Test.YtmdagnoknmfhcaaDoorHw
import Derived.Laws.Append
import Derived.Below
namespace Go.H
set_option linter.unusedSimpArgs false
set_option linter.unusedVariables false

theorem wrap_id {n : Int} (h1 : -9223372036854775808 ≤ n) (h2 : n ≤ 9223372036854775807) : IntKind.wrap .i64 n = n := by
  simp [IntKind.wrap, IntKind.bits, IntKind.signed]; omega

section
variable {h h' : Heap} {A : Asn} {R : List Asn}

/-- what held holds of a heap that has grown -/
theorem sat.grow (hs : sat h R) (hg : ∀ (k : Nat) o, h[k]? = some o → h'[k]? = some o) : sat h' R := by
  obtain ⟨m, h1, h2⟩ := hs
  exact ⟨m, fun k o ho => hg k o (h1 k o ho), h2⟩
/-- a block that came -/
theorem sat.came (hs : sat h R) (hg : ∀ (k : Nat) o, h[k]? = some o → h'[k]? = some o) {b : Nat} {o : Obj} (hb : h.size ≤ b) (ho : h'[b]? = some o) : sat h' (blk b o :: R) := by
  obtain ⟨m, h1, h2⟩ := hs
  have hm : m b = none := by
    cases hx : m b with
    | none => rfl
    | some x =>
      have := (Array.getElem?_eq_some_iff.1 (h1 _ _ hx)).1
      omega
  refine ⟨PH.join (fun k => if k = b then some o else none) m, sub_join (fun k x hx => ?_) (fun k x hx => hg k x (h1 k x hx)), _, m, fun k => ?_, rfl, by simp [blk], h2⟩
  · have hx' : (if k = b then some o else none) = some x := hx
    split at hx'
    · rename_i e; subst e; cases hx'; exact ho
    · cases hx'
  · by_cases e : k = b
    · subst e; exact .inr hm
    · exact .inl (by simp [e])
theorem sat.came_cells (hs : sat h R) (hg : ∀ (k : Nat) o, h[k]? = some o → h'[k]? = some o) {b : Nat} {cs : Array Value} {T : TypeId} (hb : h.size ≤ b) (ho : h'[b]? = some (.cells cs T (0, 0))) : sat h' (cells b cs :: R) :=
  cells_iff.2 ⟨T, hs.came hg hb ho⟩


/-- a contract of the library's: whatever is there is as it was -/
theorem calls_below {P : Program} {f : FuncId} {args : Array Value} {v : Value} {Q : Value → Heap → Prop} (hs : sat h R)
    (hc : ∀ w, w.heap = h → Calls P f args w fun e w' => e = .returned v ∧ Go.RowKit.Below w.heap.size w w') (hq : ∀ h', sat h' R → Q v h') : HCalls P f args h Q := by
  intro w hw
  refine (hc w hw).mono ?_
  rintro e w' ⟨rfl, hb⟩
  refine ⟨v, rfl, ⟨hb.os, hb.tape, hb.output⟩, hq _ (hs.grow fun k o ho => ?_)⟩
  rw [hb.block k (by rw [hw]; exact (Array.getElem?_eq_some_iff.1 ho).1), hw]
  exact ho

end

/-! ### rows that are read -/

section
variable {α : Type} {enc : α → List Value} {size : Nat} {h h0 h' : Heap} {s : Slc} {xs : List α} {R : List Asn}

theorem RowAt.mono (hr : RowAt enc size h0 s xs) (hc : ∀ a v, cellH h0 a = some v → cellH h a = some v) : RowAt enc size h s xs :=
  ⟨hr.1, hr.2.1, fun i x hx => by
    obtain ⟨a, ha, hx⟩ := hr.2.2 i x hx
    exact ⟨a, ha, fun j v hv => hc _ _ (hx j v hv)⟩⟩
theorem RowAt.old (hr : RowAt enc size h0 s xs) (hs : sat h (old h0 :: R)) : RowAt enc size h s xs := hr.mono fun _ _ hc => hs.old_cell hc
theorem RowAt.nil : RowAt enc size h ⟨none, 0, 0⟩ [] := ⟨rfl, Nat.le_refl _, fun i x hx => by simp at hx⟩
theorem RowAt.nil' {c : Nat} {a : Option Addr} : RowAt enc size h ⟨a, 0, c⟩ [] := ⟨rfl, Nat.zero_le _, fun i x hx => by simp at hx⟩

end

/-! ### slices of one's own -/

/-- the slice s, in block b with the cells cs, from element number o on, has the elements xs -/
structure OwnF {α : Type} (enc : α → List Value) (size : Nat) (s : Slc) (xs : List α) (b o : Nat) (cs : Array Value) : Prop where
  a : s.a = some ⟨b, o * size, none⟩
  le : s.len ≤ s.cap
  len : s.len = xs.length
  csize : (o + s.cap) * size ≤ cs.size
  front : (cs.toList.drop (o * size)).take (s.len * size) = xs.flatMap enc

/-- a slice in a block of its own, or without room: its elements are xs -/
def ownS {α : Type} (enc : α → List Value) (size : Nat) (s : Slc) (xs : List α) : Asn := fun m =>
  (s.len = 0 ∧ s.cap = 0 ∧ xs = []) ∨ exA (fun x : Nat × Nat × Array Value => star (pr (OwnF enc size s xs x.1 x.2.1 x.2.2)) (cells x.1 x.2.2)) m

section
variable {α : Type} {enc : α → List Value} {size : Nat} {h : Heap} {s : Slc} {xs : List α} {R : List Asn}

theorem ownS_cases (hs : sat h (ownS enc size s xs :: R)) : (s.len = 0 ∧ s.cap = 0 ∧ xs = [] ∧ sat h R) ∨ ∃ b o cs, OwnF enc size s xs b o cs ∧ sat h (cells b cs :: R) := by
  obtain ⟨m, h1, a, r, hd, rfl, ha, hr⟩ := id hs
  rcases ha with ⟨h2, h3, h4⟩ | ha
  · exact .inl ⟨h2, h3, h4, hs.drop⟩
  · have hs' : sat h (exA (fun x : Nat × Nat × Array Value => star (pr (OwnF enc size s xs x.1 x.2.1 x.2.2)) (cells x.1 x.2.2)) :: R) := ⟨_, h1, a, r, hd, rfl, ha, hr⟩
    rw [sat.ex_iff] at hs'
    obtain ⟨⟨b, o, cs⟩, hs'⟩ := hs'
    rw [sat.star_iff, sat.pr_iff] at hs'
    exact .inr ⟨b, o, cs, hs'⟩
theorem ownS_none {a : Option Addr} (hs : sat h R) : sat h (ownS enc size ⟨a, 0, 0⟩ [] :: R) := by
  obtain ⟨m, h1, h2⟩ := hs
  exact ⟨m, h1, fun _ => none, m, fun k => .inl rfl, by funext k; rfl, .inl ⟨rfl, rfl, rfl⟩, h2⟩
theorem ownS_nil (hs : sat h R) : sat h (ownS enc size ⟨none, 0, 0⟩ [] :: R) := ownS_none hs
theorem ownS_mk {b o : Nat} {cs : Array Value} (ho : OwnF enc size s xs b o cs) (hs : sat h (cells b cs :: R)) : sat h (ownS enc size s xs :: R) := by
  have hs' : sat h (exA (fun x : Nat × Nat × Array Value => star (pr (OwnF enc size s xs x.1 x.2.1 x.2.2)) (cells x.1 x.2.2)) :: R) := by
    rw [sat.ex_iff]
    refine ⟨(b, o, cs), ?_⟩
    rw [sat.star_iff, sat.pr_iff]
    exact ⟨ho, hs⟩
  exact hs'.imp fun m hm => .inr hm
theorem sat.own_len (hs : sat h (ownS enc size s xs :: R)) : s.len = xs.length := by
  rcases ownS_cases hs with ⟨h1, h2, rfl, -⟩ | ⟨b, o, cs, ho, -⟩
  · exact h1
  · exact ho.len
theorem sat.own_le (hs : sat h (ownS enc size s xs :: R)) : s.len ≤ s.cap := by
  rcases ownS_cases hs with ⟨h1, h2, rfl, -⟩ | ⟨b, o, cs, ho, -⟩
  · omega
  · exact ho.le

/-- the cells of an element in a row of such -/
theorem flat_get (henc : ∀ x, (enc x).length = size) : ∀ (xs : List α) (i : Nat) (x : α), xs[i]? = some x → ∀ j v, (enc x)[j]? = some v → (xs.flatMap enc)[i * size + j]? = some v
  | [], i, x, hx, _, _, _ => by simp at hx
  | y :: xs, 0, x, hx, j, v, hv => by
    simp only [List.getElem?_cons_zero, Option.some.injEq] at hx
    subst hx
    rw [List.flatMap_cons, Nat.zero_mul, Nat.zero_add]
    have hj := (List.getElem?_eq_some_iff.1 hv).1
    rw [List.getElem?_append_left hj]
    exact hv
  | y :: xs, i + 1, x, hx, j, v, hv => by
    rw [List.getElem?_cons_succ] at hx
    rw [List.flatMap_cons, List.getElem?_append_right (by rw [henc]; rw [Nat.succ_mul]; omega), henc]
    rw [show (i + 1) * size + j - size = i * size + j from by rw [Nat.succ_mul]; omega]
    exact flat_get henc xs i x hx j v hv

theorem flat_len (henc : ∀ x, (enc x).length = size) (xs : List α) : (xs.flatMap enc).length = xs.length * size := by
  induction xs with
  | nil => simp
  | cons x xs ih => rw [List.flatMap_cons, List.length_append, ih, henc, List.length_cons, Nat.succ_mul]; omega

theorem sat.own_row (henc : ∀ x, (enc x).length = size) (hs : sat h (ownS enc size s xs :: R)) : RowAt enc size h s xs := by
  rcases ownS_cases hs with ⟨h1, h2, rfl, -⟩ | ⟨b, o, cs, ho, hs⟩
  · exact ⟨h1, by omega, fun i x hx => by simp at hx⟩
  · refine ⟨ho.len, ho.le, fun i x hx => ⟨_, ho.a, fun j v hv => ?_⟩⟩
    rw [Addr.add_at, Addr.add_at, hs.cell]
    have h1 := flat_get henc xs i x hx j v hv
    rw [← ho.front, List.getElem?_take] at h1
    split at h1
    · rw [List.getElem?_drop] at h1
      rw [show o * size + i * size + j = o * size + (i * size + j) from by omega]
      simpa using h1
    · cases h1

/-- a part of such a slice -/
theorem slice_own {lo hi : Nat} {mx : Option Int} {Q : Slc → Heap → Prop} {ol oh : Option Int} (hs : sat h (ownS enc size s xs :: R)) (henc : ∀ x, (enc x).length = size)
    (h1 : lo ≤ hi) (h2 : hi ≤ xs.length) (e1 : optLe ol (lo = 0) lo hi) (e2 : optLe oh (hi = s.len) hi s.cap)
    (hq : ∀ s', sat h (ownS enc size s' ((xs.take hi).drop lo) :: R) → Q s' h) : HM.slice s ol oh none size h Q := by
  have hl := hs.own_len
  have hc := hs.own_le
  refine ⟨lo, hi, s.cap, rfl, ?_, e1, hq _ ?_⟩
  · cases oh with
    | none => exact ⟨rfl, e2⟩
    | some x => exact e2
  rcases ownS_cases hs with ⟨g1, g2, rfl, hs1⟩ | ⟨b, o, cs, ho, hs1⟩
  · have : hi = 0 := by simpa using h2
    subst this
    have : lo = 0 := by omega
    subst this
    simp only [sliceOf, g2, if_true, List.take_nil, List.drop_nil, Nat.sub_self]
    exact ownS_none hs1
  · by_cases hm : s.cap = lo
    · have e0 : lo = xs.length := by omega
      simp only [sliceOf, hm, if_true, Nat.sub_self]
      rw [List.drop_of_length_le (by simp; omega), show hi - lo = 0 from by omega]
      exact ownS_none hs.drop
    · refine ownS_mk (b := b) (o := o + lo) (cs := cs) ⟨?_, ?_, ?_, ?_, ?_⟩ hs1
      · simp only [sliceOf, if_neg hm, ho.a, Option.map_some, Addr.add_at, Nat.add_mul]
      · simp only [sliceOf]; omega
      · simp only [sliceOf, List.length_drop, List.length_take]; omega
      · simp only [sliceOf]
        rw [show o + lo + (s.cap - lo) = o + s.cap from by omega]
        exact ho.csize
      · simp only [sliceOf]
        have hf := ho.front
        have e3 : ((xs.take hi).drop lo).flatMap enc = ((xs.flatMap enc).take (hi * size)).drop (lo * size) := by
          have key : ∀ (l : List α) (n : Nat), (l.flatMap enc).take (n * size) = (l.take n).flatMap enc ∧ (l.flatMap enc).drop (n * size) = (l.drop n).flatMap enc := by
            intro l
            induction l with
            | nil => intro n; simp
            | cons x l ih =>
              intro n
              cases n with
              | zero => simp
              | succ n =>
                have hx := henc x
                rw [List.flatMap_cons, Nat.succ_mul, List.take_succ_cons, List.drop_succ_cons, List.flatMap_cons]
                refine ⟨?_, ?_⟩
                · rw [List.take_append, hx, List.take_of_length_le (by omega), show n * size + size - size = n * size from by omega, (ih n).1]
                · rw [List.drop_append, hx, List.drop_of_length_le (by omega), show n * size + size - size = n * size from by omega, (ih n).2, List.nil_append]
          rw [(key xs hi).1, (key (xs.take hi) lo).2]
        rw [e3, ← hf]
        rw [List.take_take, Nat.min_eq_left (Nat.mul_le_mul_right _ (by omega : hi ≤ s.len)), List.drop_take, List.drop_drop, Nat.add_mul, ← Nat.sub_mul]

/-- cells set one behind the other -/
theorem sat.setCells {b : Nat} : ∀ (vs : List Value) (cs : Array Value) (o i : Nat) {h : Heap} {R : List Asn}, sat h (cells b cs :: R) → o + i + vs.length ≤ cs.size →
    ∃ cs' : Array Value, cs'.size = cs.size ∧ cs'.toList = cs.toList.take (o + i) ++ vs ++ cs.toList.drop (o + i + vs.length) ∧ sat (setCellsH h ⟨b, o, none⟩ vs i) (cells b cs' :: R)
  | [], cs, o, i, h, R, hs, hl => ⟨cs, rfl, by simp, hs⟩
  | v :: vs, cs, o, i, h, R, hs, hl => by
    simp only [List.length_cons] at hl
    have h1 := hs.set (o + i) v
    obtain ⟨cs', e1, e2, h2⟩ := sat.setCells vs (cs.setIfInBounds (o + i) v) o (i + 1) h1 (by simp; omega)
    refine ⟨cs', by simpa using e1, ?_, by simpa [setCellsH] using h2⟩
    rw [e2, Array.toList_setIfInBounds]
    have hlen : o + i < cs.toList.length := by simp; omega
    rw [show o + (i + 1) = (o + i) + 1 from by omega, List.take_succ_eq_append_getElem (by simpa using hlen)]
    rw [List.getElem_set_self, List.take_set_of_le (Nat.le_refl _), List.drop_set_of_lt (by omega)]
    simp only [List.length_cons, List.append_assoc, List.cons_append, List.nil_append]
    rw [show o + i + 1 + vs.length = o + i + (vs.length + 1) from by omega]

theorem cells_set_ok {b : Nat} {cs : Array Value} {o : Nat} {vs : List Value} (hs : sat h (cells b cs :: R)) (hl : o + vs.length ≤ cs.size) (hv : ∀ v ∈ vs, v.oneCell' = true) :
    ∀ (i : Nat) v, vs[i]? = some v → (cellH h (Addr.add ⟨b, o, none⟩ i)).isSome = true ∧ frozenH h (Addr.add ⟨b, o, none⟩ i) = false ∧ v.oneCell' = true := by
  intro i v hi
  have hlt := (List.getElem?_eq_some_iff.1 hi).1
  rw [Addr.add_at]
  refine ⟨?_, hs.free _, hv v (List.mem_of_getElem? hi)⟩
  rw [hs.cell]
  simp
  omega

/-- append to a slice of one's own -/
theorem append_own (henc : ∀ x, (enc x).length = size) (hcell : ∀ x, ∀ v ∈ enc x, v.oneCell' = true) {elem : TypeId} {bytes n : Nat} {zero : Array Value} (hz : zero.size = size) {src : Heap → Array Value → Prop} {ys : List α} {Q : Slc → Heap → Prop}
    (hs : sat h (ownS enc size s xs :: R)) (hn : ys.length = n) (hsrc : src h (ys.flatMap enc).toArray) (hsz : 0 < size) (hb0 : 0 < bytes) (hb : (xs.length + n) * bytes ≤ 140737488355328)
    (hq : ∀ s' h', sat h' (ownS enc size s' (xs ++ ys) :: R) → Q s' h') : HM.append elem size bytes zero s n src h Q := by
  have hl := hs.own_len
  have hbig : xs.length + n ≤ 140737488355328 := Nat.le_trans (Nat.le_mul_of_pos_right _ hb0) hb
  constructor
  · intro hc
    refine ⟨_, hsrc, ?_⟩
    rcases ownS_cases hs with ⟨g1, g2, rfl, hs1⟩ | ⟨b, o, cs, ho, hs⟩
    · have h0 : n = 0 := by omega
      subst h0
      have hy : ys = [] := List.eq_nil_of_length_eq_zero hn
      subst hy
      obtain ⟨sa, sl, sc⟩ := s
      simp only at g1 g2
      subst g1 g2
      cases sa with
      | none => exact hq _ _ (ownS_none hs1)
      | some a => exact ⟨fun i v hv => by simp at hv, hq _ _ (ownS_none hs1)⟩
    · rw [ho.a]
      simp only [Addr.add_at]
      have hlen : (o * size + s.len * size) + (ys.flatMap enc).length ≤ cs.size := by
        refine Nat.le_trans ?_ ho.csize
        rw [flat_len henc, hn, ← Nat.add_mul, ← Nat.add_mul]
        exact Nat.mul_le_mul_right _ (by omega)
      refine ⟨?_, ?_⟩
      · have := cells_set_ok (o := o * size + s.len * size) (vs := ys.flatMap enc) hs hlen (fun v hv => by
          obtain ⟨x, _, hx⟩ := List.mem_flatMap.1 hv
          exact hcell x v hx)
        simpa using this
      · obtain ⟨cs', e1, e2, hs'⟩ := sat.setCells (ys.flatMap enc) cs (o * size + s.len * size) 0 hs (by simpa using hlen)
        refine hq _ _ (ownS_mk (b := b) (o := o) (cs := cs') ⟨rfl, hc, by simp [ho.len, hn], by rw [e1]; exact ho.csize, ?_⟩ (by simpa using hs'))
        rw [e2]
        simp only [Nat.add_zero]
        have hcl : cs.toList.length = cs.size := by simp
        have d1 : ((cs.toList.take (o * size + s.len * size) ++ ys.flatMap enc ++ cs.toList.drop (o * size + s.len * size + (ys.flatMap enc).length)).drop (o * size)) =
            xs.flatMap enc ++ ys.flatMap enc ++ cs.toList.drop (o * size + s.len * size + (ys.flatMap enc).length) := by
          rw [List.append_assoc, List.drop_append_of_le_length (by rw [List.length_take, hcl]; omega), List.drop_take, show o * size + s.len * size - o * size = s.len * size from by omega, ho.front, List.append_assoc]
        rw [d1, List.flatMap_append]
        have e3 : (s.len + n) * size = (xs.flatMap enc ++ ys.flatMap enc).length := by
          rw [List.length_append, flat_len henc, flat_len henc, Nat.add_mul, ho.len, hn]
        rw [e3, List.take_left']
        rfl
  · intro hc
    refine ⟨by omega, growslice_fits hc (by rw [hl]; exact hb), ?_⟩
    have hnew : ∀ old : Array Value, old.toList = xs.flatMap enc → ∀ c, s.len + n ≤ c → ∀ R', sat h R' →
        sat (h.push (.cells (old ++ (ys.flatMap enc).toArray ++ Builtin.zeroCells zero (c - (s.len + n))) elem)) (ownS enc size ⟨some ⟨h.size, 0, none⟩, s.len + n, c⟩ (xs ++ ys) :: R') := by
      intro old hold c hcc R' hR'
      have ho : old.size = s.len * size := by
        have := congrArg List.length hold
        rw [flat_len henc] at this
        simpa [hl] using this
      refine ownS_mk (o := 0) ⟨by simp, hcc, by simp [hl, hn], Nat.le_of_eq ?_, ?_⟩ hR'.push_cells
      · simp only [Nat.zero_add, Array.size_append, ho, Builtin.zeroCells, Array.size_map, Array.size_range, hz, List.size_toArray, flat_len henc, hn]
        rw [← Nat.add_mul, ← Nat.add_mul]
        congr 1
        omega
      · simp only [Array.toList_append, hold, List.flatMap_append, Nat.zero_mul, List.drop_zero]
        rw [List.take_append_of_le_length (by simp only [List.length_append, flat_len henc]; rw [hl, Nat.add_mul, hn]; exact Nat.le_refl _)]
        rw [List.take_of_length_le]
        simp only [List.length_append, flat_len henc]
        rw [hl, Nat.add_mul, hn]
        exact Nat.le_refl _
    rcases ownS_cases hs with ⟨g1, g2, rfl, hs1⟩ | ⟨b, o, cs, ho, hs⟩
    · refine ⟨#[], _, ?_, hsrc, fun c hcc _ => hq _ _ (hnew #[] rfl c hcc R hs1)⟩
      rw [g1, Nat.zero_mul]
      cases s.a with
      | none => rfl
      | some a => exact ⟨rfl, fun i v hv => by simp at hv⟩
    · refine ⟨(xs.flatMap enc).toArray, _, ?_, hsrc, fun c hcc _ => hq _ _ (hnew _ (by simp) c hcc R hs.drop)⟩
      simp only [readsH, ho.a]
      refine ⟨by simp [flat_len henc, ho.len], fun i v hi => ?_⟩
      rw [Addr.add_at, hs.cell]
      have h1 : (xs.flatMap enc)[i]? = some v := by simpa using hi
      rw [← ho.front, List.getElem?_take] at h1
      split at h1
      · rw [List.getElem?_drop] at h1
        simpa using h1
      · cases h1

/-- the cells of a block, read as a slice's -/
theorem sat.reads {b : Nat} {cs : Array Value} {n : Nat} (hs : sat h (cells b cs :: R)) (hn : cs.size = n) : readsH h (some ⟨b, 0, none⟩) n cs :=
  ⟨hn, fun i v hi => by rw [Addr.add_at, hs.cell, Nat.zero_add]; exact hi⟩

/-- one element, laid in a new block and appended -/
theorem app_new (henc : ∀ x, (enc x).length = size) (hcell : ∀ x, ∀ v ∈ enc x, v.oneCell' = true) {elem T : TypeId} {bytes : Nat} {zero : Array Value} (hz : zero.size = size) {x : α} {Q : Slc → Heap → Prop}
    (hs : sat h (ownS enc size s xs :: R)) (hsz : 0 < size) (hb0 : 0 < bytes) (hb : (xs.length + 1) * bytes ≤ 140737488355328)
    (hq : ∀ s' h', sat h' (ownS enc size s' (xs ++ [x]) :: R) → Q s' h') : HM.new (.cells (enc x).toArray T) h fun b h' => HM.append elem size bytes zero s 1 (srcSlc size ⟨some ⟨b, 0, none⟩, 1, 1⟩) h' Q := by
  refine new_cells hs fun b h1 hs1 => ?_
  refine append_own henc hcell hz (ys := [x]) hs1.p1 rfl ?_ hsz hb0 hb fun s' h2 hs2 => hq s' h2 hs2.p1.drop
  simp only [srcSlc, Nat.one_mul, List.flatMap_cons, List.flatMap_nil, List.append_nil]
  exact hs1.reads (by simp [henc])

theorem loadN_of {ts : List Tag} {a : Addr} (x : Tup ts) {Q : Tup ts → Heap → Prop} (hc : ∀ i v, (Tup.vals ts x)[i]? = some v → cellH h (a.add i) = some v) (hq : Q x h) : HM.loadN ts a h Q := ⟨x, hc, hq⟩

theorem add_own (b i : Nat) : (⟨b, 0, none⟩ : Addr).add i = ⟨b, i, none⟩ := by
  cases i with
  | zero => rfl
  | succ i => simp [Addr.add]

/-- all cells of a block read -/
theorem loadN_cells {b : Nat} {cs : Array Value} {ts : List Tag} (x : Tup ts) {Q : Tup ts → Heap → Prop} (hs : sat h (cells b cs :: R)) (he : cs = (Tup.vals ts x).toArray) (hq : Q x h) : HM.loadN ts ⟨b, 0, none⟩ h Q := by
  refine ⟨x, fun i v hv => ?_, hq⟩
  have := hs.cell i
  rw [he] at this
  have e : (⟨b, 0, none⟩ : Addr).add i = ⟨b, i, none⟩ := by
    cases i with
    | zero => rfl
    | succ i => simp [Addr.add]
  rw [e, this]
  simpa using hv

theorem idx_at {a : Addr} {n size : Nat} {i : Int} {Q : Addr → Heap → Prop} (h0 : 0 ≤ i) (h1 : i < (n : Int)) (hq : Q (a.add (i.toNat * size)) h) : HM.idx (some a) n i size h Q := ⟨a, rfl, h0, h1, hq⟩

/-- all cells of a block set -/
theorem storeN_all {b : Nat} {cs : Array Value} {vs : List Value} {Q : Unit → Heap → Prop} (hs : sat h (cells b cs :: R)) (hl : vs.length = cs.size) (hv : ∀ v ∈ vs, v.oneCell' = true)
    (hq : ∀ h', sat h' (cells b vs.toArray :: R) → Q () h') : HM.storeN ⟨b, 0, none⟩ vs h Q := by
  refine ⟨cells_set_ok (o := 0) hs (by omega) hv, ?_⟩
  obtain ⟨cs', e1, e2, hs'⟩ := sat.setCells vs cs 0 0 hs (by omega)
  have e3 : cs' = vs.toArray := by
    apply Array.toList_inj.1
    rw [e2]
    simp only [Nat.add_zero, Nat.zero_add, List.take_zero, List.nil_append]
    rw [List.drop_of_length_le (by simp; omega)]
    simp
  subst e3
  exact hq _ hs'

theorem storeN_all' {b : Nat} {cs : Array Value} {vs : List Value} {Q : Unit → Heap → Prop} (hs : sat h (cells b cs :: R)) (hl : vs.length = cs.size) (hv : vs.all (fun v => v.oneCell') = true)
    (hq : ∀ h', sat h' (cells b vs.toArray :: R) → Q () h') : HM.storeN ⟨b, 0, none⟩ vs h Q :=
  storeN_all hs hl (List.all_eq_true.1 hv) hq

end

end Go.H
