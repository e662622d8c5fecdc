/-
  Hr: slices of the call's own; appends; heaps that grow.
-/
import Derived.Test.YtlgddhcbiioefaaHw
import Derived.Laws.Append
namespace Go.H
set_option linter.unusedSimpArgs false
set_option linter.unusedVariables false

section
variable {h h' : Heap} {A : Asn} {R : List Asn}

/-- what held holds of a heap that has grown -/
theorem sat.grow (hs : sat h R) (hg : ∀ (k : Nat) o, h[k]? = some o → h'[k]? = some o) : sat h' R := by
  obtain ⟨m, h1, h2⟩ := hs
  exact ⟨m, fun k o ho => hg k o (h1 k o ho), h2⟩
/-- a block that came -/
theorem sat.came (hs : sat h R) (hg : ∀ (k : Nat) o, h[k]? = some o → h'[k]? = some o) {b : Nat} {o : Obj} (hb : h.size ≤ b) (ho : h'[b]? = some o) : sat h' (blk b o :: R) := by
  obtain ⟨m, h1, h2⟩ := hs
  have hm : m b = none := by
    cases hx : m b with
    | none => rfl
    | some x =>
      have := (Array.getElem?_eq_some_iff.1 (h1 _ _ hx)).1
      omega
  refine ⟨PH.join (fun k => if k = b then some o else none) m, sub_join (fun k x hx => ?_) (fun k x hx => hg k x (h1 k x hx)), _, m, fun k => ?_, rfl, by simp [blk], h2⟩
  · have hx' : (if k = b then some o else none) = some x := hx
    split at hx'
    · rename_i e; subst e; cases hx'; exact ho
    · cases hx'
  · by_cases e : k = b
    · subst e; exact .inr hm
    · exact .inl (by simp [e])
theorem sat.came_cells (hs : sat h R) (hg : ∀ (k : Nat) o, h[k]? = some o → h'[k]? = some o) {b : Nat} {cs : Array Value} {T : TypeId} (hb : h.size ≤ b) (ho : h'[b]? = some (.cells cs T (0, 0))) : sat h' (cells b cs :: R) :=
  cells_iff.2 ⟨T, hs.came hg hb ho⟩

end

/-! ### rows that are read -/

section
variable {α : Type} {enc : α → List Value} {size : Nat} {h h0 h' : Heap} {s : Slc} {xs : List α} {R : List Asn}

theorem RowAt.mono (hr : RowAt enc size h0 s xs) (hc : ∀ a v, cellH h0 a = some v → cellH h a = some v) : RowAt enc size h s xs :=
  ⟨hr.1, hr.2.1, fun i x hx => by
    obtain ⟨a, ha, hx⟩ := hr.2.2 i x hx
    exact ⟨a, ha, fun j v hv => hc _ _ (hx j v hv)⟩⟩
theorem RowAt.old (hr : RowAt enc size h0 s xs) (hs : sat h (old h0 :: R)) : RowAt enc size h s xs := hr.mono fun _ _ hc => hs.old_cell hc
theorem RowAt.nil : RowAt enc size h ⟨none, 0, 0⟩ [] := ⟨rfl, Nat.le_refl _, fun i x hx => by simp at hx⟩
theorem RowAt.nil' {c : Nat} {a : Option Addr} : RowAt enc size h ⟨a, 0, c⟩ [] := ⟨rfl, Nat.zero_le _, fun i x hx => by simp at hx⟩

end

/-! ### slices of one's own -/

/-- the slice s, at the start of block b with the cells cs, has the elements xs -/
structure OwnF {α : Type} (enc : α → List Value) (size : Nat) (s : Slc) (xs : List α) (b : Nat) (cs : Array Value) : Prop where
  a : s.a = some ⟨b, 0, none⟩
  le : s.len ≤ s.cap
  len : s.len = xs.length
  csize : cs.size = s.cap * size
  front : cs.toList.take (s.len * size) = xs.flatMap enc

/-- a slice with a block of its own, or none: its elements are xs -/
def ownS {α : Type} (enc : α → List Value) (size : Nat) (s : Slc) (xs : List α) : Asn := fun m =>
  (s = ⟨none, 0, 0⟩ ∧ xs = []) ∨ exA (fun x : Nat × Array Value => star (pr (OwnF enc size s xs x.1 x.2)) (cells x.1 x.2)) m

section
variable {α : Type} {enc : α → List Value} {size : Nat} {h : Heap} {s : Slc} {xs : List α} {R : List Asn}

theorem ownS_cases (hs : sat h (ownS enc size s xs :: R)) : (s = ⟨none, 0, 0⟩ ∧ xs = [] ∧ sat h R) ∨ ∃ b cs, OwnF enc size s xs b cs ∧ sat h (cells b cs :: R) := by
  obtain ⟨m, h1, a, r, hd, rfl, ha, hr⟩ := id hs
  rcases ha with ⟨h2, h3⟩ | ha
  · exact .inl ⟨h2, h3, hs.drop⟩
  · have hs' : sat h (exA (fun x : Nat × Array Value => star (pr (OwnF enc size s xs x.1 x.2)) (cells x.1 x.2)) :: R) := ⟨_, h1, a, r, hd, rfl, ha, hr⟩
    rw [sat.ex_iff] at hs'
    obtain ⟨⟨b, cs⟩, hs'⟩ := hs'
    rw [sat.star_iff, sat.pr_iff] at hs'
    exact .inr ⟨b, cs, hs'⟩
theorem ownS_nil (hs : sat h R) : sat h (ownS enc size ⟨none, 0, 0⟩ [] :: R) := by
  obtain ⟨m, h1, h2⟩ := hs
  exact ⟨m, h1, fun _ => none, m, fun k => .inl rfl, by funext k; rfl, .inl ⟨rfl, rfl⟩, h2⟩
theorem ownS_mk {b : Nat} {cs : Array Value} (ho : OwnF enc size s xs b cs) (hs : sat h (cells b cs :: R)) : sat h (ownS enc size s xs :: R) := by
  have hs' : sat h (exA (fun x : Nat × Array Value => star (pr (OwnF enc size s xs x.1 x.2)) (cells x.1 x.2)) :: R) := by
    rw [sat.ex_iff]
    refine ⟨(b, cs), ?_⟩
    rw [sat.star_iff, sat.pr_iff]
    exact ⟨ho, hs⟩
  exact hs'.imp fun m hm => .inr hm
theorem sat.own_len (hs : sat h (ownS enc size s xs :: R)) : s.len = xs.length := by
  rcases ownS_cases hs with ⟨rfl, rfl, -⟩ | ⟨b, cs, ho, -⟩
  · rfl
  · exact ho.len

/-- the cells of an element in a row of such -/
theorem flat_get (henc : ∀ x, (enc x).length = size) : ∀ (xs : List α) (i : Nat) (x : α), xs[i]? = some x → ∀ j v, (enc x)[j]? = some v → (xs.flatMap enc)[i * size + j]? = some v
  | [], i, x, hx, _, _, _ => by simp at hx
  | y :: xs, 0, x, hx, j, v, hv => by
    simp only [List.getElem?_cons_zero, Option.some.injEq] at hx
    subst hx
    rw [List.flatMap_cons, Nat.zero_mul, Nat.zero_add]
    have hj := (List.getElem?_eq_some_iff.1 hv).1
    rw [List.getElem?_append_left hj]
    exact hv
  | y :: xs, i + 1, x, hx, j, v, hv => by
    rw [List.getElem?_cons_succ] at hx
    rw [List.flatMap_cons, List.getElem?_append_right (by rw [henc]; rw [Nat.succ_mul]; omega), henc]
    rw [show (i + 1) * size + j - size = i * size + j from by rw [Nat.succ_mul]; omega]
    exact flat_get henc xs i x hx j v hv

theorem flat_len (henc : ∀ x, (enc x).length = size) (xs : List α) : (xs.flatMap enc).length = xs.length * size := by
  induction xs with
  | nil => simp
  | cons x xs ih => rw [List.flatMap_cons, List.length_append, ih, henc, List.length_cons, Nat.succ_mul]; omega

theorem sat.own_row (henc : ∀ x, (enc x).length = size) (hs : sat h (ownS enc size s xs :: R)) : RowAt enc size h s xs := by
  rcases ownS_cases hs with ⟨rfl, rfl, -⟩ | ⟨b, cs, ho, hs⟩
  · exact .nil
  · refine ⟨ho.len, ho.le, fun i x hx => ⟨_, ho.a, fun j v hv => ?_⟩⟩
    rw [Addr.add_at, Addr.add_at, hs.cell, Nat.zero_add]
    have h1 := flat_get henc xs i x hx j v hv
    rw [← ho.front, List.getElem?_take] at h1
    split at h1
    · simpa using h1
    · cases h1

/-- cells set one behind the other -/
theorem sat.setCells {b : Nat} : ∀ (vs : List Value) (cs : Array Value) (o i : Nat) {h : Heap} {R : List Asn}, sat h (cells b cs :: R) → o + i + vs.length ≤ cs.size →
    ∃ cs' : Array Value, cs'.size = cs.size ∧ cs'.toList = cs.toList.take (o + i) ++ vs ++ cs.toList.drop (o + i + vs.length) ∧ sat (setCellsH h ⟨b, o, none⟩ vs i) (cells b cs' :: R)
  | [], cs, o, i, h, R, hs, hl => ⟨cs, rfl, by simp, hs⟩
  | v :: vs, cs, o, i, h, R, hs, hl => by
    simp only [List.length_cons] at hl
    have h1 := hs.set (o + i) v
    obtain ⟨cs', e1, e2, h2⟩ := sat.setCells vs (cs.setIfInBounds (o + i) v) o (i + 1) h1 (by simp; omega)
    refine ⟨cs', by simpa using e1, ?_, by simpa [setCellsH] using h2⟩
    rw [e2, Array.toList_setIfInBounds]
    have hlen : o + i < cs.toList.length := by simp; omega
    rw [show o + (i + 1) = (o + i) + 1 from by omega, List.take_succ_eq_append_getElem (by simpa using hlen)]
    rw [List.getElem_set_self, List.take_set_of_le (Nat.le_refl _), List.drop_set_of_lt (by omega)]
    simp only [List.length_cons, List.append_assoc, List.cons_append, List.nil_append]
    rw [show o + i + 1 + vs.length = o + i + (vs.length + 1) from by omega]

theorem cells_set_ok {b : Nat} {cs : Array Value} {o : Nat} {vs : List Value} (hs : sat h (cells b cs :: R)) (hl : o + vs.length ≤ cs.size) (hv : ∀ v ∈ vs, v.oneCell' = true) :
    ∀ (i : Nat) v, vs[i]? = some v → (cellH h (Addr.add ⟨b, o, none⟩ i)).isSome = true ∧ frozenH h (Addr.add ⟨b, o, none⟩ i) = false ∧ v.oneCell' = true := by
  intro i v hi
  have hlt := (List.getElem?_eq_some_iff.1 hi).1
  rw [Addr.add_at]
  refine ⟨?_, hs.free _, hv v (List.mem_of_getElem? hi)⟩
  rw [hs.cell]
  simp
  omega

/-- append to a slice of one's own -/
theorem append_own (henc : ∀ x, (enc x).length = size) (hcell : ∀ x, ∀ v ∈ enc x, v.oneCell' = true) {elem : TypeId} {bytes n : Nat} {zero : Array Value} (hz : zero.size = size) {src : Heap → Array Value → Prop} {ys : List α} {Q : Slc → Heap → Prop}
    (hs : sat h (ownS enc size s xs :: R)) (hn : ys.length = n) (hsrc : src h (ys.flatMap enc).toArray) (hsz : 0 < size) (hb0 : 0 < bytes) (hb : (xs.length + n) * bytes ≤ 140737488355328)
    (hq : ∀ s' h', sat h' (ownS enc size s' (xs ++ ys) :: R) → Q s' h') : HM.append elem size bytes zero s n src h Q := by
  have hl := hs.own_len
  have hbig : xs.length + n ≤ 140737488355328 := Nat.le_trans (Nat.le_mul_of_pos_right _ hb0) hb
  constructor
  · intro hc
    refine ⟨_, hsrc, ?_⟩
    rcases ownS_cases hs with ⟨rfl, rfl, hs1⟩ | ⟨b, cs, ho, hs⟩
    · simp only at hc
      have h0 : n = 0 := by omega
      subst h0
      have hy : ys = [] := List.eq_nil_of_length_eq_zero hn
      subst hy
      exact hq _ _ (ownS_nil hs1)
    · rw [ho.a]
      simp only [Addr.add_at, Nat.zero_add]
      have hlen : s.len * size + (ys.flatMap enc).length ≤ cs.size := by
        rw [flat_len henc, ho.csize, hn, ← Nat.add_mul]
        exact Nat.mul_le_mul_right _ hc
      refine ⟨?_, ?_⟩
      · have := cells_set_ok (o := s.len * size) (vs := ys.flatMap enc) hs hlen (fun v hv => by
          obtain ⟨x, _, hx⟩ := List.mem_flatMap.1 hv
          exact hcell x v hx)
        simpa using this
      · obtain ⟨cs', e1, e2, hs'⟩ := sat.setCells (ys.flatMap enc) cs (s.len * size) 0 hs (by simpa using hlen)
        refine hq _ _ (ownS_mk (b := b) (cs := cs') ⟨rfl, hc, by simp [ho.len, hn], by rw [e1, ho.csize], ?_⟩ (by simpa using hs'))
        rw [e2]
        simp only [Nat.add_zero]
        rw [ho.front, List.flatMap_append]
        have e3 : (s.len + n) * size = (xs.flatMap enc ++ ys.flatMap enc).length := by
          rw [List.length_append, flat_len henc, flat_len henc, Nat.add_mul, ho.len, hn]
        rw [e3, List.take_left']
        rfl
  · intro hc
    refine ⟨by omega, growslice_fits hc (by rw [hl]; exact hb), ?_⟩
    have hnew : ∀ old : Array Value, old.toList = xs.flatMap enc → ∀ c, s.len + n ≤ c → ∀ R', sat h R' →
        sat (h.push (.cells (old ++ (ys.flatMap enc).toArray ++ Builtin.zeroCells zero (c - (s.len + n))) elem)) (ownS enc size ⟨some ⟨h.size, 0, none⟩, s.len + n, c⟩ (xs ++ ys) :: R') := by
      intro old hold c hcc R' hR'
      have ho : old.size = s.len * size := by
        have := congrArg List.length hold
        rw [flat_len henc] at this
        simpa [hl] using this
      refine ownS_mk ⟨rfl, hcc, by simp [hl, hn], ?_, ?_⟩ hR'.push_cells
      · simp only [Array.size_append, ho, Builtin.zeroCells, Array.size_map, Array.size_range, hz, List.size_toArray, flat_len henc, hn]
        rw [← Nat.add_mul, ← Nat.add_mul]
        congr 1
        omega
      · simp only [Array.toList_append, hold, List.flatMap_append]
        rw [List.take_append_of_le_length (by simp only [List.length_append, flat_len henc]; rw [hl, Nat.add_mul, hn]; exact Nat.le_refl _)]
        rw [List.take_of_length_le]
        simp only [List.length_append, flat_len henc]
        rw [hl, Nat.add_mul, hn]
        exact Nat.le_refl _
    rcases ownS_cases hs with ⟨rfl, rfl, hs1⟩ | ⟨b, cs, ho, hs⟩
    · exact ⟨#[], _, rfl, hsrc, fun c hcc => hq _ _ (hnew #[] rfl c hcc R hs1)⟩
    · refine ⟨(xs.flatMap enc).toArray, _, ?_, hsrc, fun c hcc => hq _ _ (hnew _ (by simp) c hcc R hs.drop)⟩
      simp only [readsH, ho.a]
      refine ⟨by simp [flat_len henc, ho.len], fun i v hi => ?_⟩
      rw [Addr.add_at, hs.cell, Nat.zero_add]
      have h1 : (xs.flatMap enc)[i]? = some v := by simpa using hi
      rw [← ho.front, List.getElem?_take] at h1
      split at h1
      · simpa using h1
      · cases h1

/-- the cells of a block, read as a slice's -/
theorem sat.reads {b : Nat} {cs : Array Value} {n : Nat} (hs : sat h (cells b cs :: R)) (hn : cs.size = n) : readsH h (some ⟨b, 0, none⟩) n cs :=
  ⟨hn, fun i v hi => by rw [Addr.add_at, hs.cell, Nat.zero_add]; exact hi⟩

/-- one element, laid in a new block and appended -/
theorem app_new (henc : ∀ x, (enc x).length = size) (hcell : ∀ x, ∀ v ∈ enc x, v.oneCell' = true) {elem T : TypeId} {bytes : Nat} {zero : Array Value} (hz : zero.size = size) {x : α} {Q : Slc → Heap → Prop}
    (hs : sat h (ownS enc size s xs :: R)) (hsz : 0 < size) (hb0 : 0 < bytes) (hb : (xs.length + 1) * bytes ≤ 140737488355328)
    (hq : ∀ s' h', sat h' (ownS enc size s' (xs ++ [x]) :: R) → Q s' h') : HM.new (.cells (enc x).toArray T) h fun b h' => HM.append elem size bytes zero s 1 (srcSlc size ⟨some ⟨b, 0, none⟩, 1, 1⟩) h' Q := by
  refine new_cells hs fun b h1 hs1 => ?_
  refine append_own henc hcell hz (ys := [x]) hs1.p1 rfl ?_ hsz hb0 hb fun s' h2 hs2 => hq s' h2 hs2.p1.drop
  simp only [srcSlc, Nat.one_mul, List.flatMap_cons, List.flatMap_nil, List.append_nil]
  exact hs1.reads (by simp [henc])

theorem loadN_of {ts : List Tag} {a : Addr} (x : Tup ts) {Q : Tup ts → Heap → Prop} (hc : ∀ i v, (Tup.vals ts x)[i]? = some v → cellH h (a.add i) = some v) (hq : Q x h) : HM.loadN ts a h Q := ⟨x, hc, hq⟩

theorem add_own (b i : Nat) : (⟨b, 0, none⟩ : Addr).add i = ⟨b, i, none⟩ := by
  cases i with
  | zero => rfl
  | succ i => simp [Addr.add]

/-- all cells of a block read -/
theorem loadN_cells {b : Nat} {cs : Array Value} {ts : List Tag} (x : Tup ts) {Q : Tup ts → Heap → Prop} (hs : sat h (cells b cs :: R)) (he : cs = (Tup.vals ts x).toArray) (hq : Q x h) : HM.loadN ts ⟨b, 0, none⟩ h Q := by
  refine ⟨x, fun i v hv => ?_, hq⟩
  have := hs.cell i
  rw [he] at this
  have e : (⟨b, 0, none⟩ : Addr).add i = ⟨b, i, none⟩ := by
    cases i with
    | zero => rfl
    | succ i => simp [Addr.add]
  rw [e, this]
  simpa using hv

theorem idx_at {a : Addr} {n size : Nat} {i : Int} {Q : Addr → Heap → Prop} (h0 : 0 ≤ i) (h1 : i < (n : Int)) (hq : Q (a.add (i.toNat * size)) h) : HM.idx (some a) n i size h Q := ⟨a, rfl, h0, h1, hq⟩

/-- all cells of a block set -/
theorem storeN_all {b : Nat} {cs : Array Value} {vs : List Value} {Q : Unit → Heap → Prop} (hs : sat h (cells b cs :: R)) (hl : vs.length = cs.size) (hv : ∀ v ∈ vs, v.oneCell' = true)
    (hq : ∀ h', sat h' (cells b vs.toArray :: R) → Q () h') : HM.storeN ⟨b, 0, none⟩ vs h Q := by
  refine ⟨cells_set_ok (o := 0) hs (by omega) hv, ?_⟩
  obtain ⟨cs', e1, e2, hs'⟩ := sat.setCells vs cs 0 0 hs (by omega)
  have e3 : cs' = vs.toArray := by
    apply Array.toList_inj.1
    rw [e2]
    simp only [Nat.add_zero, Nat.zero_add, List.take_zero, List.nil_append]
    rw [List.drop_of_length_le (by simp; omega)]
    simp
  subst e3
  exact hq _ hs'

theorem storeN_all' {b : Nat} {cs : Array Value} {vs : List Value} {Q : Unit → Heap → Prop} (hs : sat h (cells b cs :: R)) (hl : vs.length = cs.size) (hv : vs.all (fun v => v.oneCell') = true)
    (hq : ∀ h', sat h' (cells b vs.toArray :: R) → Q () h') : HM.storeN ⟨b, 0, none⟩ vs h Q :=
  storeN_all hs hl (List.all_eq_true.1 hv) hq

end

end Go.H
