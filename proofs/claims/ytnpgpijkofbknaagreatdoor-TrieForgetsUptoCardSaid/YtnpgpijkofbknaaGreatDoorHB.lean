/-
  HB: Hs: assertions over parts of a heap, side by side; rules for the primitives.
  Hm: what holds after more holds after less: the shallow forms are monotone; a loop's rule with a ghost.
  Hq: walks over the entries of a map.
  Hw: from a call over heaps to the walk that a row's frame asks for; rows that came in, read.
  Hr: slices of the call's own; appends; heaps that grow.
-/
import Derived.Test.YtnpgpijkofbknaaGreatDoorHA
import Derived.MapKept
import Derived.Below
import Derived.Laws.Append

namespace Go.H
set_option linter.unusedSimpArgs false
set_option linter.unusedVariables false
open Go.MapKept (Stamped)

abbrev PH := Nat → Option Obj
def PH.sub (m : PH) (h : Heap) : Prop := ∀ k o, m k = some o → h[k]? = some o
def PH.disj (a b : PH) : Prop := ∀ k, a k = none ∨ b k = none
def PH.join (a b : PH) : PH := fun k => match a k with | some o => some o | none => b k

abbrev Asn := PH → Prop
def star (A B : Asn) : Asn := fun m => ∃ a b, a.disj b ∧ m = a.join b ∧ A a ∧ B b
def stars : List Asn → Asn
  | [] => fun _ => True
  | A :: L => star A (stars L)
def exA {α : Type} (f : α → Asn) : Asn := fun m => ∃ x, f x m
def pr (p : Prop) : Asn := fun _ => p
def blk (b : Nat) (o : Obj) : Asn := fun m => m b = some o
/-- a block of cells, none of them frozen -/
def cells (b : Nat) (cs : Array Value) : Asn := exA fun T => blk b (.cells cs T (0, 0))
/-- all that was there -/
def old (h0 : Heap) : Asn := fun m => ∀ (k : Nat) (o : Obj), h0[k]? = some o → m k = some o

def sat (h : Heap) (L : List Asn) : Prop := ∃ m, PH.sub m h ∧ stars L m

theorem join_none {a b : PH} {k : Nat} (h : a k = none) : a.join b k = b k := by simp [PH.join, h]
theorem join_left {a b : PH} {k : Nat} {o : Obj} (h : a k = some o) : a.join b k = some o := by simp [PH.join, h]
theorem join_right {a b : PH} {k : Nat} {o : Obj} (hd : a.disj b) (h : b k = some o) : a.join b k = some o := by
  rcases hd k with h1 | h1
  · rw [join_none h1]; exact h
  · rw [h] at h1; cases h1
theorem join_sub {a b : PH} {h : Heap} (hs : PH.sub (a.join b) h) (hd : a.disj b) : PH.sub a h ∧ PH.sub b h :=
  ⟨fun k o ho => hs k o (join_left ho), fun k o ho => hs k o (join_right hd ho)⟩
theorem sub_join {a b : PH} {h : Heap} (ha : PH.sub a h) (hb : PH.sub b h) : PH.sub (a.join b) h := by
  intro k o ho
  cases hk : a k with
  | some o' => rw [join_left hk] at ho; cases ho; exact ha k _ hk
  | none => rw [join_none hk] at ho; exact hb k o ho
theorem join_assoc (a b c : PH) : (a.join b).join c = a.join (b.join c) := by
  funext k; simp only [PH.join]; cases a k <;> rfl
theorem join_comm {a b : PH} (h : a.disj b) : a.join b = b.join a := by
  funext k; simp only [PH.join]
  rcases h k with h1 | h1
  · rw [h1]; cases b k <;> rfl
  · rw [h1]; cases a k <;> rfl
theorem disj_comm {a b : PH} (h : a.disj b) : b.disj a := fun k => (h k).symm
theorem disj_join {a b c : PH} (h1 : a.disj c) (h2 : b.disj c) : (a.join b).disj c := by
  intro k
  rcases h1 k with h | h
  · rw [join_none h]; exact h2 k
  · exact .inr h
theorem disj_of_join {a b c : PH} (h : (a.join b).disj c) (hd : a.disj b) : a.disj c ∧ b.disj c := by
  refine ⟨fun k => ?_, fun k => ?_⟩
  · rcases h k with h1 | h1
    · cases hk : a k with
      | none => exact .inl rfl
      | some o => rw [join_left hk] at h1; cases h1
    · exact .inr h1
  · rcases h k with h1 | h1
    · cases hk : b k with
      | none => exact .inl rfl
      | some o => rw [join_right hd hk] at h1; cases h1
    · exact .inr h1

theorem star_assoc {A B C : Asn} {m : PH} (h : star (star A B) C m) : star A (star B C) m := by
  obtain ⟨ab, c, hd, rfl, ⟨a, b, hd', rfl, ha, hb⟩, hc⟩ := h
  obtain ⟨h1, h2⟩ := disj_of_join hd hd'
  exact ⟨a, b.join c, disj_comm (disj_join (disj_comm hd') (disj_comm h1)), join_assoc a b c, ha, b, c, h2, rfl, hb, hc⟩
theorem star_assoc' {A B C : Asn} {m : PH} (h : star A (star B C) m) : star (star A B) C m := by
  obtain ⟨a, bc, hd, rfl, ha, b, c, hd', rfl, hb, hc⟩ := h
  obtain ⟨h1, h2⟩ := disj_of_join (disj_comm hd) hd'
  exact ⟨a.join b, c, disj_join (disj_comm h2) hd', (join_assoc a b c).symm, ⟨a, b, disj_comm h1, rfl, ha, hb⟩, hc⟩
theorem star_comm {A B : Asn} {m : PH} (h : star A B m) : star B A m := by
  obtain ⟨a, b, hd, rfl, ha, hb⟩ := h
  exact ⟨b, a, disj_comm hd, join_comm hd, hb, ha⟩
theorem star_mono {A A' B B' : Asn} (ha : ∀ m, A m → A' m) (hb : ∀ m, B m → B' m) {m : PH} (h : star A B m) : star A' B' m := by
  obtain ⟨a, b, hd, rfl, h1, h2⟩ := h
  exact ⟨a, b, hd, rfl, ha _ h1, hb _ h2⟩

section
variable {h : Heap} {A B C D E F G : Asn} {R : List Asn}

theorem sat.imp (hs : sat h (A :: R)) (ha : ∀ m, A m → B m) : sat h (B :: R) := by
  obtain ⟨m, h1, h2⟩ := hs
  exact ⟨m, h1, star_mono ha (fun _ h => h) h2⟩
theorem sat.tail {R' : List Asn} (hs : sat h (A :: R)) (hr : ∀ m, stars R m → stars R' m) : sat h (A :: R') := by
  obtain ⟨m, h1, h2⟩ := hs
  exact ⟨m, h1, star_mono (fun _ h => h) hr h2⟩
theorem stars_swap {m : PH} (h : stars (A :: B :: R) m) : stars (B :: A :: R) m :=
  star_assoc (star_mono (fun _ h => star_comm h) (fun _ h => h) (star_assoc' h))
theorem stars_cons {R R' : List Asn} (hr : ∀ m, stars R m → stars R' m) {m : PH} (h : stars (A :: R) m) : stars (A :: R') m := star_mono (fun _ h => h) hr h

/-- the assertion at this place to the front -/
theorem sat.p1 (hs : sat h (A :: B :: R)) : sat h (B :: A :: R) := let ⟨m, h1, h2⟩ := hs; ⟨m, h1, stars_swap h2⟩
theorem sat.p2 (hs : sat h (A :: B :: C :: R)) : sat h (C :: A :: B :: R) := (hs.tail fun _ => stars_swap).p1
theorem sat.p3 (hs : sat h (A :: B :: C :: D :: R)) : sat h (D :: A :: B :: C :: R) := (hs.tail fun _ hm => stars_swap (stars_cons (fun _ => stars_swap) hm)).p1
theorem sat.p4 (hs : sat h (A :: B :: C :: D :: E :: R)) : sat h (E :: A :: B :: C :: D :: R) := (hs.tail fun _ hm => stars_swap (stars_cons (fun _ hm => stars_swap (stars_cons (fun _ => stars_swap) hm)) hm)).p1
theorem sat.p5 (hs : sat h (A :: B :: C :: D :: E :: F :: R)) : sat h (F :: A :: B :: C :: D :: E :: R) :=
  (hs.tail fun _ hm => stars_swap (stars_cons (fun _ hm => stars_swap (stars_cons (fun _ hm => stars_swap (stars_cons (fun _ => stars_swap) hm)) hm)) hm)).p1
/-- and back again -/
theorem sat.b1 (hs : sat h (B :: A :: R)) : sat h (A :: B :: R) := hs.p1
theorem sat.b2 (hs : sat h (C :: A :: B :: R)) : sat h (A :: B :: C :: R) := hs.p1.tail fun _ => stars_swap
theorem sat.b3 (hs : sat h (D :: A :: B :: C :: R)) : sat h (A :: B :: C :: D :: R) := hs.p1.tail fun _ hm => stars_cons (fun _ => stars_swap) (stars_swap hm)
theorem sat.b4 (hs : sat h (E :: A :: B :: C :: D :: R)) : sat h (A :: B :: C :: D :: E :: R) := hs.p1.tail fun _ hm => stars_cons (fun _ hm => stars_cons (fun _ => stars_swap) (stars_swap hm)) (stars_swap hm)

theorem sat.drop (hs : sat h (A :: R)) : sat h R := by
  obtain ⟨m, h1, a, r, hd, rfl, ha, hr⟩ := hs
  exact ⟨r, (join_sub h1 hd).2, hr⟩
theorem sat.star_iff : sat h (star A B :: R) ↔ sat h (A :: B :: R) :=
  ⟨fun ⟨m, h1, h2⟩ => ⟨m, h1, star_assoc h2⟩, fun ⟨m, h1, h2⟩ => ⟨m, h1, star_assoc' h2⟩⟩
theorem sat.ex_iff {α : Type} {f : α → Asn} : sat h (exA f :: R) ↔ ∃ x, sat h (f x :: R) := by
  constructor
  · rintro ⟨m, h1, a, r, hd, rfl, ⟨x, ha⟩, hr⟩
    exact ⟨x, _, h1, a, r, hd, rfl, ha, hr⟩
  · rintro ⟨x, m, h1, a, r, hd, rfl, ha, hr⟩
    exact ⟨_, h1, a, r, hd, rfl, ⟨x, ha⟩, hr⟩
theorem sat.pr_iff {p : Prop} : sat h (pr p :: R) ↔ p ∧ sat h R := by
  constructor
  · intro hs
    refine ⟨?_, hs.drop⟩
    obtain ⟨m, h1, a, r, hd, rfl, ha, hr⟩ := hs
    exact ha
  · rintro ⟨hp, m, h1, h2⟩
    refine ⟨m, h1, fun _ => none, m, fun k => .inl rfl, ?_, hp, h2⟩
    funext k; rfl
theorem stars_append : ∀ (L R : List Asn) {m : PH}, star (stars L) (stars R) m ↔ stars (L ++ R) m
  | [], R, m => by
    constructor
    · rintro ⟨a, b, hd, rfl, -, hb⟩
      -- more is no harm
      exact up R (a.join b) b (fun k o ho => join_right hd ho) hb
    · intro hr
      exact ⟨fun _ => none, m, fun k => .inl rfl, by funext k; rfl, trivial, hr⟩
  | A :: L, R, m => by
    constructor
    · intro hm
      exact star_mono (fun _ h => h) (fun _ h => (stars_append L R).1 h) (star_assoc hm)
    · intro hm
      exact star_assoc' (star_mono (fun _ h => h) (fun _ h => (stars_append L R).2 h) hm)
where
  up : ∀ (R : List Asn) (m m' : PH), (∀ k o, m' k = some o → m k = some o) → stars R m' → stars R m
    | [], _, _, _, _ => trivial
    | A :: R, m, m', hsub, ⟨a, b, hd, he, ha, hb⟩ => by
      subst he
      refine ⟨a, fun k => match a k with | some _ => none | none => m k, fun k => ?_, ?_, ha, ?_⟩
      · cases hk : a k with
        | none => exact .inl rfl
        | some o => exact .inr (by simp only [hk])
      · funext k
        cases hk : a k with
        | none => rw [join_none hk]; simp [hk]
        | some o => rw [join_left hk]; exact hsub k o (join_left hk)
      · refine up R _ b (fun k o ho => ?_) hb
        have hak : a k = none := by
          rcases hd k with h1 | h1
          · exact h1
          · rw [ho] at h1; cases h1
        simp only [hak]
        exact hsub k o (by rw [join_none hak]; exact ho)
theorem sat.stars_iff {L : List Asn} : sat h (stars L :: R) ↔ sat h (L ++ R) :=
  ⟨fun ⟨m, h1, h2⟩ => ⟨m, h1, (stars_append L R).1 h2⟩, fun ⟨m, h1, h2⟩ => ⟨m, h1, (stars_append L R).2 h2⟩⟩

/-! ### blocks -/

theorem sat.get {b : Nat} {o : Obj} (hs : sat h (blk b o :: R)) : h[b]? = some o := by
  obtain ⟨m, h1, a, r, hd, rfl, ha, hr⟩ := hs
  exact h1 b o (join_left ha)
theorem sat.lt {b : Nat} {o : Obj} (hs : sat h (blk b o :: R)) : b < h.size := (Array.getElem?_eq_some_iff.1 hs.get).1
/-- one block turned -/
theorem sat.turn {b : Nat} {o o' : Obj} {h' : Heap} (hs : sat h (blk b o :: R)) (hb : h'[b]? = some o') (hk : ∀ k, k ≠ b → h'[k]? = h[k]?) : sat h' (blk b o' :: R) := by
  obtain ⟨m, h1, a, r, hd, rfl, ha, hr⟩ := hs
  have hrb : r b = none := by
    rcases hd b with h2 | h2
    · rw [ha] at h2; cases h2
    · exact h2
  refine ⟨PH.join (fun k => if k = b then some o' else none) r, ?_, _, r, fun k => ?_, rfl, by simp [blk], hr⟩
  · refine sub_join (fun k x hx => ?_) (fun k x hx => ?_)
    · have hx' : (if k = b then some o' else none) = some x := hx
      split at hx'
      · rename_i e; subst e; cases hx'; exact hb
      · cases hx'
    · rw [hk k (fun e => by subst e; rw [hrb] at hx; cases hx)]
      exact (join_sub h1 hd).2 k x hx
  · by_cases e : k = b
    · subst e; exact .inr hrb
    · exact .inl (by simp [e])
/-- a new block -/
theorem sat.push {o : Obj} (hs : sat h R) : sat (h.push o) (blk h.size o :: R) := by
  obtain ⟨m, h1, hr⟩ := hs
  have hm : m h.size = none := by
    cases hh : m h.size with
    | none => rfl
    | some x =>
      have := h1 _ _ hh
      rw [Array.getElem?_eq_none (by omega)] at this
      cases this
  refine ⟨PH.join (fun k => if k = h.size then some o else none) m, ?_, _, m, fun k => ?_, rfl, by simp [blk], hr⟩
  · refine sub_join (fun k x hx => ?_) (fun k x hx => ?_)
    · have hx' : (if k = h.size then some o else none) = some x := hx
      split at hx'
      · rename_i e; subst e; cases hx'; simp
      · cases hx'
    · have := h1 k x hx
      have hlt := (Array.getElem?_eq_some_iff.1 this).1
      rw [Array.getElem?_push, if_neg (by omega)]
      exact this
  · by_cases e : k = h.size
    · subst e; exact .inr hm
    · exact .inl (by simp [e])
theorem sat.old_get {h0 : Heap} {k : Nat} {o : Obj} (hs : sat h (old h0 :: R)) (hk : h0[k]? = some o) : h[k]? = some o := by
  obtain ⟨m, h1, a, r, hd, rfl, ha, hr⟩ := hs
  exact h1 k o (join_left (ha k o hk))
theorem sat_old (h0 : Heap) : sat h0 [old h0] := by
  refine ⟨fun k => h0[k]?, fun k o ho => ho, fun k => h0[k]?, fun _ => none, fun k => .inr rfl, ?_, fun k o ho => ho, trivial⟩
  funext k
  simp only [PH.join]
  cases h0[k]? <;> rfl
theorem sat.old_cell {h0 : Heap} {a : Addr} {v : Value} (hs : sat h (old h0 :: R)) (hc : cellH h0 a = some v) : cellH h a = some v := by
  unfold cellH at hc ⊢
  cases hb : h0[a.block]? with
  | none => simp [hb] at hc
  | some o => rw [hs.old_get hb]; rw [hb] at hc; exact hc
theorem sat.nil : sat h [] := ⟨fun _ => none, fun _ _ ho => (by cases ho), trivial⟩

theorem cells_iff {b : Nat} {cs : Array Value} : sat h (cells b cs :: R) ↔ ∃ T, sat h (blk b (.cells cs T (0, 0)) :: R) := sat.ex_iff
theorem sat.cell {b : Nat} {cs : Array Value} (hs : sat h (cells b cs :: R)) (i : Nat) : cellH h ⟨b, i, none⟩ = cs[i]? := by
  obtain ⟨T, hs⟩ := cells_iff.1 hs
  simp [cellH, hs.get]
theorem sat.free {b : Nat} {cs : Array Value} (hs : sat h (cells b cs :: R)) (i : Nat) : frozenH h ⟨b, i, none⟩ = false := by
  obtain ⟨T, hs⟩ := cells_iff.1 hs
  simp [frozenH, hs.get]
theorem sat.cells_lt {b : Nat} {cs : Array Value} (hs : sat h (cells b cs :: R)) : b < h.size := by
  obtain ⟨T, hs⟩ := cells_iff.1 hs
  exact hs.lt
theorem sat.set {b : Nat} {cs : Array Value} (hs : sat h (cells b cs :: R)) (i : Nat) (v : Value) : sat (setCellH h ⟨b, i, none⟩ v) (cells b (cs.setIfInBounds i v) :: R) := by
  obtain ⟨T, hs⟩ := cells_iff.1 hs
  refine cells_iff.2 ⟨T, hs.turn ?_ ?_⟩
  · simp [setCellH, Array.getElem?_modify, hs.get]
  · intro k hk
    simp only [setCellH, Array.getElem?_modify]
    rw [if_neg (fun e => hk e.symm)]
theorem sat.push_cells {T : TypeId} {cs : Array Value} (hs : sat h R) : sat (h.push (.cells cs T)) (cells h.size cs :: R) := cells_iff.2 ⟨T, hs.push⟩

end

/-! ### the primitives -/
section
variable {α β : Type} {h : Heap} {Q : α → Heap → Prop} {R : List Asn}

@[simp] theorem HM.pure_apply (a : α) : HM.pure a h Q = Q a h := rfl
@[simp] theorem HM.bind_apply (m : HM β) (f : β → HM α) : HM.bind m f h Q = m h (fun b h' => f b h' Q) := rfl
@[simp] theorem HM.ite_apply (b : Bool) (x y : HM α) : HM.ite b x y h Q = if b = true then x h Q else y h Q := rfl
@[simp] theorem HM.both_apply (x y : HM α) : HM.both x y h Q = (x h Q ∧ y h Q) := rfl
@[simp] theorem HM.req_apply (p : Prop) (m : HM α) : HM.req p m h Q = (p ∧ m h Q) := rfl
@[simp] theorem HM.fail_apply : (HM.fail : HM α) h Q = False := rfl
@[simp] theorem HM.nonnil_some (a : Addr) (Q : Addr → Heap → Prop) : HM.nonnil (some a) h Q = Q a h := by simp [HM.nonnil]
theorem HM.load1_of {t : Tag} {a : Addr} {x : t.ty} {Q : t.ty → Heap → Prop} (hc : cellH h a = some (t.val x)) (hq : Q x h) : HM.load1 t a h Q := ⟨x, hc, hq⟩
@[simp] theorem Addr.add_at (b o n : Nat) : Addr.add ⟨b, o, none⟩ n = ⟨b, o + n, none⟩ := by
  cases n <;> simp [Addr.add]
@[simp] theorem load1_int (k : IntKind) (a : Addr) (Q : Int → Heap → Prop) : HM.load1 (.int k) a h Q = ∃ x, cellH h a = some (.int k x) ∧ Q x h := rfl
@[simp] theorem load1_bool (a : Addr) (Q : Bool → Heap → Prop) : HM.load1 .bool a h Q = ∃ x, cellH h a = some (.bool x) ∧ Q x h := rfl
@[simp] theorem load1_str (a : Addr) (Q : ByteArray → Heap → Prop) : HM.load1 .str a h Q = ∃ x, cellH h a = some (.string x) ∧ Q x h := rfl
@[simp] theorem load1_ptr (a : Addr) (Q : Option Addr → Heap → Prop) : HM.load1 .ptr a h Q = ∃ x, cellH h a = some (.pointer x) ∧ Q x h := rfl
@[simp] theorem load1_map (a : Addr) (Q : Option Nat → Heap → Prop) : HM.load1 .map a h Q = ∃ x, cellH h a = some (.map x) ∧ Q x h := rfl
@[simp] theorem load1_any (a : Addr) (Q : Value → Heap → Prop) : HM.load1 .any a h Q = ∃ x, cellH h a = some x ∧ Q x h := rfl
def slcOf : Option Value → Option Slc
  | some (.slice p n c) => some ⟨p, n, c⟩
  | _ => none
@[simp] theorem slcOf_slice (p : Option Addr) (n c : Nat) : slcOf (some (.slice p n c)) = some ⟨p, n, c⟩ := rfl
@[simp] theorem Slc.eta (s : Slc) : (⟨s.a, s.len, s.cap⟩ : Slc) = s := rfl
@[simp] theorem load1_slc (a : Addr) (Q : Slc → Heap → Prop) : HM.load1 .slc a h Q = ∃ x, slcOf (cellH h a) = some x ∧ Q x h := by
  refine propext ⟨fun ⟨x, h1, h2⟩ => ⟨x, by rw [h1]; rfl, h2⟩, fun ⟨x, h1, h2⟩ => ⟨x, ?_, h2⟩⟩
  unfold slcOf at h1
  split at h1
  · rename_i e; rw [e]; cases h1; rfl
  · cases h1

theorem store1_cells {b : Nat} {cs : Array Value} {i : Nat} {v : Value} {Q : Unit → Heap → Prop} (hs : sat h (cells b cs :: R)) (hi : i < cs.size) (hv : v.oneCell' = true)
    (hq : ∀ h', sat h' (cells b (cs.setIfInBounds i v) :: R) → Q () h') : HM.store1 ⟨b, i, none⟩ v h Q :=
  ⟨by rw [hs.cell i]; simp [hi], hs.free i, hv, hq _ (hs.set i v)⟩
theorem new_cells {cs : Array Value} {T : TypeId} {Q : Nat → Heap → Prop} (hs : sat h R) (hq : ∀ b h', sat h' (cells b cs :: R) → Q b h') : HM.new (.cells cs T) h Q := hq _ _ hs.push_cells
theorem new_blk {o : Obj} {Q : Nat → Heap → Prop} (hs : sat h R) (hq : ∀ b h', sat h' (blk b o :: R) → Q b h') : HM.new o h Q := hq _ _ hs.push

/-- what holds of a value of this kind -/
def Kind.un (k : Kind) (Q : k.ty → Heap → Prop) (v : Value) (h : Heap) : Prop := ∃ x, v = k.val x ∧ Q x h
def KTup.un (ks : List Kind) (Q : KTup ks → Heap → Prop) (v : Value) (h : Heap) : Prop := ∃ x, v = .tuple (KTup.vals ks x).toArray ∧ Q x h
@[simp] theorem HM.call1_apply (P : Program) (k : Kind) (f : FuncId) (args : Array Value) (Q : k.ty → Heap → Prop) : HM.call1 P k f args h Q = HCalls P f args h (k.un Q) := rfl
@[simp] theorem HM.callN_apply (P : Program) (ks : List Kind) (f : FuncId) (args : Array Value) (Q : KTup ks → Heap → Prop) : HM.callN P ks f args h Q = HCalls P f args h (KTup.un ks Q) := rfl
@[simp] theorem un_int (k : IntKind) (Q : Int → Heap → Prop) (n : Int) : Kind.un (.one (.int k)) Q (.int k n) h = Q n h := by simp [Kind.un, Kind.val, Tag.val]
@[simp] theorem un_bool (Q : Bool → Heap → Prop) (b : Bool) : Kind.un (.one .bool) Q (.bool b) h = Q b h := by
  simp only [Kind.un, Kind.val, Tag.val, Value.bool.injEq]
  exact propext ⟨fun ⟨x, h1, h2⟩ => h1 ▸ h2, fun h => ⟨b, rfl, h⟩⟩
@[simp] theorem un_str (Q : ByteArray → Heap → Prop) (b : ByteArray) : Kind.un (.one .str) Q (.string b) h = Q b h := by simp [Kind.un, Kind.val, Tag.val]
@[simp] theorem un_ptr (Q : Option Addr → Heap → Prop) (b : Option Addr) : Kind.un (.one .ptr) Q (.pointer b) h = Q b h := by simp [Kind.un, Kind.val, Tag.val]
@[simp] theorem un_map (Q : Option Nat → Heap → Prop) (b : Option Nat) : Kind.un (.one .map) Q (.map b) h = Q b h := by simp [Kind.un, Kind.val, Tag.val]
@[simp] theorem un_any (Q : Value → Heap → Prop) (b : Value) : Kind.un (.one .any) Q b h = Q b h := by simp [Kind.un, Kind.val, Tag.val]
@[simp] theorem un_slc (Q : Slc → Heap → Prop) (a : Option Addr) (n c : Nat) : Kind.un (.one .slc) Q (.slice a n c) h = Q ⟨a, n, c⟩ h := by
  refine propext ⟨?_, fun hq => ⟨⟨a, n, c⟩, rfl, hq⟩⟩
  rintro ⟨x, h1, h2⟩
  cases h1
  exact h2
theorem bind_call1 {β : Type} {P : Program} {k : Kind} {f : FuncId} {args : Array Value} {g : k.ty → HM β} {h : Heap} {Q : β → Heap → Prop} (hc : HCalls P f args h (k.un fun x h' => g x h' Q)) : (HM.bind (HM.call1 P k f args) g) h Q := hc
theorem bind_callN {β : Type} {P : Program} {ks : List Kind} {f : FuncId} {args : Array Value} {g : KTup ks → HM β} {h : Heap} {Q : β → Heap → Prop} (hc : HCalls P f args h (KTup.un ks fun x h' => g x h' Q)) : (HM.bind (HM.callN P ks f args) g) h Q := hc
@[simp] theorem un2 (k l : Kind) (Q : KTup [k, l] → Heap → Prop) (v w : Value) : KTup.un [k, l] Q (.tuple #[v, w]) h = k.un (fun x _ => l.un (fun y h => Q (x, y, ()) h) w h) v h := by
  refine propext ⟨?_, ?_⟩
  · rintro ⟨⟨x, y, u⟩, h1, h2⟩
    have h1 : #[v, w] = [k.val x, l.val y].toArray := Value.tuple.inj h1
    have h1 := congrArg Array.toList h1
    simp at h1
    exact ⟨x, h1.1, y, h1.2, h2⟩
  · rintro ⟨x, h1, y, h2, h3⟩
    exact ⟨(x, y, ()), by rw [h1, h2]; rfl, h3⟩
@[simp] theorem un3 (k l m : Kind) (Q : KTup [k, l, m] → Heap → Prop) (v w z : Value) : KTup.un [k, l, m] Q (.tuple #[v, w, z]) h = k.un (fun x _ => l.un (fun y _ => m.un (fun t h => Q (x, y, t, ()) h) z h) w h) v h := by
  refine propext ⟨?_, ?_⟩
  · rintro ⟨⟨x, y, t, u⟩, h1, h2⟩
    have h1 : #[v, w, z] = [k.val x, l.val y, m.val t].toArray := Value.tuple.inj h1
    have h1 := congrArg Array.toList h1
    simp at h1
    exact ⟨x, h1.1, y, h1.2.1, t, h1.2.2, h2⟩
  · rintro ⟨x, h1, y, h2, t, h3, h4⟩
    exact ⟨(x, y, t, ()), by rw [h1, h2, h3]; rfl, h4⟩
@[simp] theorem un0 (Q : KTup [] → Heap → Prop) : KTup.un [] Q (.tuple #[]) h = Q () h := by
  refine propext ⟨fun ⟨x, _, h2⟩ => h2, fun h => ⟨(), rfl, h⟩⟩

@[simp] theorem packed0 (x : Unit) : packed [] x = .tuple #[] := rfl
@[simp] theorem packed1 (k : Kind) (x : k.ty) : packed [k] (x, ()) = k.val x := rfl
@[simp] theorem packed2 (k l : Kind) (x : k.ty) (y : l.ty) : packed [k, l] (x, y, ()) = .tuple #[k.val x, l.val y] := rfl
@[simp] theorem packed3 (k l m : Kind) (x : k.ty) (y : l.ty) (z : m.ty) : packed [k, l, m] (x, y, z, ()) = .tuple #[k.val x, l.val y, m.val z] := rfl
@[simp] theorem val_one (t : Tag) (x : t.ty) : Kind.val (.one t) x = t.val x := rfl
@[simp] theorem val_int (k : IntKind) (x : Int) : Tag.val (.int k) x = .int k x := rfl
@[simp] theorem val_bool (x : Bool) : Tag.val .bool x = .bool x := rfl
@[simp] theorem val_str (x : ByteArray) : Tag.val .str x = .string x := rfl
@[simp] theorem val_ptr (x : Option Addr) : Tag.val .ptr x = .pointer x := rfl
@[simp] theorem val_map (x : Option Nat) : Tag.val .map x = .map x := rfl
@[simp] theorem val_any (x : Value) : Tag.val .any x = x := rfl
@[simp] theorem val_slc (x : Slc) : Tag.val .slc x = .slice x.a x.len x.cap := rfl
/-- the one result of a call -/
@[simp] theorem ex_int {k : IntKind} {n : Int} {Q : Int → Prop} : (∃ x : Int, Value.int k n = .int k x ∧ Q x) = Q n := by simp

theorem loop_of {σ τ : Type} {body : σ → HM (σ ⊕ τ)} {s : σ} {Q : τ → Heap → Prop} (I : σ → Heap → Prop) (μ : σ → Heap → Nat) (h0 : I s h) (hr : ∀ s h, I s h → body s h fun r h' => match r with
      | .inl s' => I s' h' ∧ μ s' h' < μ s h
      | .inr t => Q t h') : HM.loop body s h Q := ⟨I, μ, h0, hr⟩
/-- a loop, its rounds counted down by a number of one's own -/
theorem loop_ghost {σ τ : Type} {body : σ → HM (σ ⊕ τ)} {s : σ} {h : Heap} {Q : τ → Heap → Prop} (I : Nat → σ → Heap → Prop) {n : Nat} (h0 : I n s h)
    (hr : ∀ n s h, I n s h → body s h fun r h' => match r with
      | .inl s' => ∃ m, m < n ∧ I m s' h'
      | .inr t => Q t h') (hmono : ∀ s h (Q1 Q2 : σ ⊕ τ → Heap → Prop), (∀ r h', Q1 r h' → Q2 r h') → body s h Q1 → body s h Q2) : HM.loop body s h Q := by
  classical
  have least : ∀ s h, (∃ n, I n s h) → ∃ n, I n s h ∧ ∀ m, I m s h → n ≤ m := by
    intro s h ⟨n, hn⟩
    induction n using Nat.strongRecOn with
    | _ n ih =>
      by_cases hx : ∃ m, m < n ∧ I m s h
      · obtain ⟨m, hm, hi⟩ := hx; exact ih m hm hi
      · exact ⟨n, hn, fun m hm => by
          rcases Nat.lt_or_ge m n with hlt | hge
          · exact absurd ⟨m, hlt, hm⟩ hx
          · exact hge⟩
  refine ⟨fun s h => ∃ n, I n s h, fun s h => if hx : ∃ n, I n s h then Classical.choose (least s h hx) else 0, ⟨n, h0⟩, fun s h hx => ?_⟩
  obtain ⟨hc1, hc2⟩ := Classical.choose_spec (least s h hx)
  refine hmono s h _ _ ?_ (hr _ s h hc1)
  intro r h' hq
  cases r with
  | inr t => exact hq
  | inl s' =>
    obtain ⟨m, hm, hi⟩ := hq
    have hx' : ∃ n, I n s' h' := ⟨m, hi⟩
    refine ⟨hx', ?_⟩
    simp only [dif_pos hx, dif_pos hx']
    obtain ⟨_, hd2⟩ := Classical.choose_spec (least s' h' hx')
    exact Nat.lt_of_le_of_lt (hd2 m hi) hm
end

/-! ### maps -/

section
variable {K V : Type} [DecidableEq K]

def mget (l : List (K × V)) (k : K) : Option V := (l.find? (fun p => decide (p.1 = k))).map (·.2)
def mset : List (K × V) → K → V → List (K × V)
  | [], k, v => [(k, v)]
  | (a, b) :: l, k, v => if a = k then (k, v) :: l else (a, b) :: mset l k v
def mdel : List (K × V) → K → List (K × V)
  | [], _ => []
  | (a, b) :: l, k => if a = k then l else (a, b) :: mdel l k

@[simp] theorem mget_nil (k : K) : mget ([] : List (K × V)) k = none := rfl
theorem mget_cons (a : K) (b : V) (l : List (K × V)) (k : K) : mget ((a, b) :: l) k = if a = k then some b else mget l k := by
  by_cases h : a = k <;> simp [mget, List.find?, h]
theorem mget_set (l : List (K × V)) (k : K) (v : V) (k' : K) : mget (mset l k v) k' = if k = k' then some v else mget l k' := by
  induction l with
  | nil => simp [mset, mget_cons]
  | cons p l ih =>
    obtain ⟨a, b⟩ := p
    simp only [mset]
    by_cases h : a = k
    · rw [if_pos h, mget_cons, mget_cons]
      by_cases h' : k = k'
      · simp [h']
      · rw [if_neg h', if_neg h', if_neg (by rw [h]; exact h')]
    · rw [if_neg h, mget_cons, mget_cons, ih]
      by_cases h' : k = k'
      · subst h'; simp [h]
      · simp [h']

/-- the entries of a map read as this list -/
def Ents (ek : K → Value) (ev : V → Value) (l : List (K × V)) (es : List MapEntry) : Prop := es.map (fun e => (e.key, e.val)) = l.map (fun p => (ek p.1, ev p.2))

/-- keys that are held against each other by their bits -/
structure KeyLaw (kd : SameK) (ek : K → Value) : Prop where
  same : ∀ a b, kd (ek a) (ek b) = some (decide (a = b))
  bits : ∀ a, Instr.sameBits 10000 (ek a) (ek a) = true

theorem place_of {kd : SameK} {ek : K → Value} (hk : KeyLaw kd ek) {ev : V → Value} (k : K) : ∀ (l : List (K × V)) (es : List MapEntry) (i : Nat), Ents ek ev l es →
    (mget l k = none ∧ placeAt kd (ek k) es i = some none) ∨ ∃ v j e, mget l k = some v ∧ placeAt kd (ek k) es i = some (some (i + j, ev v)) ∧ es[j]? = some e ∧ e.key = ek k
  | [], [], i, _ => .inl ⟨rfl, rfl⟩
  | [], _ :: _, i, h => by simp [Ents] at h
  | _ :: _, [], i, h => by simp [Ents] at h
  | (a, b) :: l, e :: es, i, h => by
    simp only [Ents, List.map_cons, List.cons.injEq, Prod.mk.injEq] at h
    obtain ⟨⟨h1, h2⟩, h3⟩ := h
    simp only [placeAt, h1, hk.same, mget_cons]
    by_cases hka : k = a
    · subst hka
      right
      exact ⟨b, 0, e, by simp, by simp [h2], rfl, h1⟩
    · have hak : ¬ a = k := fun hh => hka hh.symm
      simp only [hka, hak, decide_false, if_false]
      rcases place_of hk k l es (i + 1) h3 with ⟨h4, h5⟩ | ⟨v, j, e', h4, h5, h6, h7⟩
      · exact .inl ⟨h4, h5⟩
      · exact .inr ⟨v, j + 1, e', h4, by rw [h5]; congr 3; omega, by simpa using h6, h7⟩

theorem ents_set {ek : K → Value} (hinj : ∀ a b, ek a = ek b → a = b) {ev : V → Value} (k : K) (x : V) : ∀ (l : List (K × V)) (es : List MapEntry), Ents ek ev l es → ∀ (i : Nat) (o : Nat × Value) (kd : SameK), KeyLaw kd ek →
    placeAt kd (ek k) es i = some (some o) → Ents ek ev (mset l k x) (es.modify (o.1 - i) fun e => { e with key := ek k, val := ev x }) ∧ i ≤ o.1
  | [], [], _, i, o, kd, _, hf => by simp [placeAt] at hf
  | [], _ :: _, h, _, _, _, _, _ => by simp [Ents] at h
  | _ :: _, [], h, _, _, _, _, _ => by simp [Ents] at h
  | (a, b) :: l, e :: es, h, i, o, kd, hk, hf => by
    simp only [Ents, List.map_cons, List.cons.injEq, Prod.mk.injEq] at h
    obtain ⟨⟨h1, h2⟩, h3⟩ := h
    simp only [placeAt, h1, hk.same] at hf
    by_cases hka : k = a
    · subst hka
      simp only [decide_true, Option.some.injEq] at hf
      subst hf
      simp only [Nat.sub_self, mset, if_true]
      refine ⟨?_, Nat.le_refl _⟩
      simp [Ents, List.modify_zero_cons] at h3 ⊢
      exact h3
    · simp only [hka, decide_false] at hf
      obtain ⟨h4, h5⟩ := ents_set hinj k x l es h3 (i + 1) o kd hk hf
      refine ⟨?_, by omega⟩
      rw [show o.1 - i = (o.1 - (i + 1)) + 1 from by omega]
      simp only [mset, if_neg (fun hh : a = k => hka hh.symm), List.modify_succ_cons]
      simp only [Ents, List.map_cons, h1, h2]
      rw [h4]

theorem mset_none : ∀ (l : List (K × V)) (k : K) (v : V), mget l k = none → mset l k v = l ++ [(k, v)]
  | [], _, _, _ => rfl
  | (a, b) :: l, k, v, h => by
    rw [mget_cons] at h
    by_cases hak : a = k
    · rw [if_pos hak] at h; cases h
    · rw [if_neg hak] at h
      simp only [mset, if_neg hak, List.cons_append, mset_none l k v h]

theorem ents_del {ek : K → Value} {ev : V → Value} (k : K) : ∀ (l : List (K × V)) (es : List MapEntry), Ents ek ev l es → ∀ (i : Nat) (o : Nat × Value) (kd : SameK), KeyLaw kd ek →
    placeAt kd (ek k) es i = some (some o) → Ents ek ev (mdel l k) (es.eraseIdx (o.1 - i)) ∧ i ≤ o.1
  | [], [], _, i, o, kd, _, hf => by simp [placeAt] at hf
  | [], _ :: _, h, _, _, _, _, _ => by simp [Ents] at h
  | _ :: _, [], h, _, _, _, _, _ => by simp [Ents] at h
  | (a, b) :: l, e :: es, h, i, o, kd, hk, hf => by
    simp only [Ents, List.map_cons, List.cons.injEq, Prod.mk.injEq] at h
    obtain ⟨⟨h1, h2⟩, h3⟩ := h
    simp only [placeAt, h1, hk.same] at hf
    by_cases hka : k = a
    · subst hka
      simp only [decide_true, Option.some.injEq] at hf
      subst hf
      simp only [Nat.sub_self, mdel, if_true]
      exact ⟨h3, Nat.le_refl _⟩
    · simp only [hka, decide_false] at hf
      obtain ⟨h4, h5⟩ := ents_del k l es h3 (i + 1) o kd hk hf
      refine ⟨?_, by omega⟩
      rw [show o.1 - i = (o.1 - (i + 1)) + 1 from by omega]
      simp only [mdel, if_neg (fun hh : a = k => hka hh.symm), List.eraseIdx_cons_succ]
      simp only [Ents, List.map_cons, h1, h2]
      rw [h4]

theorem mdel_none : ∀ (l : List (K × V)) (k : K), mget l k = none → mdel l k = l
  | [], _, _ => rfl
  | (a, b) :: l, k, h => by
    rw [mget_cons] at h
    by_cases hak : a = k
    · rw [if_pos hak] at h; cases h
    · rw [if_neg hak] at h
      simp only [mdel, if_neg hak, mdel_none l k h]

end

section
variable {K V : Type}

/-- a map's block: its entries read as this list; they bear stamps of their own, below the clock -/
def mapA (ek : K → Value) (ev : V → Value) (r : Nat) (l : List (K × V)) : Asn :=
  exA fun x : Array MapEntry × Nat => star (pr (Ents ek ev l x.1.toList ∧ Stamped x.1 x.2)) (blk r (.map x.1 x.2))

variable {h : Heap} {R : List Asn} {ek : K → Value}

theorem mapA_iff {ev : V → Value} {r : Nat} {l : List (K × V)} : sat h (mapA ek ev r l :: R) ↔ ∃ es clock, (Ents ek ev l es.toList ∧ Stamped es clock) ∧ sat h (blk r (.map es clock) :: R) := by
  unfold mapA
  rw [sat.ex_iff]
  constructor
  · rintro ⟨⟨es, c⟩, hs⟩
    rw [sat.star_iff, sat.pr_iff] at hs
    exact ⟨es, c, hs⟩
  · rintro ⟨es, c, hs⟩
    exact ⟨(es, c), by rw [sat.star_iff, sat.pr_iff]; exact hs⟩

theorem new_map {ev : V → Value} {Q : Nat → Heap → Prop} (hs : sat h R) (hq : ∀ r h', sat h' (mapA ek ev r [] :: R) → Q r h') : HM.new (.map #[] 0) h Q :=
  new_blk hs fun r h' hs' => hq r h' (mapA_iff.2 ⟨#[], 0, ⟨rfl, Go.MapKept.stamped_empty 0⟩, hs'⟩)

theorem len_map {ev : V → Value} {r : Nat} {l : List (K × V)} {Q : Int → Heap → Prop} (hs : sat h (mapA ek ev r l :: R)) (hq : Q (l.length : Int) h) : HM.mapLen (some r) h Q := by
  obtain ⟨es, c, ⟨he, hst⟩, hs⟩ := mapA_iff.1 hs
  refine ⟨es.toList, c, by simpa [entriesH] using hs.get, ?_⟩
  have := congrArg List.length he
  simp at this
  simpa [this] using hq

/-- no key twice -/
theorem sat.map_nodup {ev : V → Value} {r : Nat} {l : List (K × V)} (hs : sat h (mapA ek ev r l :: R)) : (l.map (·.1)).Nodup := by
  obtain ⟨es, c, ⟨he, hst⟩, hs⟩ := mapA_iff.1 hs
  have hk := hst.2.2
  have e : es.toList.map (·.key) = (l.map (·.1)).map ek := by
    have := congrArg (List.map Prod.fst) he
    simpa [Function.comp_def] using this
  rw [e] at hk
  exact List.Pairwise.of_map ek (fun a b hne hab => hne (congrArg ek hab)) hk

end

section
variable {K V : Type} [DecidableEq K] {h : Heap} {R : List Asn} {ek : K → Value}

theorem lookup_map {kd : SameK} (hk : KeyLaw kd ek) {kind : Kind} {z : kind.ty} {zero : Value} (hz : zero = kind.val z) {r : Nat} {l : List (K × kind.ty)} {k : K} {Q : kind.ty × Bool → Heap → Prop}
    (hs : sat h (mapA ek kind.val r l :: R)) (hq : Q ((mget l k).getD z, (mget l k).isSome) h) : HM.lookup kd zero kind (some r) (ek k) h Q := by
  obtain ⟨es, c, ⟨he, hst⟩, hs⟩ := mapA_iff.1 hs
  rcases place_of hk k l es.toList 0 he with ⟨h1, h2⟩ | ⟨v, j, e, h1, h2, -, -⟩
  · refine ⟨es.toList, c, none, z, by simpa [entriesH] using hs.get, h2, hz, ?_⟩
    rw [h1] at hq; exact hq
  · refine ⟨es.toList, c, some (0 + j, kind.val v), v, by simpa [entriesH] using hs.get, h2, rfl, ?_⟩
    rw [h1] at hq; exact hq

theorem mget_none_iff (l : List (K × V)) (k : K) : mget l k = none ↔ k ∉ l.map (·.1) := by
  induction l with
  | nil => simp
  | cons p l ih =>
    obtain ⟨a, b⟩ := p
    rw [mget_cons]
    by_cases h : a = k
    · simp [h]
    · rw [if_neg h, ih]
      simp [Ne.symm h]

theorem set_map {kd : SameK} (hk : KeyLaw kd ek) (hinj : ∀ a b, ek a = ek b → a = b) {ev : V → Value} {r : Nat} {l : List (K × V)} {k : K} {x : V} {Q : Unit → Heap → Prop}
    (hs : sat h (mapA ek ev r l :: R)) (hq : ∀ h', sat h' (mapA ek ev r (mset l k x) :: R) → Q () h') : HM.mapSet kd (some r) (ek k) (ev x) h Q := by
  obtain ⟨es, c, ⟨he, hst⟩, hs⟩ := mapA_iff.1 hs
  have hlt := hs.lt
  rcases place_of hk k l es.toList 0 he with ⟨h1, h2⟩ | ⟨v, j, e, h1, h2, h3, h4⟩
  · refine ⟨r, es, c, none, rfl, hs.get, h2, hq _ (mapA_iff.2 ⟨_, _, ⟨?_, ?_⟩, hs.turn (o' := .map (es.push { key := ek k, val := ev x, born := c }) (c + 1)) (by simp [hlt]) (fun k hk => ?_)⟩)⟩
    · rw [mset_none l k x h1]
      simp only [Ents, Array.toList_push, List.map_append, List.map_cons, List.map_nil]
      rw [he]
    · refine Go.MapKept.stamped_push hst fun y hy hyk => ?_
      have e : es.toList.map (·.key) = (l.map (·.1)).map ek := by
        have := congrArg (List.map Prod.fst) he
        simpa [Function.comp_def] using this
      have hm : ek k ∈ (l.map (·.1)).map ek := by rw [← e, ← hyk]; exact List.mem_map_of_mem hy
      obtain ⟨k', hk', he'⟩ := List.mem_map.1 hm
      exact (mget_none_iff l k).1 h1 (hinj _ _ he' ▸ hk')
    · rw [Array.getElem?_setIfInBounds, if_neg (fun e => hk e.symm)]
  · have h3' : es[0 + j]? = some e := by simpa using h3
    refine ⟨r, es, c, some (0 + j, ev v), rfl, hs.get, h2, ?_, hk.bits k, hq _ (mapA_iff.2 ⟨_, _, ⟨?_, ?_⟩, hs.turn (o' := .map (es.modify (0 + j) fun e => { e with key := ek k, val := ev x }) c) (by simp [hlt]) (fun k hk => ?_)⟩)⟩
    · rw [h3']; exact h4
    · have := (ents_set hinj k x l es.toList he 0 _ kd hk h2).1
      simpa using this
    · refine Go.MapKept.stamped_modify hst _ _ (fun _ _ => rfl) (fun e' _ he' => ?_)
      rw [h3'] at he'
      cases he'
      exact h4.symm
    · rw [Array.getElem?_setIfInBounds, if_neg (fun e => hk e.symm)]

theorem del_map {kd : SameK} (hk : KeyLaw kd ek) {ev : V → Value} {r : Nat} {l : List (K × V)} {k : K} {Q : Unit → Heap → Prop}
    (hs : sat h (mapA ek ev r l :: R)) (hq : ∀ h', sat h' (mapA ek ev r (mdel l k) :: R) → Q () h') : HM.mapDel kd (some r) (ek k) h Q := by
  obtain ⟨es, c, ⟨he, hst⟩, hs⟩ := mapA_iff.1 hs
  have hlt := hs.lt
  rcases place_of hk k l es.toList 0 he with ⟨h1, h2⟩ | ⟨v, j, e, h1, h2, h3, h4⟩
  · refine ⟨es, c, none, hs.get, h2, hq _ (mapA_iff.2 ⟨es, c, ⟨by rw [mdel_none l k h1]; exact he, hst⟩, hs.turn (by simp [hlt]) (fun k hk => ?_)⟩)⟩
    rw [Array.getElem?_setIfInBounds, if_neg (fun e => hk e.symm)]
  · refine ⟨es, c, some (0 + j, ev v), hs.get, h2, hq _ (mapA_iff.2 ⟨_, _, ⟨?_, Go.MapKept.stamped_erase hst (0 + j)⟩, hs.turn (o' := .map (es.eraseIdxIfInBounds (0 + j)) c) (by simp [hlt]) (fun k hk => ?_)⟩)⟩
    · have := (ents_del k l es.toList he 0 _ kd hk h2).1
      have hj : j < es.size := by
        have := (List.getElem?_eq_some_iff.1 h3).1
        simpa using this
      simpa [Array.eraseIdxIfInBounds, hj] using this
    · rw [Array.getElem?_setIfInBounds, if_neg (fun e => hk e.symm)]

end

theorem key_int (k : IntKind) : KeyLaw (Instr.sameNow (.int k)) (fun n : Int => Value.int k n) := ⟨fun a b => by simp [Instr.sameNow]; exact Bool.eq_iff_iff.2 (by simp), fun a => by simp [Instr.sameBits]⟩
theorem key_str : KeyLaw (Instr.sameNow .string) (fun s : ByteArray => Value.string s) := ⟨fun a b => by
  simp only [Instr.sameNow, Option.some.injEq]
  exact (beq_toListBytes a b).trans (str_eq a b), fun a => by simp [Instr.sameBits, beq_toListBytes]⟩
theorem inj_str : ∀ a b : ByteArray, Value.string a = Value.string b → a = b := fun a b h => by cases h; rfl
theorem inj_int (k : IntKind) : ∀ a b : Int, Value.int k a = Value.int k b → a = b := fun a b h => by cases h; rfl

end Go.H

namespace Go.H
set_option linter.unusedSimpArgs false
set_option linter.unusedVariables false

class Mono {α : Type} (m : HM α) : Prop where
  mono : ∀ (h : Heap) (Q1 Q2 : α → Heap → Prop), (∀ a h', Q1 a h' → Q2 a h') → m h Q1 → m h Q2

section
variable {α β σ τ : Type}

instance mono_pure (a : α) : Mono (HM.pure a) := ⟨fun _ _ _ hq hm => hq _ _ hm⟩
instance mono_bind (m : HM α) (f : α → HM β) [Mono m] [hf : ∀ a, Mono (f a)] : Mono (HM.bind m f) :=
  ⟨fun h _ _ hq hm => Mono.mono (m := m) h _ _ (fun a h' hx => (hf a).mono h' _ _ hq hx) hm⟩
instance : Mono (HM.fail : HM α) := ⟨fun _ _ _ _ hm => hm⟩
instance mono_both (x y : HM α) [hx : Mono x] [hy : Mono y] : Mono (HM.both x y) := ⟨fun h Q Q' hq hm => ⟨hx.mono h Q Q' hq hm.1, hy.mono h Q Q' hq hm.2⟩⟩
instance mono_ite (b : Bool) (x y : HM α) [Mono x] [Mono y] : Mono (HM.ite b x y) := ⟨fun h _ _ hq hm => by
  cases b
  · exact Mono.mono (m := y) h _ _ hq hm
  · exact Mono.mono (m := x) h _ _ hq hm⟩
instance mono_req (p : Prop) (m : HM α) [Mono m] : Mono (HM.req p m) := ⟨fun h _ _ hq hm => ⟨hm.1, Mono.mono (m := m) h _ _ hq hm.2⟩⟩
instance mono_loop (body : σ → HM (σ ⊕ τ)) (s : σ) [hb : ∀ s, Mono (body s)] : Mono (HM.loop body s) := ⟨fun _ _ _ hq => by
  rintro ⟨I, μ, h0, hr⟩
  refine ⟨I, μ, h0, fun s h hi => (hb s).mono h _ _ ?_ (hr s h hi)⟩
  intro r h' hx
  cases r with
  | inl _ => exact hx
  | inr _ => exact hq _ _ hx⟩
instance mono_elim (f : α → HM τ) (g : β → HM τ) (x : α ⊕ β) [hf : ∀ a, Mono (f a)] [hg : ∀ b, Mono (g b)] : Mono (Sum.elim f g x : HM τ) := by
  cases x with
  | inl a => exact hf a
  | inr b => exact hg b
instance (t : Tag) (a : Addr) : Mono (α := no_index (Tag.ty t)) (HM.load1 t a) := ⟨fun _ _ _ hq ⟨x, h1, h2⟩ => ⟨x, h1, hq _ _ h2⟩⟩
instance (ts : List Tag) (a : Addr) : Mono (α := no_index (Tup ts)) (HM.loadN ts a) := ⟨fun _ _ _ hq ⟨x, h1, h2⟩ => ⟨x, h1, hq _ _ h2⟩⟩
instance (a : Addr) (v : Value) : Mono (HM.store1 a v) := ⟨fun _ _ _ hq ⟨x, h1, h2, h3⟩ => ⟨x, h1, h2, hq _ _ h3⟩⟩
instance (a : Addr) (vs : List Value) : Mono (HM.storeN a vs) := ⟨fun _ _ _ hq ⟨x, h1⟩ => ⟨x, hq _ _ h1⟩⟩
instance (o : Obj) : Mono (HM.new o) := ⟨fun _ _ _ hq hm => hq _ _ hm⟩
instance (p : Option Addr) : Mono (HM.nonnil p) := ⟨fun _ _ _ hq ⟨x, h1, h2⟩ => ⟨x, h1, hq _ _ h2⟩⟩
instance (a : Option Addr) (len : Nat) (i : Int) (size : Nat) : Mono (HM.idx a len i size) := ⟨fun _ _ _ hq ⟨x, h1, h2, h3, h4⟩ => ⟨x, h1, h2, h3, hq _ _ h4⟩⟩
instance (s : ByteArray) (i : Int) : Mono (HM.strIdx s i) := ⟨fun _ _ _ hq ⟨x, h1, h2, h3⟩ => ⟨x, h1, h2, hq _ _ h3⟩⟩
instance (P : Program) (k : Kind) (f : FuncId) (args : Array Value) : Mono (α := no_index (Kind.ty k)) (HM.call1 P k f args) := ⟨fun _ _ _ hq hm => HCalls.mono hm fun _ _ ⟨x, h1, h2⟩ => ⟨x, h1, hq _ _ h2⟩⟩
instance (P : Program) (ks : List Kind) (f : FuncId) (args : Array Value) : Mono (α := no_index (KTup ks)) (HM.callN P ks f args) := ⟨fun _ _ _ hq hm => HCalls.mono hm fun _ _ ⟨x, h1, h2⟩ => ⟨x, h1, hq _ _ h2⟩⟩
instance (P : Program) (k : Kind) (v : Value) (args : Array Value) : Mono (α := no_index (Kind.ty k)) (HM.callV1 P k v args) := ⟨fun _ _ _ hq ⟨f, first, captured, h1, h2, hm⟩ => ⟨f, first, captured, h1, h2, HCalls.mono hm fun _ _ ⟨x, h1, h2⟩ => ⟨x, h1, hq _ _ h2⟩⟩⟩
instance (P : Program) (ks : List Kind) (v : Value) (args : Array Value) : Mono (α := no_index (KTup ks)) (HM.callVN P ks v args) := ⟨fun _ _ _ hq ⟨f, first, captured, h1, h2, hm⟩ => ⟨f, first, captured, h1, h2, HCalls.mono hm fun _ _ ⟨x, h1, h2⟩ => ⟨x, h1, hq _ _ h2⟩⟩⟩
instance (s : Slc) (lo hi mx : Option Int) (size : Nat) : Mono (HM.slice s lo hi mx size) := ⟨fun _ _ _ hq ⟨l, hh, m, h1, h2, h3, h4⟩ => ⟨l, hh, m, h1, h2, h3, hq _ _ h4⟩⟩
instance (s : ByteArray) (lo hi : Option Int) : Mono (HM.substr s lo hi) := ⟨fun _ _ _ hq ⟨l, hh, h1, h2, h4⟩ => ⟨l, hh, h1, h2, hq _ _ h4⟩⟩
instance (elem : TypeId) (size bytes : Nat) (zero : Array Value) (s : Slc) (n : Nat) (src : Heap → Array Value → Prop) : Mono (HM.append elem size bytes zero s n src) := ⟨fun h Q1 Q2 hq hm => by
  refine ⟨fun hc => ?_, fun hc => ?_⟩
  · obtain ⟨vs, h1, h2⟩ := hm.1 hc
    refine ⟨vs, h1, ?_⟩
    cases hs : s.a with
    | none => rw [hs] at h2; exact hq _ _ h2
    | some a => rw [hs] at h2; exact ⟨h2.1, hq _ _ h2.2⟩
  · obtain ⟨h1, h2, old, vs, h3, h4, h5⟩ := hm.2 hc
    exact ⟨h1, h2, old, vs, h3, h4, fun c hc hc2 => hq _ _ (h5 c hc hc2)⟩⟩
instance (elem : TypeId) (bytes : Nat) (zero : Array Value) (n c : Int) : Mono (HM.makeSlice elem bytes zero n c) := ⟨fun _ _ _ hq ⟨h1, h2, h3, h4, h5⟩ => ⟨h1, h2, h3, h4, hq _ _ h5⟩⟩
instance (d : Slc) (n : Nat) (src : Nat → Heap → Array Value → Prop) : Mono (HM.copy d n src) := ⟨fun h Q1 Q2 hq ⟨vs, h1, h2⟩ => by
  refine ⟨vs, h1, ?_⟩
  cases hs : d.a with
  | none => rw [hs] at h2; exact hq _ _ h2
  | some a => rw [hs] at h2; exact ⟨h2.1, hq _ _ h2.2⟩⟩
instance (kd : SameK) (zero : Value) (k : Kind) (r : Option Nat) (key : Value) : Mono (α := no_index (Kind.ty k × Bool)) (HM.lookup kd zero k r key) := ⟨fun _ _ _ hq ⟨es, c, o, x, h1, h2, h3, h4⟩ => ⟨es, c, o, x, h1, h2, h3, hq _ _ h4⟩⟩
instance (kd : SameK) (r : Option Nat) (key val : Value) : Mono (HM.mapSet kd r key val) := ⟨fun h Q1 Q2 hq ⟨b, es, c, o, h1, h2, h3, h4⟩ => by
  refine ⟨b, es, c, o, h1, h2, h3, ?_⟩
  cases o with
  | none => exact hq _ _ h4
  | some o => exact ⟨h4.1, h4.2.1, hq _ _ h4.2.2⟩⟩
instance (kd : SameK) (r : Option Nat) (key : Value) : Mono (HM.mapDel kd r key) := ⟨fun h Q1 Q2 hq hm => by
  cases r with
  | none => exact hq _ _ hm
  | some b =>
    obtain ⟨es, c, o, h1, h2, h3⟩ := hm
    refine ⟨es, c, o, h1, h2, ?_⟩
    cases o with
    | none => exact hq _ _ h3
    | some o => exact hq _ _ h3⟩
instance (zero : Array Value) (s : Slc) : Mono (HM.clearS zero s) := ⟨fun h Q1 Q2 hq hm => by
  unfold HM.clearS at hm ⊢
  cases ha : s.a with
  | none => simp only [ha] at hm ⊢; exact hq _ _ hm
  | some a =>
    simp only [ha] at hm ⊢
    by_cases hn : s.len = 0
    · rw [if_pos hn] at hm ⊢; exact hq _ _ hm
    · rw [if_neg hn] at hm ⊢; exact ⟨hm.1, hq _ _ hm.2⟩⟩
instance (r : Option Nat) : Mono (HM.clearM r) := ⟨fun h Q1 Q2 hq hm => by
  cases r with
  | none => exact hq _ _ hm
  | some r => obtain ⟨es, c, h1, h2⟩ := hm; exact ⟨es, c, h1, hq _ _ h2⟩⟩
instance (r : Option Nat) : Mono (HM.rangeM r) := ⟨fun h Q1 Q2 hq hm => by
  cases r with
  | none => exact hq _ _ hm
  | some r => obtain ⟨es, c, h1, h2⟩ := hm; exact ⟨es, c, h1, hq _ _ h2⟩⟩
instance (b : Nat) : Mono (HM.nextS b) := ⟨fun h Q1 Q2 hq ⟨s, p, h1, h2, h3⟩ => ⟨s, p, h1, fun hp => hq _ _ (h2 hp), fun hp => hq _ _ (h3 hp)⟩⟩
instance (b : Nat) : Mono (HM.nextM b) := ⟨fun h Q1 Q2 hq ⟨m, since, seen, last, h1, h2⟩ => ⟨m, since, seen, last, h1, by
  cases m with
  | none => exact hq _ _ h2
  | some m =>
    obtain ⟨es, c, h3, h4, h5, h6⟩ := h2
    exact ⟨es, c, h3, h4, fun hh => hq _ _ (h5 hh), fun e he hs => hq _ _ (h6 e he hs)⟩⟩⟩
instance (kk kv : Kind) (b : Nat) : Mono (α := no_index (Kind.ty kk × Kind.ty kv)) (HM.entryM kk kv b) := ⟨fun h Q1 Q2 hq ⟨m, since, seen, stepped, es, stamp, e, k, v, h1, h2, h3, h4, h5, h6, h7⟩ => ⟨m, since, seen, stepped, es, stamp, e, k, v, h1, h2, h3, h4, h5, h6, hq _ _ h7⟩⟩
instance (kd : SameK) (zero : Value) (k : Kind) (r : Option Nat) (key : Value) : Mono (α := no_index (Kind.ty k × Int)) (HM.mapEntry kd zero k r key) := ⟨fun h Q1 Q2 hq ⟨b, es, c, o, h1, h2, h3, h4⟩ => ⟨b, es, c, o, h1, h2, h3, by
  cases o with
  | none => obtain ⟨x, h5, h6⟩ := h4; exact ⟨x, h5, hq _ _ h6⟩
  | some p => obtain ⟨h7, h8, x, h5, h6⟩ := h4; exact ⟨h7, h8, x, h5, hq _ _ h6⟩⟩⟩
instance (r : Option Nat) (st : Int) (v : Value) : Mono (HM.entryStore r st v) := ⟨fun h Q1 Q2 hq ⟨b, es, c, i, h1, h2, h3, h4⟩ => ⟨b, es, c, i, h1, h2, h3, hq _ _ h4⟩⟩
instance mono_opt (o : Option α) (a : HM β) (f : α → HM β) [ha : Mono a] [hf : ∀ x, Mono (f x)] : Mono (HM.opt o a f) := ⟨fun h Q1 Q2 hq hm => by
  cases o with
  | none => exact ha.mono _ _ _ hq hm
  | some x => exact (hf x).mono _ _ _ hq hm⟩
instance (s : Slc) : Mono (HM.strOf s) := ⟨fun _ _ _ hq ⟨ns, h1, h2⟩ => ⟨ns, h1, hq _ _ h2⟩⟩
instance (r : Option Nat) : Mono (HM.mapLen r) := ⟨fun _ _ _ hq ⟨es, c, h1, h2⟩ => ⟨es, c, h1, hq _ _ h2⟩⟩

/-- a loop with a ghost that goes down -/
theorem loop_gh {γ : Type} {body : σ → HM (σ ⊕ τ)} {s : σ} {h : Heap} {Q : τ → Heap → Prop} [hb : ∀ s, Mono (body s)] (I : γ → σ → Heap → Prop) (μ : γ → Nat) (g : γ) (h0 : I g s h)
    (hr : ∀ g s h, I g s h → body s h fun r h' => match r with
      | .inl s' => ∃ g', μ g' < μ g ∧ I g' s' h'
      | .inr t => Q t h') : HM.loop body s h Q := by
  refine loop_ghost (fun n s h => ∃ g, μ g = n ∧ I g s h) (n := μ g) ⟨g, rfl, h0⟩ ?_ (fun s h _ _ hq hm => (hb s).mono h _ _ hq hm)
  rintro n s h ⟨g, rfl, hi⟩
  refine (hb s).mono h _ _ ?_ (hr g s h hi)
  intro r h' hx
  cases r with
  | inr t => exact hx
  | inl s' =>
    obtain ⟨g', h1, h2⟩ := hx
    exact ⟨_, h1, g', rfl, h2⟩

/-- the next round's ghost: 'Next.mk' -/
def Next {γ σ : Type} (I : γ → σ → Heap → Prop) (μ : γ → Nat) (g : γ) (s : σ) (h : Heap) : Prop := ∃ g', μ g' < μ g ∧ I g' s h
theorem Next.mk {γ σ : Type} {I : γ → σ → Heap → Prop} {μ : γ → Nat} {g : γ} {s : σ} {h : Heap} (g' : γ) (h1 : μ g' < μ g) (h2 : I g' s h) : Next I μ g s h := ⟨g', h1, h2⟩
/-- as 'loop_gh', the next round's ghost under a word that simp leaves alone -/
theorem loop_gx {γ : Type} {body : σ → HM (σ ⊕ τ)} {s : σ} {h : Heap} {Q : τ → Heap → Prop} [hb : ∀ s, Mono (body s)] (I : γ → σ → Heap → Prop) (μ : γ → Nat) (g : γ) (h0 : I g s h)
    (hr : ∀ g s h, I g s h → body s h fun r h' => match r with
      | .inl s' => Next I μ g s' h'
      | .inr t => Q t h') : HM.loop body s h Q := loop_gh I μ g h0 hr

end

/-- a cut: what holds behind the first part is all that is known ahead of the second -/
theorem bind_cut {α β : Type} {m : HM α} [hm : Mono m] {f : α → HM β} {h : Heap} {Q : β → Heap → Prop} (P : α → Heap → Prop) (h1 : m h P) (h2 : ∀ a h', P a h' → f a h' Q) : (m.bind f) h Q :=
  hm.mono h P _ h2 h1

end Go.H

namespace Go.H
set_option linter.unusedSimpArgs false
set_option linter.unusedVariables false
open Go.MapKept (Stamped)

section
variable {K V : Type}

/-- entries that read as these pairs -/
def PairE (ek : K → Value) (ev : V → Value) (l : List (K × V)) (es : List MapEntry) : Prop := es.map (fun e => (e.key, e.val)) = l.map (fun p => (ek p.1, ev p.2))

/-- a walk over a map's entries is under way: what was met, what is left -/
structure ItF (ek : K → Value) (ev : V → Value) (l done todo : List (K × V)) (es : Array MapEntry) (clock : Nat) (seen : Array Nat) (des tes : List MapEntry) : Prop where
  ents : Ents ek ev l es.toList
  stamped : Stamped es clock
  perm : (des ++ tes).Perm es.toList
  seen : seen.toList = des.map (·.born)
  done : PairE ek ev done des
  todo : PairE ek ev todo tes

def itA (ek : K → Value) (ev : V → Value) (m : Nat) (l : List (K × V)) (it : Nat) (done todo : List (K × V)) : Asn :=
  exA fun x : Array MapEntry × Nat × Array Nat × List MapEntry × List MapEntry =>
    star (pr (ItF ek ev l done todo x.1 x.2.1 x.2.2.1 x.2.2.2.1 x.2.2.2.2)) (star (blk it (.mapIter (some m) x.2.1 x.2.2.1 x.2.1)) (blk m (.map x.1 x.2.1)))

variable {h : Heap} {R : List Asn} {ek : K → Value} {ev : V → Value} {m it : Nat} {l done todo : List (K × V)}

theorem itA_iff : sat h (itA ek ev m l it done todo :: R) ↔ ∃ es clock seen des tes, ItF ek ev l done todo es clock seen des tes ∧ sat h (blk it (.mapIter (some m) clock seen clock) :: blk m (.map es clock) :: R) := by
  unfold itA
  rw [sat.ex_iff]
  constructor
  · rintro ⟨⟨es, c, s, d, t⟩, hs⟩
    rw [sat.star_iff, sat.pr_iff, sat.star_iff] at hs
    exact ⟨es, c, s, d, t, hs⟩
  · rintro ⟨es, c, s, d, t, hs⟩
    exact ⟨(es, c, s, d, t), by rw [sat.star_iff, sat.pr_iff, sat.star_iff]; exact hs⟩

theorem range_map {Q : Nat → Heap → Prop} (hs : sat h (mapA ek ev m l :: R)) (hq : ∀ it h', sat h' (itA ek ev m l it [] l :: R) → Q it h') : HM.rangeM (some m) h Q := by
  obtain ⟨es, c, ⟨he, hst⟩, hs⟩ := mapA_iff.1 hs
  refine ⟨es, c, hs.get, ?_⟩
  refine hq _ _ (itA_iff.2 ⟨es, c, #[], [], es.toList, ⟨he, hst, by simp, rfl, rfl, he⟩, ?_⟩)
  exact hs.push

/-- a walk that is over: the map -/
theorem itA_map (hs : sat h (itA ek ev m l it done todo :: R)) : sat h (mapA ek ev m l :: R) := by
  obtain ⟨es, c, s, d, t, hf, hs⟩ := itA_iff.1 hs
  exact mapA_iff.2 ⟨es, c, ⟨hf.ents, hf.stamped⟩, hs.drop⟩

theorem next_map {Q : Option (Value × Value) → Heap → Prop} (hs : sat h (itA ek ev m l it done todo :: R)) (h0 : todo = [] → Q none h)
    (h1 : ∀ (p : K × V) (t1 t2 : List (K × V)), todo = t1 ++ p :: t2 → ∀ h', sat h' (itA ek ev m l it (done ++ [p]) (t1 ++ t2) :: R) → Q (some (ek p.1, ev p.2)) h') : HM.nextM it h Q := by
  obtain ⟨es, c, seen, des, tes, hf, hs⟩ := itA_iff.1 hs
  have hborn : ∀ e ∈ es, e.born < c := fun e he => hf.stamped.1 e (by simpa using he)
  have hnd : (es.toList.map (·.born)).Nodup := hf.stamped.2.1
  have hnd' : ((des ++ tes).map (·.born)).Nodup := (hf.perm.map (·.born)).nodup_iff.2 hnd
  rw [List.map_append, List.nodup_append] at hnd'
  have hmem : ∀ e : MapEntry, e ∈ es ↔ e ∈ des ∨ e ∈ tes := fun e => by
    rw [← Array.mem_toList_iff, ← hf.perm.mem_iff, List.mem_append]
  have hseen : ∀ b, seen.contains b = true ↔ b ∈ des.map (·.born) := fun b => by
    rw [← hf.seen]; simp
  have htes : ∀ e ∈ es, seen.contains e.born = false → e ∈ tes := fun e he hc => by
    rcases (hmem e).1 he with hd | ht
    · exact absurd ((hseen e.born).2 (List.mem_map_of_mem hd)) (by rw [hc]; simp)
    · exact ht
  refine ⟨some m, c, seen, c, hs.get, es, c, hs.p1.get, ?_, fun hall => ?_, fun e he hc => ?_⟩
  · by_cases hz : es.isEmpty = true
    · simp [hz]
    · have hne : es ≠ #[] := by simpa using hz
      obtain ⟨e, he⟩ : ∃ e, e ∈ es := ⟨es[0]'(Array.size_pos_iff.2 hne), Array.getElem_mem _⟩
      have hlt := hborn e he
      have : es.all (fun e => decide (e.born ≥ c)) = false := by
        cases hh : es.all (fun e => decide (e.born ≥ c)) with
        | false => rfl
        | true =>
          rw [Array.all_eq_true_iff_forall_mem] at hh
          have := hh e he
          simp at this
          omega
      simp [this]
  · -- nothing is left
    refine h0 ?_
    have : tes = [] := by
      cases tes with
      | nil => rfl
      | cons e t =>
        have he : e ∈ es := (hmem e).2 (.inr (List.mem_cons_self ..))
        have hnc : seen.contains e.born = false := by
          cases hh : seen.contains e.born with
          | false => rfl
          | true =>
            exact absurd rfl (hnd'.2.2 e.born ((hseen _).1 hh) e.born (by simp))
        have := hall e he hnc
        have := hborn e he
        omega
    have ht := hf.todo
    rw [this] at ht
    simp only [PairE, List.map_nil] at ht
    exact List.map_eq_nil_iff.1 ht.symm
  · have ht := htes e he hc
    obtain ⟨t1, t2, rfl⟩ := List.append_of_mem ht
    have htd := hf.todo
    simp only [PairE, List.map_append, List.map_cons] at htd
    obtain ⟨l1, l2', e1, e2, e3⟩ := List.map_eq_append_iff.1 htd.symm
    obtain ⟨p, l2, e4, e5, e6⟩ := List.map_eq_cons_iff.1 e3
    subst e4
    have e5' : (ek p.1, ev p.2) = (e.key, e.val) := e5
    obtain ⟨k1, k2⟩ := Prod.mk.inj e5'
    rw [← k1, ← k2]
    have hlt := hs.lt
    refine h1 p l1 l2 e1 _ (itA_iff.2 ⟨es, c, seen.push e.born, des ++ [e], t1 ++ t2, ⟨hf.ents, hf.stamped, ?_, ?_, ?_, ?_⟩, ?_⟩)
    · refine List.Perm.trans ?_ hf.perm
      rw [List.append_assoc]
      refine List.Perm.append_left des ?_
      show (e :: (t1 ++ t2)).Perm _
      exact List.perm_middle.symm
    · simp [hf.seen]
    · simp only [PairE, List.map_append, List.map_cons, List.map_nil]
      rw [hf.done, e5']
    · simp only [PairE, List.map_append]
      rw [e2, e6]
    · exact hs.turn (o' := .mapIter (some m) c (seen.push e.born) c) (by simp [hlt]) (fun k hk => by rw [Array.getElem?_setIfInBounds, if_neg (fun e => hk e.symm)])

theorem entry_map {kk kv : Kind} {p : K × V} {x : kk.ty} {y : kv.ty} {Q : kk.ty × kv.ty → Heap → Prop} (hk : ek p.1 = kk.val x) (hv : ev p.2 = kv.val y)
    (hs : sat h (itA ek ev m l it (done ++ [p]) todo :: R)) (hq : Q (x, y) h) : HM.entryM kk kv it h Q := by
  obtain ⟨es, c, seen, des, tes, hf, hs⟩ := itA_iff.1 hs
  have hd := hf.done
  simp only [PairE, List.map_append, List.map_cons, List.map_nil] at hd
  obtain ⟨d1, d2', e1, e2, e3⟩ := List.map_eq_append_iff.1 hd
  obtain ⟨e, d2, e4, e5, e6⟩ := List.map_eq_cons_iff.1 e3
  have : d2 = [] := List.map_eq_nil_iff.1 e6
  subst this e4 e1
  obtain ⟨k1, k2⟩ := Prod.mk.inj e5
  have hnd : (es.toList.map (·.born)).Nodup := hf.stamped.2.1
  have hem : e ∈ es.toList := hf.perm.mem_iff.1 (by simp)
  have hfind : es.find? (fun x => x.born == e.born) = some e := by
    rw [← Array.find?_toList]
    obtain ⟨a, b, hab⟩ := List.append_of_mem hem
    rw [hab]
    rw [hab, List.map_append, List.map_cons, List.nodup_append] at hnd
    rw [List.find?_append]
    have : a.find? (fun x => x.born == e.born) = none := by
      rw [List.find?_eq_none]
      intro x hx
      have := hnd.2.2 x.born (List.mem_map_of_mem hx) e.born (by simp)
      simpa using this
    rw [this]
    simp
  have hback : seen.back? = some e.born := by
    have hsn := hf.seen
    rw [List.map_append, List.map_cons, List.map_nil] at hsn
    rw [← Array.getLast?_toList, hsn]
    simp
  exact ⟨m, c, seen, c, es, e.born, e, x, y, hs.get, hback, hs.p1.get, hfind, k1.trans hk, k2.trans hv, hq⟩

end

@[simp] theorem opt_none {α β : Type} (a : HM β) (f : α → HM β) {h : Heap} {Q : β → Heap → Prop} : HM.opt none a f h Q = a h Q := rfl
@[simp] theorem opt_some {α β : Type} (x : α) (a : HM β) (f : α → HM β) {h : Heap} {Q : β → Heap → Prop} : HM.opt (some x) a f h Q = f x h Q := rfl

/-! ### many, side by side -/

def bigA {α : Type} (f : α → Asn) : List α → Asn
  | [] => pr True
  | x :: l => star (f x) (bigA f l)

section
variable {α : Type} {f : α → Asn} {h : Heap} {R : List Asn}

theorem bigA_nil : sat h (bigA f [] :: R) ↔ sat h R := sat.pr_iff.trans ⟨fun hh => hh.2, fun hh => ⟨trivial, hh⟩⟩
theorem bigA_cons {x : α} {l : List α} : sat h (bigA f (x :: l) :: R) ↔ sat h (f x :: bigA f l :: R) := sat.star_iff
theorem bigA_pick {x : α} {l2 : List α} : ∀ {l1 : List α} {R : List Asn}, sat h (bigA f (l1 ++ x :: l2) :: R) ↔ sat h (f x :: bigA f (l1 ++ l2) :: R)
  | [], R => bigA_cons
  | y :: l1, R => by
    rw [List.cons_append, List.cons_append, bigA_cons]
    constructor
    · intro hs
      exact (bigA_cons.2 (bigA_pick.1 hs.p1).p2.p2.p1).p1
    · intro hs
      exact (bigA_pick.2 (bigA_cons.1 hs.p1).p2.p2.p1).p1
theorem bigA_mem {x : α} {l : List α} (hx : x ∈ l) (hs : sat h (bigA f l :: R)) : ∃ R', sat h (f x :: R') := by
  obtain ⟨l1, l2, rfl⟩ := List.append_of_mem hx
  exact ⟨_, bigA_pick.1 hs⟩

end

/-! ### another order -/

theorem stars_perm {L L' : List Asn} (hp : L.Perm L') : ∀ m, stars L m → stars L' m := by
  induction hp with
  | nil => exact fun _ h => h
  | cons x _ ih => exact fun m h => star_mono (fun _ h => h) ih h
  | swap x y l => exact fun m h => stars_swap h
  | trans _ _ ih1 ih2 => exact fun m h => ih2 m (ih1 m h)

theorem sat.perm {h : Heap} {L L' : List Asn} (hp : L.Perm L') (hs : sat h L) : sat h L' :=
  let ⟨m, h1, h2⟩ := hs
  ⟨m, h1, stars_perm hp m h2⟩

theorem sat.trues {h : Heap} {R : List Asn} : ∀ (n : Nat), sat h R → sat h (List.replicate n (pr True) ++ R)
  | 0, hs => hs
  | n + 1, hs => sat.pr_iff.2 ⟨trivial, sat.trues n hs⟩

/-- the first ones, in the order of these numbers -/
theorem sat.re {h : Heap} {L : List Asn} (hs : sat h L) (idx : List Nat) (hi : idx.isPerm (List.range idx.length) = true := by rfl) :
    sat h (idx.map (fun i => L.getD i (pr True)) ++ L.drop idx.length) := by
  have h1 : (idx.map (fun i => L.getD i (pr True))).Perm ((List.range idx.length).map (fun i => L.getD i (pr True))) := (List.isPerm_iff.1 hi).map _
  refine sat.perm (h1.symm.append_right _) ?_
  generalize idx.length = n
  clear h1 hi
  by_cases hn : n ≤ L.length
  · have e : (List.range n).map (fun i => L.getD i (pr True)) = L.take n := by
      refine List.ext_getElem (by simp; omega) fun i h2 h3 => ?_
      simp at h2 h3
      simp [List.getElem?_eq_getElem (show i < L.length by omega)]
    rw [e, List.take_append_drop]
    exact hs
  · rw [List.drop_of_length_le (by omega), List.append_nil]
    have e : (List.range n).map (fun i => L.getD i (pr True)) = L ++ List.replicate (n - L.length) (pr True) := by
      refine List.ext_getElem? fun i => ?_
      rw [List.getElem?_append]
      by_cases h2 : i < L.length
      · simp [h2, show i < n by omega]
      · by_cases h3 : i < n
        · simp [h2, h3, List.getElem?_replicate, show i - L.length < n - L.length by omega, List.getElem?_eq_none (show L.length ≤ i by omega)]
        · simp [h2, h3, List.getElem?_replicate]
          omega
    rw [e]
    exact (sat.trues _ hs).perm List.perm_append_comm

section
variable {K V : Type} [DecidableEq K]
theorem mget_mem : ∀ {l : List (K × V)} {k : K} {v : V}, mget l k = some v → (k, v) ∈ l
  | [], k, v, h => by simp at h
  | (a, b) :: l, k, v, h => by
    rw [mget_cons] at h
    by_cases e : a = k
    · rw [if_pos e] at h
      cases h
      subst e
      exact List.mem_cons_self ..
    · rw [if_neg e] at h
      exact List.mem_cons_of_mem _ (mget_mem h)
theorem mdel_mid : ∀ {l1 l2 : List (K × V)} {k : K} {v : V}, k ∉ l1.map (·.1) → mdel (l1 ++ (k, v) :: l2) k = l1 ++ l2
  | [], l2, k, v, _ => by simp [mdel]
  | (a, b) :: l1, l2, k, v, h => by
    simp only [List.map_cons, List.mem_cons, not_or] at h
    simp only [List.cons_append, mdel, if_neg (fun e : a = k => h.1 e.symm), mdel_mid h.2]
end

end Go.H

namespace Go.H
set_option linter.unusedSimpArgs false
set_option linter.unusedVariables false
open Go.RowKit

/-- old memory stands: 'Below' -/
theorem below_of {w w' : World} {R : List Asn} (hs : Same w w') (ho : sat w'.heap (old w.heap :: R)) : Below w.heap.size w w' := by
  refine ⟨hs.os, hs.tape, hs.output, ?_, fun k hk => ?_⟩
  · rcases Nat.eq_zero_or_pos w.heap.size with h0 | hp
    · omega
    · have hg : w.heap[w.heap.size - 1]? = some w.heap[w.heap.size - 1] := Array.getElem?_eq_getElem (by omega)
      have := (Array.getElem?_eq_some_iff.1 (ho.old_get hg)).1
      omega
  · rw [ho.old_get (Array.getElem?_eq_getElem hk), Array.getElem?_eq_getElem hk]

theorem walk_of {P : Program} {f : FuncId} {args : Array Value} {w : World} {v : Value}
    (hc : HCalls P f args w.heap fun v' h' => v' = v ∧ ∃ R, sat h' (old w.heap :: R)) : Calls P f args w fun e w' => e = .returned v ∧ Below w.heap.size w w' :=
  (hc w rfl).mono fun e w' ⟨_, he, hs, hv, R, ho⟩ => ⟨by rw [he, hv], below_of hs ho⟩

/-- a row in old memory: the elements xs, each of 'size' cells -/
def RowAt {α : Type} (enc : α → List Value) (size : Nat) (h0 : Heap) (s : Slc) (xs : List α) : Prop :=
  s.len = xs.length ∧ s.len ≤ s.cap ∧ ∀ (i : Nat) x, xs[i]? = some x → ∃ a, s.a = some a ∧ ∀ j v, (enc x)[j]? = some v → cellH h0 ((a.add (i * size)).add j) = some v

section
variable {α β : Type} {enc : α → List Value} {size : Nat} {h0 h : Heap} {s : Slc} {xs : List α}

theorem idx_row (hr : RowAt enc size h0 s xs) {i : Nat} {x : α} (hx : xs[i]? = some x) {Q : Addr → Heap → Prop}
    (hq : ∀ a, (∀ j v, (enc x)[j]? = some v → cellH h0 (a.add j) = some v) → Q a h) : HM.idx s.a s.len (i : Int) size h Q := by
  obtain ⟨a, ha, hc⟩ := hr.2.2 i x hx
  have hlt := (List.getElem?_eq_some_iff.1 hx).1
  exact ⟨a, ha, by omega, by have := hr.1; omega, hq _ (by simpa using hc)⟩

theorem slice_row (hr : RowAt enc size h0 s xs) {n : Nat} (hn : n ≤ xs.length) {Q : Slc → Heap → Prop}
    (hq : ∀ s', RowAt enc size h0 s' (xs.take n) → Q s' h) : HM.slice s none (some (n : Int)) none size h Q := by
  refine ⟨0, n, s.cap, rfl, ⟨rfl, by have := hr.1; have := hr.2.1; omega⟩, rfl, hq _ ⟨?_, ?_, ?_⟩⟩
  · simp [sliceOf]; omega
  · have := hr.1; have := hr.2.1; simp [sliceOf]; omega
  · intro i x hx
    obtain ⟨a, ha, hc⟩ := hr.2.2 i x (by
      rw [List.getElem?_take] at hx
      split at hx
      · exact hx
      · cases hx)
    refine ⟨a, ?_, hc⟩
    simp only [sliceOf, ha]
    split
    · rfl
    · simp [add_zero]

end

theorem row_ints {k : IntKind} {w : World} {a : Option Addr} {len cap : Nat} {zs : List Int} (hr : (a = none ∧ len = 0 ∧ cap = 0 ∧ zs = []) ∨
    ∃ x, a = some x ∧ len ≤ cap ∧ cap ≤ maxLen ∧ zs.length = cap ∧ (∀ i, i < zs.length → w.cell? (x.add i) = some (.int k (zs.getD i 0))) ∧ ∀ n ∈ zs, (Lit.int k n).wf = true) :
    RowAt (fun x : Int => [Value.int k x]) 1 w.heap ⟨a, len, cap⟩ (zs.take len) := by
  rcases hr with ⟨rfl, rfl, rfl, rfl⟩ | ⟨x, rfl, h1, h2, h3, h4, h5⟩
  · exact ⟨rfl, Nat.le_refl _, fun i x hx => by simp at hx⟩
  · refine ⟨by simp; omega, h1, fun i y hy => ⟨x, rfl, fun j v hv => ?_⟩⟩
    rw [List.getElem?_take] at hy
    split at hy
    · have hlt := (List.getElem?_eq_some_iff.1 hy).1
      cases j with
      | succ j => simp at hv
      | zero =>
        simp only [List.getElem?_cons_zero, Option.some.injEq] at hv
        subst hv
        have h6 := h4 i hlt
        rw [List.getD_eq_getElem?_getD, hy] at h6
        rw [Nat.mul_one, add_zero]
        exact h6
    · cases hy

end Go.H

namespace Go.H
set_option linter.unusedSimpArgs false
set_option linter.unusedVariables false

theorem wrap_id {n : Int} (h1 : -9223372036854775808 ≤ n) (h2 : n ≤ 9223372036854775807) : IntKind.wrap .i64 n = n := by
  simp [IntKind.wrap, IntKind.bits, IntKind.signed]; omega

section
variable {h h' : Heap} {A : Asn} {R : List Asn}

/-- what held holds of a heap that has grown -/
theorem sat.grow (hs : sat h R) (hg : ∀ (k : Nat) o, h[k]? = some o → h'[k]? = some o) : sat h' R := by
  obtain ⟨m, h1, h2⟩ := hs
  exact ⟨m, fun k o ho => hg k o (h1 k o ho), h2⟩
/-- a block that came -/
theorem sat.came (hs : sat h R) (hg : ∀ (k : Nat) o, h[k]? = some o → h'[k]? = some o) {b : Nat} {o : Obj} (hb : h.size ≤ b) (ho : h'[b]? = some o) : sat h' (blk b o :: R) := by
  obtain ⟨m, h1, h2⟩ := hs
  have hm : m b = none := by
    cases hx : m b with
    | none => rfl
    | some x =>
      have := (Array.getElem?_eq_some_iff.1 (h1 _ _ hx)).1
      omega
  refine ⟨PH.join (fun k => if k = b then some o else none) m, sub_join (fun k x hx => ?_) (fun k x hx => hg k x (h1 k x hx)), _, m, fun k => ?_, rfl, by simp [blk], h2⟩
  · have hx' : (if k = b then some o else none) = some x := hx
    split at hx'
    · rename_i e; subst e; cases hx'; exact ho
    · cases hx'
  · by_cases e : k = b
    · subst e; exact .inr hm
    · exact .inl (by simp [e])
theorem sat.came_cells (hs : sat h R) (hg : ∀ (k : Nat) o, h[k]? = some o → h'[k]? = some o) {b : Nat} {cs : Array Value} {T : TypeId} (hb : h.size ≤ b) (ho : h'[b]? = some (.cells cs T (0, 0))) : sat h' (cells b cs :: R) :=
  cells_iff.2 ⟨T, hs.came hg hb ho⟩


/-- a contract of the library's: whatever is there is as it was -/
theorem calls_below {P : Program} {f : FuncId} {args : Array Value} {v : Value} {Q : Value → Heap → Prop} (hs : sat h R)
    (hc : ∀ w, w.heap = h → Calls P f args w fun e w' => e = .returned v ∧ Go.RowKit.Below w.heap.size w w') (hq : ∀ h', sat h' R → Q v h') : HCalls P f args h Q := by
  intro w hw
  refine (hc w hw).mono ?_
  rintro e w' ⟨rfl, hb⟩
  refine ⟨v, rfl, ⟨hb.os, hb.tape, hb.output⟩, hq _ (hs.grow fun k o ho => ?_)⟩
  rw [hb.block k (by rw [hw]; exact (Array.getElem?_eq_some_iff.1 ho).1), hw]
  exact ho

end

/-! ### rows that are read -/

section
variable {α : Type} {enc : α → List Value} {size : Nat} {h h0 h' : Heap} {s : Slc} {xs : List α} {R : List Asn}

theorem RowAt.mono (hr : RowAt enc size h0 s xs) (hc : ∀ a v, cellH h0 a = some v → cellH h a = some v) : RowAt enc size h s xs :=
  ⟨hr.1, hr.2.1, fun i x hx => by
    obtain ⟨a, ha, hx⟩ := hr.2.2 i x hx
    exact ⟨a, ha, fun j v hv => hc _ _ (hx j v hv)⟩⟩
theorem RowAt.old (hr : RowAt enc size h0 s xs) (hs : sat h (old h0 :: R)) : RowAt enc size h s xs := hr.mono fun _ _ hc => hs.old_cell hc
theorem RowAt.nil : RowAt enc size h ⟨none, 0, 0⟩ [] := ⟨rfl, Nat.le_refl _, fun i x hx => by simp at hx⟩
theorem RowAt.nil' {c : Nat} {a : Option Addr} : RowAt enc size h ⟨a, 0, c⟩ [] := ⟨rfl, Nat.zero_le _, fun i x hx => by simp at hx⟩

end

/-! ### slices of one's own -/

/-- the slice s, in block b with the cells cs, from element number o on, has the elements xs -/
structure OwnF {α : Type} (enc : α → List Value) (size : Nat) (s : Slc) (xs : List α) (b o : Nat) (cs : Array Value) : Prop where
  a : s.a = some ⟨b, o * size, none⟩
  le : s.len ≤ s.cap
  len : s.len = xs.length
  csize : (o + s.cap) * size ≤ cs.size
  front : (cs.toList.drop (o * size)).take (s.len * size) = xs.flatMap enc

/-- a slice in a block of its own, or without room: its elements are xs -/
def ownS {α : Type} (enc : α → List Value) (size : Nat) (s : Slc) (xs : List α) : Asn := fun m =>
  (s.len = 0 ∧ s.cap = 0 ∧ xs = []) ∨ exA (fun x : Nat × Nat × Array Value => star (pr (OwnF enc size s xs x.1 x.2.1 x.2.2)) (cells x.1 x.2.2)) m

section
variable {α : Type} {enc : α → List Value} {size : Nat} {h : Heap} {s : Slc} {xs : List α} {R : List Asn}

theorem ownS_cases (hs : sat h (ownS enc size s xs :: R)) : (s.len = 0 ∧ s.cap = 0 ∧ xs = [] ∧ sat h R) ∨ ∃ b o cs, OwnF enc size s xs b o cs ∧ sat h (cells b cs :: R) := by
  obtain ⟨m, h1, a, r, hd, rfl, ha, hr⟩ := id hs
  rcases ha with ⟨h2, h3, h4⟩ | ha
  · exact .inl ⟨h2, h3, h4, hs.drop⟩
  · have hs' : sat h (exA (fun x : Nat × Nat × Array Value => star (pr (OwnF enc size s xs x.1 x.2.1 x.2.2)) (cells x.1 x.2.2)) :: R) := ⟨_, h1, a, r, hd, rfl, ha, hr⟩
    rw [sat.ex_iff] at hs'
    obtain ⟨⟨b, o, cs⟩, hs'⟩ := hs'
    rw [sat.star_iff, sat.pr_iff] at hs'
    exact .inr ⟨b, o, cs, hs'⟩
theorem ownS_none {a : Option Addr} (hs : sat h R) : sat h (ownS enc size ⟨a, 0, 0⟩ [] :: R) := by
  obtain ⟨m, h1, h2⟩ := hs
  exact ⟨m, h1, fun _ => none, m, fun k => .inl rfl, by funext k; rfl, .inl ⟨rfl, rfl, rfl⟩, h2⟩
theorem ownS_nil (hs : sat h R) : sat h (ownS enc size ⟨none, 0, 0⟩ [] :: R) := ownS_none hs
theorem ownS_mk {b o : Nat} {cs : Array Value} (ho : OwnF enc size s xs b o cs) (hs : sat h (cells b cs :: R)) : sat h (ownS enc size s xs :: R) := by
  have hs' : sat h (exA (fun x : Nat × Nat × Array Value => star (pr (OwnF enc size s xs x.1 x.2.1 x.2.2)) (cells x.1 x.2.2)) :: R) := by
    rw [sat.ex_iff]
    refine ⟨(b, o, cs), ?_⟩
    rw [sat.star_iff, sat.pr_iff]
    exact ⟨ho, hs⟩
  exact hs'.imp fun m hm => .inr hm
theorem sat.own_len (hs : sat h (ownS enc size s xs :: R)) : s.len = xs.length := by
  rcases ownS_cases hs with ⟨h1, h2, rfl, -⟩ | ⟨b, o, cs, ho, -⟩
  · exact h1
  · exact ho.len
theorem sat.own_le (hs : sat h (ownS enc size s xs :: R)) : s.len ≤ s.cap := by
  rcases ownS_cases hs with ⟨h1, h2, rfl, -⟩ | ⟨b, o, cs, ho, -⟩
  · omega
  · exact ho.le

/-- the cells of an element in a row of such -/
theorem flat_get (henc : ∀ x, (enc x).length = size) : ∀ (xs : List α) (i : Nat) (x : α), xs[i]? = some x → ∀ j v, (enc x)[j]? = some v → (xs.flatMap enc)[i * size + j]? = some v
  | [], i, x, hx, _, _, _ => by simp at hx
  | y :: xs, 0, x, hx, j, v, hv => by
    simp only [List.getElem?_cons_zero, Option.some.injEq] at hx
    subst hx
    rw [List.flatMap_cons, Nat.zero_mul, Nat.zero_add]
    have hj := (List.getElem?_eq_some_iff.1 hv).1
    rw [List.getElem?_append_left hj]
    exact hv
  | y :: xs, i + 1, x, hx, j, v, hv => by
    rw [List.getElem?_cons_succ] at hx
    rw [List.flatMap_cons, List.getElem?_append_right (by rw [henc]; rw [Nat.succ_mul]; omega), henc]
    rw [show (i + 1) * size + j - size = i * size + j from by rw [Nat.succ_mul]; omega]
    exact flat_get henc xs i x hx j v hv

theorem flat_len (henc : ∀ x, (enc x).length = size) (xs : List α) : (xs.flatMap enc).length = xs.length * size := by
  induction xs with
  | nil => simp
  | cons x xs ih => rw [List.flatMap_cons, List.length_append, ih, henc, List.length_cons, Nat.succ_mul]; omega

theorem sat.own_row (henc : ∀ x, (enc x).length = size) (hs : sat h (ownS enc size s xs :: R)) : RowAt enc size h s xs := by
  rcases ownS_cases hs with ⟨h1, h2, rfl, -⟩ | ⟨b, o, cs, ho, hs⟩
  · exact ⟨h1, by omega, fun i x hx => by simp at hx⟩
  · refine ⟨ho.len, ho.le, fun i x hx => ⟨_, ho.a, fun j v hv => ?_⟩⟩
    rw [Addr.add_at, Addr.add_at, hs.cell]
    have h1 := flat_get henc xs i x hx j v hv
    rw [← ho.front, List.getElem?_take] at h1
    split at h1
    · rw [List.getElem?_drop] at h1
      rw [show o * size + i * size + j = o * size + (i * size + j) from by omega]
      simpa using h1
    · cases h1

/-- a part of such a slice -/
theorem slice_own {lo hi : Nat} {mx : Option Int} {Q : Slc → Heap → Prop} {ol oh : Option Int} (hs : sat h (ownS enc size s xs :: R)) (henc : ∀ x, (enc x).length = size)
    (h1 : lo ≤ hi) (h2 : hi ≤ xs.length) (e1 : optLe ol (lo = 0) lo hi) (e2 : optLe oh (hi = s.len) hi s.cap)
    (hq : ∀ s', sat h (ownS enc size s' ((xs.take hi).drop lo) :: R) → Q s' h) : HM.slice s ol oh none size h Q := by
  have hl := hs.own_len
  have hc := hs.own_le
  refine ⟨lo, hi, s.cap, rfl, ?_, e1, hq _ ?_⟩
  · cases oh with
    | none => exact ⟨rfl, e2⟩
    | some x => exact e2
  rcases ownS_cases hs with ⟨g1, g2, rfl, hs1⟩ | ⟨b, o, cs, ho, hs1⟩
  · have : hi = 0 := by simpa using h2
    subst this
    have : lo = 0 := by omega
    subst this
    simp only [sliceOf, g2, if_true, List.take_nil, List.drop_nil, Nat.sub_self]
    exact ownS_none hs1
  · by_cases hm : s.cap = lo
    · have e0 : lo = xs.length := by omega
      simp only [sliceOf, hm, if_true, Nat.sub_self]
      rw [List.drop_of_length_le (by simp; omega), show hi - lo = 0 from by omega]
      exact ownS_none hs.drop
    · refine ownS_mk (b := b) (o := o + lo) (cs := cs) ⟨?_, ?_, ?_, ?_, ?_⟩ hs1
      · simp only [sliceOf, if_neg hm, ho.a, Option.map_some, Addr.add_at, Nat.add_mul]
      · simp only [sliceOf]; omega
      · simp only [sliceOf, List.length_drop, List.length_take]; omega
      · simp only [sliceOf]
        rw [show o + lo + (s.cap - lo) = o + s.cap from by omega]
        exact ho.csize
      · simp only [sliceOf]
        have hf := ho.front
        have e3 : ((xs.take hi).drop lo).flatMap enc = ((xs.flatMap enc).take (hi * size)).drop (lo * size) := by
          have key : ∀ (l : List α) (n : Nat), (l.flatMap enc).take (n * size) = (l.take n).flatMap enc ∧ (l.flatMap enc).drop (n * size) = (l.drop n).flatMap enc := by
            intro l
            induction l with
            | nil => intro n; simp
            | cons x l ih =>
              intro n
              cases n with
              | zero => simp
              | succ n =>
                have hx := henc x
                rw [List.flatMap_cons, Nat.succ_mul, List.take_succ_cons, List.drop_succ_cons, List.flatMap_cons]
                refine ⟨?_, ?_⟩
                · rw [List.take_append, hx, List.take_of_length_le (by omega), show n * size + size - size = n * size from by omega, (ih n).1]
                · rw [List.drop_append, hx, List.drop_of_length_le (by omega), show n * size + size - size = n * size from by omega, (ih n).2, List.nil_append]
          rw [(key xs hi).1, (key (xs.take hi) lo).2]
        rw [e3, ← hf]
        rw [List.take_take, Nat.min_eq_left (Nat.mul_le_mul_right _ (by omega : hi ≤ s.len)), List.drop_take, List.drop_drop, Nat.add_mul, ← Nat.sub_mul]

/-- cells set one behind the other -/
theorem sat.setCells {b : Nat} : ∀ (vs : List Value) (cs : Array Value) (o i : Nat) {h : Heap} {R : List Asn}, sat h (cells b cs :: R) → o + i + vs.length ≤ cs.size →
    ∃ cs' : Array Value, cs'.size = cs.size ∧ cs'.toList = cs.toList.take (o + i) ++ vs ++ cs.toList.drop (o + i + vs.length) ∧ sat (setCellsH h ⟨b, o, none⟩ vs i) (cells b cs' :: R)
  | [], cs, o, i, h, R, hs, hl => ⟨cs, rfl, by simp, hs⟩
  | v :: vs, cs, o, i, h, R, hs, hl => by
    simp only [List.length_cons] at hl
    have h1 := hs.set (o + i) v
    obtain ⟨cs', e1, e2, h2⟩ := sat.setCells vs (cs.setIfInBounds (o + i) v) o (i + 1) h1 (by simp; omega)
    refine ⟨cs', by simpa using e1, ?_, by simpa [setCellsH] using h2⟩
    rw [e2, Array.toList_setIfInBounds]
    have hlen : o + i < cs.toList.length := by simp; omega
    rw [show o + (i + 1) = (o + i) + 1 from by omega, List.take_succ_eq_append_getElem (by simpa using hlen)]
    rw [List.getElem_set_self, List.take_set_of_le (Nat.le_refl _), List.drop_set_of_lt (by omega)]
    simp only [List.length_cons, List.append_assoc, List.cons_append, List.nil_append]
    rw [show o + i + 1 + vs.length = o + i + (vs.length + 1) from by omega]

theorem cells_set_ok {b : Nat} {cs : Array Value} {o : Nat} {vs : List Value} (hs : sat h (cells b cs :: R)) (hl : o + vs.length ≤ cs.size) (hv : ∀ v ∈ vs, v.oneCell' = true) :
    ∀ (i : Nat) v, vs[i]? = some v → (cellH h (Addr.add ⟨b, o, none⟩ i)).isSome = true ∧ frozenH h (Addr.add ⟨b, o, none⟩ i) = false ∧ v.oneCell' = true := by
  intro i v hi
  have hlt := (List.getElem?_eq_some_iff.1 hi).1
  rw [Addr.add_at]
  refine ⟨?_, hs.free _, hv v (List.mem_of_getElem? hi)⟩
  rw [hs.cell]
  simp
  omega

/-- append to a slice of one's own -/
theorem append_own (henc : ∀ x, (enc x).length = size) (hcell : ∀ x, ∀ v ∈ enc x, v.oneCell' = true) {elem : TypeId} {bytes n : Nat} {zero : Array Value} (hz : zero.size = size) {src : Heap → Array Value → Prop} {ys : List α} {Q : Slc → Heap → Prop}
    (hs : sat h (ownS enc size s xs :: R)) (hn : ys.length = n) (hsrc : src h (ys.flatMap enc).toArray) (hsz : 0 < size) (hb0 : 0 < bytes) (hb : (xs.length + n) * bytes ≤ 140737488355328)
    (hq : ∀ s' h', sat h' (ownS enc size s' (xs ++ ys) :: R) → Q s' h') : HM.append elem size bytes zero s n src h Q := by
  have hl := hs.own_len
  have hbig : xs.length + n ≤ 140737488355328 := Nat.le_trans (Nat.le_mul_of_pos_right _ hb0) hb
  constructor
  · intro hc
    refine ⟨_, hsrc, ?_⟩
    rcases ownS_cases hs with ⟨g1, g2, rfl, hs1⟩ | ⟨b, o, cs, ho, hs⟩
    · have h0 : n = 0 := by omega
      subst h0
      have hy : ys = [] := List.eq_nil_of_length_eq_zero hn
      subst hy
      obtain ⟨sa, sl, sc⟩ := s
      simp only at g1 g2
      subst g1 g2
      cases sa with
      | none => exact hq _ _ (ownS_none hs1)
      | some a => exact ⟨fun i v hv => by simp at hv, hq _ _ (ownS_none hs1)⟩
    · rw [ho.a]
      simp only [Addr.add_at]
      have hlen : (o * size + s.len * size) + (ys.flatMap enc).length ≤ cs.size := by
        refine Nat.le_trans ?_ ho.csize
        rw [flat_len henc, hn, ← Nat.add_mul, ← Nat.add_mul]
        exact Nat.mul_le_mul_right _ (by omega)
      refine ⟨?_, ?_⟩
      · have := cells_set_ok (o := o * size + s.len * size) (vs := ys.flatMap enc) hs hlen (fun v hv => by
          obtain ⟨x, _, hx⟩ := List.mem_flatMap.1 hv
          exact hcell x v hx)
        simpa using this
      · obtain ⟨cs', e1, e2, hs'⟩ := sat.setCells (ys.flatMap enc) cs (o * size + s.len * size) 0 hs (by simpa using hlen)
        refine hq _ _ (ownS_mk (b := b) (o := o) (cs := cs') ⟨rfl, hc, by simp [ho.len, hn], by rw [e1]; exact ho.csize, ?_⟩ (by simpa using hs'))
        rw [e2]
        simp only [Nat.add_zero]
        have hcl : cs.toList.length = cs.size := by simp
        have d1 : ((cs.toList.take (o * size + s.len * size) ++ ys.flatMap enc ++ cs.toList.drop (o * size + s.len * size + (ys.flatMap enc).length)).drop (o * size)) =
            xs.flatMap enc ++ ys.flatMap enc ++ cs.toList.drop (o * size + s.len * size + (ys.flatMap enc).length) := by
          rw [List.append_assoc, List.drop_append_of_le_length (by rw [List.length_take, hcl]; omega), List.drop_take, show o * size + s.len * size - o * size = s.len * size from by omega, ho.front, List.append_assoc]
        rw [d1, List.flatMap_append]
        have e3 : (s.len + n) * size = (xs.flatMap enc ++ ys.flatMap enc).length := by
          rw [List.length_append, flat_len henc, flat_len henc, Nat.add_mul, ho.len, hn]
        rw [e3, List.take_left']
        rfl
  · intro hc
    refine ⟨by omega, growslice_fits hc (by rw [hl]; exact hb), ?_⟩
    have hnew : ∀ old : Array Value, old.toList = xs.flatMap enc → ∀ c, s.len + n ≤ c → ∀ R', sat h R' →
        sat (h.push (.cells (old ++ (ys.flatMap enc).toArray ++ Builtin.zeroCells zero (c - (s.len + n))) elem)) (ownS enc size ⟨some ⟨h.size, 0, none⟩, s.len + n, c⟩ (xs ++ ys) :: R') := by
      intro old hold c hcc R' hR'
      have ho : old.size = s.len * size := by
        have := congrArg List.length hold
        rw [flat_len henc] at this
        simpa [hl] using this
      refine ownS_mk (o := 0) ⟨by simp, hcc, by simp [hl, hn], Nat.le_of_eq ?_, ?_⟩ hR'.push_cells
      · simp only [Nat.zero_add, Array.size_append, ho, Builtin.zeroCells, Array.size_map, Array.size_range, hz, List.size_toArray, flat_len henc, hn]
        rw [← Nat.add_mul, ← Nat.add_mul]
        congr 1
        omega
      · simp only [Array.toList_append, hold, List.flatMap_append, Nat.zero_mul, List.drop_zero]
        rw [List.take_append_of_le_length (by simp only [List.length_append, flat_len henc]; rw [hl, Nat.add_mul, hn]; exact Nat.le_refl _)]
        rw [List.take_of_length_le]
        simp only [List.length_append, flat_len henc]
        rw [hl, Nat.add_mul, hn]
        exact Nat.le_refl _
    rcases ownS_cases hs with ⟨g1, g2, rfl, hs1⟩ | ⟨b, o, cs, ho, hs⟩
    · refine ⟨#[], _, ?_, hsrc, fun c hcc _ => hq _ _ (hnew #[] rfl c hcc R hs1)⟩
      rw [g1, Nat.zero_mul]
      cases s.a with
      | none => rfl
      | some a => exact ⟨rfl, fun i v hv => by simp at hv⟩
    · refine ⟨(xs.flatMap enc).toArray, _, ?_, hsrc, fun c hcc _ => hq _ _ (hnew _ (by simp) c hcc R hs.drop)⟩
      simp only [readsH, ho.a]
      refine ⟨by simp [flat_len henc, ho.len], fun i v hi => ?_⟩
      rw [Addr.add_at, hs.cell]
      have h1 : (xs.flatMap enc)[i]? = some v := by simpa using hi
      rw [← ho.front, List.getElem?_take] at h1
      split at h1
      · rw [List.getElem?_drop] at h1
        simpa using h1
      · cases h1

/-- the cells of a block, read as a slice's -/
theorem sat.reads {b : Nat} {cs : Array Value} {n : Nat} (hs : sat h (cells b cs :: R)) (hn : cs.size = n) : readsH h (some ⟨b, 0, none⟩) n cs :=
  ⟨hn, fun i v hi => by rw [Addr.add_at, hs.cell, Nat.zero_add]; exact hi⟩

/-- one element, laid in a new block and appended -/
theorem app_new (henc : ∀ x, (enc x).length = size) (hcell : ∀ x, ∀ v ∈ enc x, v.oneCell' = true) {elem T : TypeId} {bytes : Nat} {zero : Array Value} (hz : zero.size = size) {x : α} {Q : Slc → Heap → Prop}
    (hs : sat h (ownS enc size s xs :: R)) (hsz : 0 < size) (hb0 : 0 < bytes) (hb : (xs.length + 1) * bytes ≤ 140737488355328)
    (hq : ∀ s' h', sat h' (ownS enc size s' (xs ++ [x]) :: R) → Q s' h') : HM.new (.cells (enc x).toArray T) h fun b h' => HM.append elem size bytes zero s 1 (srcSlc size ⟨some ⟨b, 0, none⟩, 1, 1⟩) h' Q := by
  refine new_cells hs fun b h1 hs1 => ?_
  refine append_own henc hcell hz (ys := [x]) hs1.p1 rfl ?_ hsz hb0 hb fun s' h2 hs2 => hq s' h2 hs2.p1.drop
  simp only [srcSlc, Nat.one_mul, List.flatMap_cons, List.flatMap_nil, List.append_nil]
  exact hs1.reads (by simp [henc])

theorem loadN_of {ts : List Tag} {a : Addr} (x : Tup ts) {Q : Tup ts → Heap → Prop} (hc : ∀ i v, (Tup.vals ts x)[i]? = some v → cellH h (a.add i) = some v) (hq : Q x h) : HM.loadN ts a h Q := ⟨x, hc, hq⟩

theorem add_own (b i : Nat) : (⟨b, 0, none⟩ : Addr).add i = ⟨b, i, none⟩ := by
  cases i with
  | zero => rfl
  | succ i => simp [Addr.add]

/-- all cells of a block read -/
theorem loadN_cells {b : Nat} {cs : Array Value} {ts : List Tag} (x : Tup ts) {Q : Tup ts → Heap → Prop} (hs : sat h (cells b cs :: R)) (he : cs = (Tup.vals ts x).toArray) (hq : Q x h) : HM.loadN ts ⟨b, 0, none⟩ h Q := by
  refine ⟨x, fun i v hv => ?_, hq⟩
  have := hs.cell i
  rw [he] at this
  have e : (⟨b, 0, none⟩ : Addr).add i = ⟨b, i, none⟩ := by
    cases i with
    | zero => rfl
    | succ i => simp [Addr.add]
  rw [e, this]
  simpa using hv

theorem idx_at {a : Addr} {n size : Nat} {i : Int} {Q : Addr → Heap → Prop} (h0 : 0 ≤ i) (h1 : i < (n : Int)) (hq : Q (a.add (i.toNat * size)) h) : HM.idx (some a) n i size h Q := ⟨a, rfl, h0, h1, hq⟩

/-- all cells of a block set -/
theorem storeN_all {b : Nat} {cs : Array Value} {vs : List Value} {Q : Unit → Heap → Prop} (hs : sat h (cells b cs :: R)) (hl : vs.length = cs.size) (hv : ∀ v ∈ vs, v.oneCell' = true)
    (hq : ∀ h', sat h' (cells b vs.toArray :: R) → Q () h') : HM.storeN ⟨b, 0, none⟩ vs h Q := by
  refine ⟨cells_set_ok (o := 0) hs (by omega) hv, ?_⟩
  obtain ⟨cs', e1, e2, hs'⟩ := sat.setCells vs cs 0 0 hs (by omega)
  have e3 : cs' = vs.toArray := by
    apply Array.toList_inj.1
    rw [e2]
    simp only [Nat.add_zero, Nat.zero_add, List.take_zero, List.nil_append]
    rw [List.drop_of_length_le (by simp; omega)]
    simp
  subst e3
  exact hq _ hs'

theorem storeN_all' {b : Nat} {cs : Array Value} {vs : List Value} {Q : Unit → Heap → Prop} (hs : sat h (cells b cs :: R)) (hl : vs.length = cs.size) (hv : vs.all (fun v => v.oneCell') = true)
    (hq : ∀ h', sat h' (cells b vs.toArray :: R) → Q () h') : HM.storeN ⟨b, 0, none⟩ vs h Q :=
  storeN_all hs hl (List.all_eq_true.1 hv) hq

end

end Go.H
