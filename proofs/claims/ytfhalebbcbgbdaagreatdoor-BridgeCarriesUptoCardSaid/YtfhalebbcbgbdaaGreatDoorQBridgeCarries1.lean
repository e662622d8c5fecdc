/-
  QBridgeCarries1: what the proof BridgeCarriesProof reaches of our texts: HB, Hrd, Hlp, Hv, Hwp, Sf, Sg.
-/
import Derived.Test.YtfhalebbcbgbdaaGreatDoorQBridgeCarries0
import Derived.MapKept
import Derived.Below
import Derived.Laws.Append
import Derived.ChangeArms
import Derived.DataReads
import Derived.SizedLaws
import Derived.Handed
import Derived.OpenShut
import Derived.Test.YtfhalebbcbgbdaaGreatDoorProg
import Derived.KernelRfl
namespace Go.H
set_option linter.unusedSimpArgs false
set_option linter.unusedVariables false
open Go.MapKept (Stamped)
abbrev PH := Nat → Option Obj
def PH.sub (m : PH) (h : Heap) : Prop := ∀ k o, m k = some o → h[k]? = some o
def PH.disj (a b : PH) : Prop := ∀ k, a k = none ∨ b k = none
def PH.join (a b : PH) : PH := fun k => match a k with | some o => some o | none => b k
abbrev Asn := PH → Prop
def star (A B : Asn) : Asn := fun m => ∃ a b, a.disj b ∧ m = a.join b ∧ A a ∧ B b
def stars : List Asn → Asn
  | [] => fun _ => True
  | A :: L => star A (stars L)
def exA {α : Type} (f : α → Asn) : Asn := fun m => ∃ x, f x m
def pr (p : Prop) : Asn := fun _ => p
def blk (b : Nat) (o : Obj) : Asn := fun m => m b = some o
def cells (b : Nat) (cs : Array Value) : Asn := exA fun T => blk b (.cells cs T (0, 0))
def old (h0 : Heap) : Asn := fun m => ∀ (k : Nat) (o : Obj), h0[k]? = some o → m k = some o
def sat (h : Heap) (L : List Asn) : Prop := ∃ m, PH.sub m h ∧ stars L m
theorem join_none {a b : PH} {k : Nat} (h : a k = none) : a.join b k = b k := by simp [PH.join, h]
theorem join_left {a b : PH} {k : Nat} {o : Obj} (h : a k = some o) : a.join b k = some o := by simp [PH.join, h]
theorem join_right {a b : PH} {k : Nat} {o : Obj} (hd : a.disj b) (h : b k = some o) : a.join b k = some o := by
  rcases hd k with h1 | h1
  · rw [join_none h1]; exact h
  · rw [h] at h1; cases h1
theorem join_sub {a b : PH} {h : Heap} (hs : PH.sub (a.join b) h) (hd : a.disj b) : PH.sub a h ∧ PH.sub b h :=
  ⟨fun k o ho => hs k o (join_left ho), fun k o ho => hs k o (join_right hd ho)⟩
theorem sub_join {a b : PH} {h : Heap} (ha : PH.sub a h) (hb : PH.sub b h) : PH.sub (a.join b) h := by
  intro k o ho
  cases hk : a k with
  | some o' => rw [join_left hk] at ho; cases ho; exact ha k _ hk
  | none => rw [join_none hk] at ho; exact hb k o ho
theorem join_assoc (a b c : PH) : (a.join b).join c = a.join (b.join c) := by
  funext k; simp only [PH.join]; cases a k <;> rfl
theorem join_comm {a b : PH} (h : a.disj b) : a.join b = b.join a := by
  funext k; simp only [PH.join]
  rcases h k with h1 | h1
  · rw [h1]; cases b k <;> rfl
  · rw [h1]; cases a k <;> rfl
theorem disj_comm {a b : PH} (h : a.disj b) : b.disj a := fun k => (h k).symm
theorem disj_join {a b c : PH} (h1 : a.disj c) (h2 : b.disj c) : (a.join b).disj c := by
  intro k
  rcases h1 k with h | h
  · rw [join_none h]; exact h2 k
  · exact .inr h
theorem disj_of_join {a b c : PH} (h : (a.join b).disj c) (hd : a.disj b) : a.disj c ∧ b.disj c := by
  refine ⟨fun k => ?_, fun k => ?_⟩
  · rcases h k with h1 | h1
    · cases hk : a k with
      | none => exact .inl rfl
      | some o => rw [join_left hk] at h1; cases h1
    · exact .inr h1
  · rcases h k with h1 | h1
    · cases hk : b k with
      | none => exact .inl rfl
      | some o => rw [join_right hd hk] at h1; cases h1
    · exact .inr h1
theorem star_assoc {A B C : Asn} {m : PH} (h : star (star A B) C m) : star A (star B C) m := by
  obtain ⟨ab, c, hd, rfl, ⟨a, b, hd', rfl, ha, hb⟩, hc⟩ := h
  obtain ⟨h1, h2⟩ := disj_of_join hd hd'
  exact ⟨a, b.join c, disj_comm (disj_join (disj_comm hd') (disj_comm h1)), join_assoc a b c, ha, b, c, h2, rfl, hb, hc⟩
theorem star_assoc' {A B C : Asn} {m : PH} (h : star A (star B C) m) : star (star A B) C m := by
  obtain ⟨a, bc, hd, rfl, ha, b, c, hd', rfl, hb, hc⟩ := h
  obtain ⟨h1, h2⟩ := disj_of_join (disj_comm hd) hd'
  exact ⟨a.join b, c, disj_join (disj_comm h2) hd', (join_assoc a b c).symm, ⟨a, b, disj_comm h1, rfl, ha, hb⟩, hc⟩
theorem star_comm {A B : Asn} {m : PH} (h : star A B m) : star B A m := by
  obtain ⟨a, b, hd, rfl, ha, hb⟩ := h
  exact ⟨b, a, disj_comm hd, join_comm hd, hb, ha⟩
theorem star_mono {A A' B B' : Asn} (ha : ∀ m, A m → A' m) (hb : ∀ m, B m → B' m) {m : PH} (h : star A B m) : star A' B' m := by
  obtain ⟨a, b, hd, rfl, h1, h2⟩ := h
  exact ⟨a, b, hd, rfl, ha _ h1, hb _ h2⟩
section
variable {h : Heap} {A B C D E F G : Asn} {R : List Asn}
theorem sat.imp (hs : sat h (A :: R)) (ha : ∀ m, A m → B m) : sat h (B :: R) := by
  obtain ⟨m, h1, h2⟩ := hs
  exact ⟨m, h1, star_mono ha (fun _ h => h) h2⟩
theorem sat.tail {R' : List Asn} (hs : sat h (A :: R)) (hr : ∀ m, stars R m → stars R' m) : sat h (A :: R') := by
  obtain ⟨m, h1, h2⟩ := hs
  exact ⟨m, h1, star_mono (fun _ h => h) hr h2⟩
theorem stars_swap {m : PH} (h : stars (A :: B :: R) m) : stars (B :: A :: R) m :=
  star_assoc (star_mono (fun _ h => star_comm h) (fun _ h => h) (star_assoc' h))
theorem stars_cons {R R' : List Asn} (hr : ∀ m, stars R m → stars R' m) {m : PH} (h : stars (A :: R) m) : stars (A :: R') m := star_mono (fun _ h => h) hr h
theorem sat.p1 (hs : sat h (A :: B :: R)) : sat h (B :: A :: R) := let ⟨m, h1, h2⟩ := hs; ⟨m, h1, stars_swap h2⟩
theorem sat.p2 (hs : sat h (A :: B :: C :: R)) : sat h (C :: A :: B :: R) := (hs.tail fun _ => stars_swap).p1
theorem sat.p3 (hs : sat h (A :: B :: C :: D :: R)) : sat h (D :: A :: B :: C :: R) := (hs.tail fun _ hm => stars_swap (stars_cons (fun _ => stars_swap) hm)).p1
theorem sat.p4 (hs : sat h (A :: B :: C :: D :: E :: R)) : sat h (E :: A :: B :: C :: D :: R) := (hs.tail fun _ hm => stars_swap (stars_cons (fun _ hm => stars_swap (stars_cons (fun _ => stars_swap) hm)) hm)).p1
theorem sat.p5 (hs : sat h (A :: B :: C :: D :: E :: F :: R)) : sat h (F :: A :: B :: C :: D :: E :: R) :=
  (hs.tail fun _ hm => stars_swap (stars_cons (fun _ hm => stars_swap (stars_cons (fun _ hm => stars_swap (stars_cons (fun _ => stars_swap) hm)) hm)) hm)).p1
theorem sat.b1 (hs : sat h (B :: A :: R)) : sat h (A :: B :: R) := hs.p1
theorem sat.b2 (hs : sat h (C :: A :: B :: R)) : sat h (A :: B :: C :: R) := hs.p1.tail fun _ => stars_swap
theorem sat.b3 (hs : sat h (D :: A :: B :: C :: R)) : sat h (A :: B :: C :: D :: R) := hs.p1.tail fun _ hm => stars_cons (fun _ => stars_swap) (stars_swap hm)
theorem sat.drop (hs : sat h (A :: R)) : sat h R := by
  obtain ⟨m, h1, a, r, hd, rfl, ha, hr⟩ := hs
  exact ⟨r, (join_sub h1 hd).2, hr⟩
theorem sat.star_iff : sat h (star A B :: R) ↔ sat h (A :: B :: R) :=
  ⟨fun ⟨m, h1, h2⟩ => ⟨m, h1, star_assoc h2⟩, fun ⟨m, h1, h2⟩ => ⟨m, h1, star_assoc' h2⟩⟩
theorem sat.ex_iff {α : Type} {f : α → Asn} : sat h (exA f :: R) ↔ ∃ x, sat h (f x :: R) := by
  constructor
  · rintro ⟨m, h1, a, r, hd, rfl, ⟨x, ha⟩, hr⟩
    exact ⟨x, _, h1, a, r, hd, rfl, ha, hr⟩
  · rintro ⟨x, m, h1, a, r, hd, rfl, ha, hr⟩
    exact ⟨_, h1, a, r, hd, rfl, ⟨x, ha⟩, hr⟩
theorem sat.pr_iff {p : Prop} : sat h (pr p :: R) ↔ p ∧ sat h R := by
  constructor
  · intro hs
    refine ⟨?_, hs.drop⟩
    obtain ⟨m, h1, a, r, hd, rfl, ha, hr⟩ := hs
    exact ha
  · rintro ⟨hp, m, h1, h2⟩
    refine ⟨m, h1, fun _ => none, m, fun k => .inl rfl, ?_, hp, h2⟩
    funext k; rfl
theorem stars_append : ∀ (L R : List Asn) {m : PH}, star (stars L) (stars R) m ↔ stars (L ++ R) m
  | [], R, m => by
    constructor
    · rintro ⟨a, b, hd, rfl, -, hb⟩
      exact up R (a.join b) b (fun k o ho => join_right hd ho) hb
    · intro hr
      exact ⟨fun _ => none, m, fun k => .inl rfl, by funext k; rfl, trivial, hr⟩
  | A :: L, R, m => by
    constructor
    · intro hm
      exact star_mono (fun _ h => h) (fun _ h => (stars_append L R).1 h) (star_assoc hm)
    · intro hm
      exact star_assoc' (star_mono (fun _ h => h) (fun _ h => (stars_append L R).2 h) hm)
where
  up : ∀ (R : List Asn) (m m' : PH), (∀ k o, m' k = some o → m k = some o) → stars R m' → stars R m
    | [], _, _, _, _ => trivial
    | A :: R, m, m', hsub, ⟨a, b, hd, he, ha, hb⟩ => by
      subst he
      refine ⟨a, fun k => match a k with | some _ => none | none => m k, fun k => ?_, ?_, ha, ?_⟩
      · cases hk : a k with
        | none => exact .inl rfl
        | some o => exact .inr (by simp only [hk])
      · funext k
        cases hk : a k with
        | none => rw [join_none hk]; simp [hk]
        | some o => rw [join_left hk]; exact hsub k o (join_left hk)
      · refine up R _ b (fun k o ho => ?_) hb
        have hak : a k = none := by
          rcases hd k with h1 | h1
          · exact h1
          · rw [ho] at h1; cases h1
        simp only [hak]
        exact hsub k o (by rw [join_none hak]; exact ho)
theorem sat.get {b : Nat} {o : Obj} (hs : sat h (blk b o :: R)) : h[b]? = some o := by
  obtain ⟨m, h1, a, r, hd, rfl, ha, hr⟩ := hs
  exact h1 b o (join_left ha)
theorem sat.lt {b : Nat} {o : Obj} (hs : sat h (blk b o :: R)) : b < h.size := (Array.getElem?_eq_some_iff.1 hs.get).1
theorem sat.turn {b : Nat} {o o' : Obj} {h' : Heap} (hs : sat h (blk b o :: R)) (hb : h'[b]? = some o') (hk : ∀ k, k ≠ b → h'[k]? = h[k]?) : sat h' (blk b o' :: R) := by
  obtain ⟨m, h1, a, r, hd, rfl, ha, hr⟩ := hs
  have hrb : r b = none := by
    rcases hd b with h2 | h2
    · rw [ha] at h2; cases h2
    · exact h2
  refine ⟨PH.join (fun k => if k = b then some o' else none) r, ?_, _, r, fun k => ?_, rfl, by simp [blk], hr⟩
  · refine sub_join (fun k x hx => ?_) (fun k x hx => ?_)
    · have hx' : (if k = b then some o' else none) = some x := hx
      split at hx'
      · rename_i e; subst e; cases hx'; exact hb
      · cases hx'
    · rw [hk k (fun e => by subst e; rw [hrb] at hx; cases hx)]
      exact (join_sub h1 hd).2 k x hx
  · by_cases e : k = b
    · subst e; exact .inr hrb
    · exact .inl (by simp [e])
theorem sat.push {o : Obj} (hs : sat h R) : sat (h.push o) (blk h.size o :: R) := by
  obtain ⟨m, h1, hr⟩ := hs
  have hm : m h.size = none := by
    cases hh : m h.size with
    | none => rfl
    | some x =>
      have := h1 _ _ hh
      rw [Array.getElem?_eq_none (by omega)] at this
      cases this
  refine ⟨PH.join (fun k => if k = h.size then some o else none) m, ?_, _, m, fun k => ?_, rfl, by simp [blk], hr⟩
  · refine sub_join (fun k x hx => ?_) (fun k x hx => ?_)
    · have hx' : (if k = h.size then some o else none) = some x := hx
      split at hx'
      · rename_i e; subst e; cases hx'; simp
      · cases hx'
    · have := h1 k x hx
      have hlt := (Array.getElem?_eq_some_iff.1 this).1
      rw [Array.getElem?_push, if_neg (by omega)]
      exact this
  · by_cases e : k = h.size
    · subst e; exact .inr hm
    · exact .inl (by simp [e])
theorem sat.old_get {h0 : Heap} {k : Nat} {o : Obj} (hs : sat h (old h0 :: R)) (hk : h0[k]? = some o) : h[k]? = some o := by
  obtain ⟨m, h1, a, r, hd, rfl, ha, hr⟩ := hs
  exact h1 k o (join_left (ha k o hk))
theorem sat_old (h0 : Heap) : sat h0 [old h0] := by
  refine ⟨fun k => h0[k]?, fun k o ho => ho, fun k => h0[k]?, fun _ => none, fun k => .inr rfl, ?_, fun k o ho => ho, trivial⟩
  funext k
  simp only [PH.join]
  cases h0[k]? <;> rfl
theorem sat.old_cell {h0 : Heap} {a : Addr} {v : Value} (hs : sat h (old h0 :: R)) (hc : cellH h0 a = some v) : cellH h a = some v := by
  unfold cellH at hc ⊢
  cases hb : h0[a.block]? with
  | none => simp [hb] at hc
  | some o => rw [hs.old_get hb]; rw [hb] at hc; exact hc
theorem sat.nil : sat h [] := ⟨fun _ => none, fun _ _ ho => (by cases ho), trivial⟩
theorem cells_iff {b : Nat} {cs : Array Value} : sat h (cells b cs :: R) ↔ ∃ T, sat h (blk b (.cells cs T (0, 0)) :: R) := sat.ex_iff
theorem sat.cell {b : Nat} {cs : Array Value} (hs : sat h (cells b cs :: R)) (i : Nat) : cellH h ⟨b, i, none⟩ = cs[i]? := by
  obtain ⟨T, hs⟩ := cells_iff.1 hs
  simp [cellH, hs.get]
theorem sat.free {b : Nat} {cs : Array Value} (hs : sat h (cells b cs :: R)) (i : Nat) : frozenH h ⟨b, i, none⟩ = false := by
  obtain ⟨T, hs⟩ := cells_iff.1 hs
  simp [frozenH, hs.get]
theorem sat.cells_lt {b : Nat} {cs : Array Value} (hs : sat h (cells b cs :: R)) : b < h.size := by
  obtain ⟨T, hs⟩ := cells_iff.1 hs
  exact hs.lt
theorem sat.set {b : Nat} {cs : Array Value} (hs : sat h (cells b cs :: R)) (i : Nat) (v : Value) : sat (setCellH h ⟨b, i, none⟩ v) (cells b (cs.setIfInBounds i v) :: R) := by
  obtain ⟨T, hs⟩ := cells_iff.1 hs
  refine cells_iff.2 ⟨T, hs.turn ?_ ?_⟩
  · simp [setCellH, Array.getElem?_modify, hs.get]
  · intro k hk
    simp only [setCellH, Array.getElem?_modify]
    rw [if_neg (fun e => hk e.symm)]
theorem sat.push_cells {T : TypeId} {cs : Array Value} (hs : sat h R) : sat (h.push (.cells cs T)) (cells h.size cs :: R) := cells_iff.2 ⟨T, hs.push⟩
end
section
variable {α β : Type} {h : Heap} {Q : α → Heap → Prop} {R : List Asn}
@[simp] theorem HM.pure_apply (a : α) : HM.pure a h Q = Q a h := rfl
@[simp] theorem HM.bind_apply (m : HM β) (f : β → HM α) : HM.bind m f h Q = m h (fun b h' => f b h' Q) := rfl
@[simp] theorem HM.ite_apply (b : Bool) (x y : HM α) : HM.ite b x y h Q = if b = true then x h Q else y h Q := rfl
@[simp] theorem HM.both_apply (x y : HM α) : HM.both x y h Q = (x h Q ∧ y h Q) := rfl
@[simp] theorem HM.req_apply (p : Prop) (m : HM α) : HM.req p m h Q = (p ∧ m h Q) := rfl
@[simp] theorem HM.fail_apply : (HM.fail : HM α) h Q = False := rfl
@[simp] theorem HM.nonnil_some (a : Addr) (Q : Addr → Heap → Prop) : HM.nonnil (some a) h Q = Q a h := by simp [HM.nonnil]
theorem HM.load1_of {t : Tag} {a : Addr} {x : t.ty} {Q : t.ty → Heap → Prop} (hc : cellH h a = some (t.val x)) (hq : Q x h) : HM.load1 t a h Q := ⟨x, hc, hq⟩
@[simp] theorem Addr.add_at (b o n : Nat) : Addr.add ⟨b, o, none⟩ n = ⟨b, o + n, none⟩ := by
  cases n <;> simp [Addr.add]
@[simp] theorem load1_int (k : IntKind) (a : Addr) (Q : Int → Heap → Prop) : HM.load1 (.int k) a h Q = ∃ x, cellH h a = some (.int k x) ∧ Q x h := rfl
@[simp] theorem load1_bool (a : Addr) (Q : Bool → Heap → Prop) : HM.load1 .bool a h Q = ∃ x, cellH h a = some (.bool x) ∧ Q x h := rfl
@[simp] theorem load1_str (a : Addr) (Q : ByteArray → Heap → Prop) : HM.load1 .str a h Q = ∃ x, cellH h a = some (.string x) ∧ Q x h := rfl
@[simp] theorem load1_ptr (a : Addr) (Q : Option Addr → Heap → Prop) : HM.load1 .ptr a h Q = ∃ x, cellH h a = some (.pointer x) ∧ Q x h := rfl
@[simp] theorem load1_map (a : Addr) (Q : Option Nat → Heap → Prop) : HM.load1 .map a h Q = ∃ x, cellH h a = some (.map x) ∧ Q x h := rfl
@[simp] theorem load1_any (a : Addr) (Q : Value → Heap → Prop) : HM.load1 .any a h Q = ∃ x, cellH h a = some x ∧ Q x h := rfl
def slcOf : Option Value → Option Slc
  | some (.slice p n c) => some ⟨p, n, c⟩
  | _ => none
@[simp] theorem slcOf_slice (p : Option Addr) (n c : Nat) : slcOf (some (.slice p n c)) = some ⟨p, n, c⟩ := rfl
@[simp] theorem Slc.eta (s : Slc) : (⟨s.a, s.len, s.cap⟩ : Slc) = s := rfl
@[simp] theorem load1_slc (a : Addr) (Q : Slc → Heap → Prop) : HM.load1 .slc a h Q = ∃ x, slcOf (cellH h a) = some x ∧ Q x h := by
  refine propext ⟨fun ⟨x, h1, h2⟩ => ⟨x, by rw [h1]; rfl, h2⟩, fun ⟨x, h1, h2⟩ => ⟨x, ?_, h2⟩⟩
  unfold slcOf at h1
  split at h1
  · rename_i e; rw [e]; cases h1; rfl
  · cases h1
theorem store1_cells {b : Nat} {cs : Array Value} {i : Nat} {v : Value} {Q : Unit → Heap → Prop} (hs : sat h (cells b cs :: R)) (hi : i < cs.size) (hv : v.oneCell' = true)
    (hq : ∀ h', sat h' (cells b (cs.setIfInBounds i v) :: R) → Q () h') : HM.store1 ⟨b, i, none⟩ v h Q :=
  ⟨by rw [hs.cell i]; simp [hi], hs.free i, hv, hq _ (hs.set i v)⟩
theorem new_cells {cs : Array Value} {T : TypeId} {Q : Nat → Heap → Prop} (hs : sat h R) (hq : ∀ b h', sat h' (cells b cs :: R) → Q b h') : HM.new (.cells cs T) h Q := hq _ _ hs.push_cells
theorem new_blk {o : Obj} {Q : Nat → Heap → Prop} (hs : sat h R) (hq : ∀ b h', sat h' (blk b o :: R) → Q b h') : HM.new o h Q := hq _ _ hs.push
def Kind.un (k : Kind) (Q : k.ty → Heap → Prop) (v : Value) (h : Heap) : Prop := ∃ x, v = k.val x ∧ Q x h
def KTup.un (ks : List Kind) (Q : KTup ks → Heap → Prop) (v : Value) (h : Heap) : Prop := ∃ x, v = .tuple (KTup.vals ks x).toArray ∧ Q x h
@[simp] theorem HM.call1_apply (P : Program) (k : Kind) (f : FuncId) (args : Array Value) (Q : k.ty → Heap → Prop) : HM.call1 P k f args h Q = HCalls P f args h (k.un Q) := rfl
@[simp] theorem HM.callN_apply (P : Program) (ks : List Kind) (f : FuncId) (args : Array Value) (Q : KTup ks → Heap → Prop) : HM.callN P ks f args h Q = HCalls P f args h (KTup.un ks Q) := rfl
@[simp] theorem un_int (k : IntKind) (Q : Int → Heap → Prop) (n : Int) : Kind.un (.one (.int k)) Q (.int k n) h = Q n h := by simp [Kind.un, Kind.val, Tag.val]
@[simp] theorem un_bool (Q : Bool → Heap → Prop) (b : Bool) : Kind.un (.one .bool) Q (.bool b) h = Q b h := by
  simp only [Kind.un, Kind.val, Tag.val, Value.bool.injEq]
  exact propext ⟨fun ⟨x, h1, h2⟩ => h1 ▸ h2, fun h => ⟨b, rfl, h⟩⟩
@[simp] theorem un_str (Q : ByteArray → Heap → Prop) (b : ByteArray) : Kind.un (.one .str) Q (.string b) h = Q b h := by simp [Kind.un, Kind.val, Tag.val]
@[simp] theorem un_ptr (Q : Option Addr → Heap → Prop) (b : Option Addr) : Kind.un (.one .ptr) Q (.pointer b) h = Q b h := by simp [Kind.un, Kind.val, Tag.val]
@[simp] theorem un_map (Q : Option Nat → Heap → Prop) (b : Option Nat) : Kind.un (.one .map) Q (.map b) h = Q b h := by simp [Kind.un, Kind.val, Tag.val]
@[simp] theorem un_any (Q : Value → Heap → Prop) (b : Value) : Kind.un (.one .any) Q b h = Q b h := by simp [Kind.un, Kind.val, Tag.val]
@[simp] theorem un_slc (Q : Slc → Heap → Prop) (a : Option Addr) (n c : Nat) : Kind.un (.one .slc) Q (.slice a n c) h = Q ⟨a, n, c⟩ h := by
  refine propext ⟨?_, fun hq => ⟨⟨a, n, c⟩, rfl, hq⟩⟩
  rintro ⟨x, h1, h2⟩
  cases h1
  exact h2
theorem bind_call1 {β : Type} {P : Program} {k : Kind} {f : FuncId} {args : Array Value} {g : k.ty → HM β} {h : Heap} {Q : β → Heap → Prop} (hc : HCalls P f args h (k.un fun x h' => g x h' Q)) : (HM.bind (HM.call1 P k f args) g) h Q := hc
theorem bind_callN {β : Type} {P : Program} {ks : List Kind} {f : FuncId} {args : Array Value} {g : KTup ks → HM β} {h : Heap} {Q : β → Heap → Prop} (hc : HCalls P f args h (KTup.un ks fun x h' => g x h' Q)) : (HM.bind (HM.callN P ks f args) g) h Q := hc
@[simp] theorem un2 (k l : Kind) (Q : KTup [k, l] → Heap → Prop) (v w : Value) : KTup.un [k, l] Q (.tuple #[v, w]) h = k.un (fun x _ => l.un (fun y h => Q (x, y, ()) h) w h) v h := by
  refine propext ⟨?_, ?_⟩
  · rintro ⟨⟨x, y, u⟩, h1, h2⟩
    have h1 : #[v, w] = [k.val x, l.val y].toArray := Value.tuple.inj h1
    have h1 := congrArg Array.toList h1
    simp at h1
    exact ⟨x, h1.1, y, h1.2, h2⟩
  · rintro ⟨x, h1, y, h2, h3⟩
    exact ⟨(x, y, ()), by rw [h1, h2]; rfl, h3⟩
@[simp] theorem un3 (k l m : Kind) (Q : KTup [k, l, m] → Heap → Prop) (v w z : Value) : KTup.un [k, l, m] Q (.tuple #[v, w, z]) h = k.un (fun x _ => l.un (fun y _ => m.un (fun t h => Q (x, y, t, ()) h) z h) w h) v h := by
  refine propext ⟨?_, ?_⟩
  · rintro ⟨⟨x, y, t, u⟩, h1, h2⟩
    have h1 : #[v, w, z] = [k.val x, l.val y, m.val t].toArray := Value.tuple.inj h1
    have h1 := congrArg Array.toList h1
    simp at h1
    exact ⟨x, h1.1, y, h1.2.1, t, h1.2.2, h2⟩
  · rintro ⟨x, h1, y, h2, t, h3, h4⟩
    exact ⟨(x, y, t, ()), by rw [h1, h2, h3]; rfl, h4⟩
@[simp] theorem un0 (Q : KTup [] → Heap → Prop) : KTup.un [] Q (.tuple #[]) h = Q () h := by
  refine propext ⟨fun ⟨x, _, h2⟩ => h2, fun h => ⟨(), rfl, h⟩⟩
@[simp] theorem packed0 (x : Unit) : packed [] x = .tuple #[] := rfl
@[simp] theorem packed1 (k : Kind) (x : k.ty) : packed [k] (x, ()) = k.val x := rfl
@[simp] theorem packed2 (k l : Kind) (x : k.ty) (y : l.ty) : packed [k, l] (x, y, ()) = .tuple #[k.val x, l.val y] := rfl
@[simp] theorem packed3 (k l m : Kind) (x : k.ty) (y : l.ty) (z : m.ty) : packed [k, l, m] (x, y, z, ()) = .tuple #[k.val x, l.val y, m.val z] := rfl
@[simp] theorem val_one (t : Tag) (x : t.ty) : Kind.val (.one t) x = t.val x := rfl
@[simp] theorem val_int (k : IntKind) (x : Int) : Tag.val (.int k) x = .int k x := rfl
@[simp] theorem val_bool (x : Bool) : Tag.val .bool x = .bool x := rfl
@[simp] theorem val_str (x : ByteArray) : Tag.val .str x = .string x := rfl
@[simp] theorem val_ptr (x : Option Addr) : Tag.val .ptr x = .pointer x := rfl
@[simp] theorem val_map (x : Option Nat) : Tag.val .map x = .map x := rfl
@[simp] theorem val_any (x : Value) : Tag.val .any x = x := rfl
@[simp] theorem val_slc (x : Slc) : Tag.val .slc x = .slice x.a x.len x.cap := rfl
@[simp] theorem ex_int {k : IntKind} {n : Int} {Q : Int → Prop} : (∃ x : Int, Value.int k n = .int k x ∧ Q x) = Q n := by simp
theorem loop_of {σ τ : Type} {body : σ → HM (σ ⊕ τ)} {s : σ} {Q : τ → Heap → Prop} (I : σ → Heap → Prop) (μ : σ → Heap → Nat) (h0 : I s h) (hr : ∀ s h, I s h → body s h fun r h' => match r with
      | .inl s' => I s' h' ∧ μ s' h' < μ s h
      | .inr t => Q t h') : HM.loop body s h Q := ⟨I, μ, h0, hr⟩
theorem loop_ghost {σ τ : Type} {body : σ → HM (σ ⊕ τ)} {s : σ} {h : Heap} {Q : τ → Heap → Prop} (I : Nat → σ → Heap → Prop) {n : Nat} (h0 : I n s h)
    (hr : ∀ n s h, I n s h → body s h fun r h' => match r with
      | .inl s' => ∃ m, m < n ∧ I m s' h'
      | .inr t => Q t h') (hmono : ∀ s h (Q1 Q2 : σ ⊕ τ → Heap → Prop), (∀ r h', Q1 r h' → Q2 r h') → body s h Q1 → body s h Q2) : HM.loop body s h Q := by
  classical
  have least : ∀ s h, (∃ n, I n s h) → ∃ n, I n s h ∧ ∀ m, I m s h → n ≤ m := by
    intro s h ⟨n, hn⟩
    induction n using Nat.strongRecOn with
    | _ n ih =>
      by_cases hx : ∃ m, m < n ∧ I m s h
      · obtain ⟨m, hm, hi⟩ := hx; exact ih m hm hi
      · exact ⟨n, hn, fun m hm => by
          rcases Nat.lt_or_ge m n with hlt | hge
          · exact absurd ⟨m, hlt, hm⟩ hx
          · exact hge⟩
  refine ⟨fun s h => ∃ n, I n s h, fun s h => if hx : ∃ n, I n s h then Classical.choose (least s h hx) else 0, ⟨n, h0⟩, fun s h hx => ?_⟩
  obtain ⟨hc1, hc2⟩ := Classical.choose_spec (least s h hx)
  refine hmono s h _ _ ?_ (hr _ s h hc1)
  intro r h' hq
  cases r with
  | inr t => exact hq
  | inl s' =>
    obtain ⟨m, hm, hi⟩ := hq
    have hx' : ∃ n, I n s' h' := ⟨m, hi⟩
    refine ⟨hx', ?_⟩
    simp only [dif_pos hx, dif_pos hx']
    obtain ⟨_, hd2⟩ := Classical.choose_spec (least s' h' hx')
    exact Nat.lt_of_le_of_lt (hd2 m hi) hm
end
section
variable {K V : Type} [DecidableEq K]
def mget (l : List (K × V)) (k : K) : Option V := (l.find? (fun p => decide (p.1 = k))).map (·.2)
def mset : List (K × V) → K → V → List (K × V)
  | [], k, v => [(k, v)]
  | (a, b) :: l, k, v => if a = k then (k, v) :: l else (a, b) :: mset l k v
@[simp] theorem mget_nil (k : K) : mget ([] : List (K × V)) k = none := rfl
theorem mget_cons (a : K) (b : V) (l : List (K × V)) (k : K) : mget ((a, b) :: l) k = if a = k then some b else mget l k := by
  by_cases h : a = k <;> simp [mget, List.find?, h]
def Ents (ek : K → Value) (ev : V → Value) (l : List (K × V)) (es : List MapEntry) : Prop := es.map (fun e => (e.key, e.val)) = l.map (fun p => (ek p.1, ev p.2))
structure KeyLaw (kd : SameK) (ek : K → Value) : Prop where
  same : ∀ a b, kd (ek a) (ek b) = some (decide (a = b))
  bits : ∀ a, Instr.sameBits 10000 (ek a) (ek a) = true
theorem place_of {kd : SameK} {ek : K → Value} (hk : KeyLaw kd ek) {ev : V → Value} (k : K) : ∀ (l : List (K × V)) (es : List MapEntry) (i : Nat), Ents ek ev l es →
    (mget l k = none ∧ placeAt kd (ek k) es i = some none) ∨ ∃ v j e, mget l k = some v ∧ placeAt kd (ek k) es i = some (some (i + j, ev v)) ∧ es[j]? = some e ∧ e.key = ek k
  | [], [], i, _ => .inl ⟨rfl, rfl⟩
  | [], _ :: _, i, h => by simp [Ents] at h
  | _ :: _, [], i, h => by simp [Ents] at h
  | (a, b) :: l, e :: es, i, h => by
    simp only [Ents, List.map_cons, List.cons.injEq, Prod.mk.injEq] at h
    obtain ⟨⟨h1, h2⟩, h3⟩ := h
    simp only [placeAt, h1, hk.same, mget_cons]
    by_cases hka : k = a
    · subst hka
      right
      exact ⟨b, 0, e, by simp, by simp [h2], rfl, h1⟩
    · have hak : ¬ a = k := fun hh => hka hh.symm
      simp only [hka, hak, decide_false, if_false]
      rcases place_of hk k l es (i + 1) h3 with ⟨h4, h5⟩ | ⟨v, j, e', h4, h5, h6, h7⟩
      · exact .inl ⟨h4, h5⟩
      · exact .inr ⟨v, j + 1, e', h4, by rw [h5]; congr 3; omega, by simpa using h6, h7⟩
theorem ents_set {ek : K → Value} (hinj : ∀ a b, ek a = ek b → a = b) {ev : V → Value} (k : K) (x : V) : ∀ (l : List (K × V)) (es : List MapEntry), Ents ek ev l es → ∀ (i : Nat) (o : Nat × Value) (kd : SameK), KeyLaw kd ek →
    placeAt kd (ek k) es i = some (some o) → Ents ek ev (mset l k x) (es.modify (o.1 - i) fun e => { e with key := ek k, val := ev x }) ∧ i ≤ o.1
  | [], [], _, i, o, kd, _, hf => by simp [placeAt] at hf
  | [], _ :: _, h, _, _, _, _, _ => by simp [Ents] at h
  | _ :: _, [], h, _, _, _, _, _ => by simp [Ents] at h
  | (a, b) :: l, e :: es, h, i, o, kd, hk, hf => by
    simp only [Ents, List.map_cons, List.cons.injEq, Prod.mk.injEq] at h
    obtain ⟨⟨h1, h2⟩, h3⟩ := h
    simp only [placeAt, h1, hk.same] at hf
    by_cases hka : k = a
    · subst hka
      simp only [decide_true, Option.some.injEq] at hf
      subst hf
      simp only [Nat.sub_self, mset, if_true]
      refine ⟨?_, Nat.le_refl _⟩
      simp [Ents, List.modify_zero_cons] at h3 ⊢
      exact h3
    · simp only [hka, decide_false] at hf
      obtain ⟨h4, h5⟩ := ents_set hinj k x l es h3 (i + 1) o kd hk hf
      refine ⟨?_, by omega⟩
      rw [show o.1 - i = (o.1 - (i + 1)) + 1 from by omega]
      simp only [mset, if_neg (fun hh : a = k => hka hh.symm), List.modify_succ_cons]
      simp only [Ents, List.map_cons, h1, h2]
      rw [h4]
theorem mset_none : ∀ (l : List (K × V)) (k : K) (v : V), mget l k = none → mset l k v = l ++ [(k, v)]
  | [], _, _, _ => rfl
  | (a, b) :: l, k, v, h => by
    rw [mget_cons] at h
    by_cases hak : a = k
    · rw [if_pos hak] at h; cases h
    · rw [if_neg hak] at h
      simp only [mset, if_neg hak, List.cons_append, mset_none l k v h]
end
section
variable {K V : Type}
def mapA (ek : K → Value) (ev : V → Value) (r : Nat) (l : List (K × V)) : Asn :=
  exA fun x : Array MapEntry × Nat => star (pr (Ents ek ev l x.1.toList ∧ Stamped x.1 x.2)) (blk r (.map x.1 x.2))
variable {h : Heap} {R : List Asn} {ek : K → Value}
theorem mapA_iff {ev : V → Value} {r : Nat} {l : List (K × V)} : sat h (mapA ek ev r l :: R) ↔ ∃ es clock, (Ents ek ev l es.toList ∧ Stamped es clock) ∧ sat h (blk r (.map es clock) :: R) := by
  unfold mapA
  rw [sat.ex_iff]
  constructor
  · rintro ⟨⟨es, c⟩, hs⟩
    rw [sat.star_iff, sat.pr_iff] at hs
    exact ⟨es, c, hs⟩
  · rintro ⟨es, c, hs⟩
    exact ⟨(es, c), by rw [sat.star_iff, sat.pr_iff]; exact hs⟩
theorem new_map {ev : V → Value} {Q : Nat → Heap → Prop} (hs : sat h R) (hq : ∀ r h', sat h' (mapA ek ev r [] :: R) → Q r h') : HM.new (.map #[] 0) h Q :=
  new_blk hs fun r h' hs' => hq r h' (mapA_iff.2 ⟨#[], 0, ⟨rfl, Go.MapKept.stamped_empty 0⟩, hs'⟩)
theorem len_map {ev : V → Value} {r : Nat} {l : List (K × V)} {Q : Int → Heap → Prop} (hs : sat h (mapA ek ev r l :: R)) (hq : Q (l.length : Int) h) : HM.mapLen (some r) h Q := by
  obtain ⟨es, c, ⟨he, hst⟩, hs⟩ := mapA_iff.1 hs
  refine ⟨es.toList, c, by simpa [entriesH] using hs.get, ?_⟩
  have := congrArg List.length he
  simp at this
  simpa [this] using hq
end
section
variable {K V : Type} [DecidableEq K] {h : Heap} {R : List Asn} {ek : K → Value}
theorem lookup_map {kd : SameK} (hk : KeyLaw kd ek) {kind : Kind} {z : kind.ty} {zero : Value} (hz : zero = kind.val z) {r : Nat} {l : List (K × kind.ty)} {k : K} {Q : kind.ty × Bool → Heap → Prop}
    (hs : sat h (mapA ek kind.val r l :: R)) (hq : Q ((mget l k).getD z, (mget l k).isSome) h) : HM.lookup kd zero kind (some r) (ek k) h Q := by
  obtain ⟨es, c, ⟨he, hst⟩, hs⟩ := mapA_iff.1 hs
  rcases place_of hk k l es.toList 0 he with ⟨h1, h2⟩ | ⟨v, j, e, h1, h2, -, -⟩
  · refine ⟨es.toList, c, none, z, by simpa [entriesH] using hs.get, h2, hz, ?_⟩
    rw [h1] at hq; exact hq
  · refine ⟨es.toList, c, some (0 + j, kind.val v), v, by simpa [entriesH] using hs.get, h2, rfl, ?_⟩
    rw [h1] at hq; exact hq
theorem mget_none_iff (l : List (K × V)) (k : K) : mget l k = none ↔ k ∉ l.map (·.1) := by
  induction l with
  | nil => simp
  | cons p l ih =>
    obtain ⟨a, b⟩ := p
    rw [mget_cons]
    by_cases h : a = k
    · simp [h]
    · rw [if_neg h, ih]
      simp [Ne.symm h]
theorem set_map {kd : SameK} (hk : KeyLaw kd ek) (hinj : ∀ a b, ek a = ek b → a = b) {ev : V → Value} {r : Nat} {l : List (K × V)} {k : K} {x : V} {Q : Unit → Heap → Prop}
    (hs : sat h (mapA ek ev r l :: R)) (hq : ∀ h', sat h' (mapA ek ev r (mset l k x) :: R) → Q () h') : HM.mapSet kd (some r) (ek k) (ev x) h Q := by
  obtain ⟨es, c, ⟨he, hst⟩, hs⟩ := mapA_iff.1 hs
  have hlt := hs.lt
  rcases place_of hk k l es.toList 0 he with ⟨h1, h2⟩ | ⟨v, j, e, h1, h2, h3, h4⟩
  · refine ⟨r, es, c, none, rfl, hs.get, h2, hq _ (mapA_iff.2 ⟨_, _, ⟨?_, ?_⟩, hs.turn (o' := .map (es.push { key := ek k, val := ev x, born := c }) (c + 1)) (by simp [hlt]) (fun k hk => ?_)⟩)⟩
    · rw [mset_none l k x h1]
      simp only [Ents, Array.toList_push, List.map_append, List.map_cons, List.map_nil]
      rw [he]
    · refine Go.MapKept.stamped_push hst fun y hy hyk => ?_
      have e : es.toList.map (·.key) = (l.map (·.1)).map ek := by
        have := congrArg (List.map Prod.fst) he
        simpa [Function.comp_def] using this
      have hm : ek k ∈ (l.map (·.1)).map ek := by rw [← e, ← hyk]; exact List.mem_map_of_mem hy
      obtain ⟨k', hk', he'⟩ := List.mem_map.1 hm
      exact (mget_none_iff l k).1 h1 (hinj _ _ he' ▸ hk')
    · rw [Array.getElem?_setIfInBounds, if_neg (fun e => hk e.symm)]
  · have h3' : es[0 + j]? = some e := by simpa using h3
    refine ⟨r, es, c, some (0 + j, ev v), rfl, hs.get, h2, ?_, hk.bits k, hq _ (mapA_iff.2 ⟨_, _, ⟨?_, ?_⟩, hs.turn (o' := .map (es.modify (0 + j) fun e => { e with key := ek k, val := ev x }) c) (by simp [hlt]) (fun k hk => ?_)⟩)⟩
    · rw [h3']; exact h4
    · have := (ents_set hinj k x l es.toList he 0 _ kd hk h2).1
      simpa using this
    · refine Go.MapKept.stamped_modify hst _ _ (fun _ _ => rfl) (fun e' _ he' => ?_)
      rw [h3'] at he'
      cases he'
      exact h4.symm
    · rw [Array.getElem?_setIfInBounds, if_neg (fun e => hk e.symm)]
end
theorem key_int (k : IntKind) : KeyLaw (Instr.sameNow (.int k)) (fun n : Int => Value.int k n) := ⟨fun a b => by simp [Instr.sameNow]; exact Bool.eq_iff_iff.2 (by simp), fun a => by simp [Instr.sameBits]⟩
theorem inj_int (k : IntKind) : ∀ a b : Int, Value.int k a = Value.int k b → a = b := fun a b h => by cases h; rfl
end Go.H
namespace Go.H
set_option linter.unusedSimpArgs false
set_option linter.unusedVariables false
class Mono {α : Type} (m : HM α) : Prop where
  mono : ∀ (h : Heap) (Q1 Q2 : α → Heap → Prop), (∀ a h', Q1 a h' → Q2 a h') → m h Q1 → m h Q2
section
variable {α β σ τ : Type}
instance mono_pure (a : α) : Mono (HM.pure a) := ⟨fun _ _ _ hq hm => hq _ _ hm⟩
instance mono_bind (m : HM α) (f : α → HM β) [Mono m] [hf : ∀ a, Mono (f a)] : Mono (HM.bind m f) :=
  ⟨fun h _ _ hq hm => Mono.mono (m := m) h _ _ (fun a h' hx => (hf a).mono h' _ _ hq hx) hm⟩
instance : Mono (HM.fail : HM α) := ⟨fun _ _ _ _ hm => hm⟩
instance mono_both (x y : HM α) [hx : Mono x] [hy : Mono y] : Mono (HM.both x y) := ⟨fun h Q Q' hq hm => ⟨hx.mono h Q Q' hq hm.1, hy.mono h Q Q' hq hm.2⟩⟩
instance mono_ite (b : Bool) (x y : HM α) [Mono x] [Mono y] : Mono (HM.ite b x y) := ⟨fun h _ _ hq hm => by
  cases b
  · exact Mono.mono (m := y) h _ _ hq hm
  · exact Mono.mono (m := x) h _ _ hq hm⟩
instance mono_req (p : Prop) (m : HM α) [Mono m] : Mono (HM.req p m) := ⟨fun h _ _ hq hm => ⟨hm.1, Mono.mono (m := m) h _ _ hq hm.2⟩⟩
instance mono_loop (body : σ → HM (σ ⊕ τ)) (s : σ) [hb : ∀ s, Mono (body s)] : Mono (HM.loop body s) := ⟨fun _ _ _ hq => by
  rintro ⟨I, μ, h0, hr⟩
  refine ⟨I, μ, h0, fun s h hi => (hb s).mono h _ _ ?_ (hr s h hi)⟩
  intro r h' hx
  cases r with
  | inl _ => exact hx
  | inr _ => exact hq _ _ hx⟩
instance mono_elim (f : α → HM τ) (g : β → HM τ) (x : α ⊕ β) [hf : ∀ a, Mono (f a)] [hg : ∀ b, Mono (g b)] : Mono (Sum.elim f g x : HM τ) := by
  cases x with
  | inl a => exact hf a
  | inr b => exact hg b
instance (t : Tag) (a : Addr) : Mono (α := no_index (Tag.ty t)) (HM.load1 t a) := ⟨fun _ _ _ hq ⟨x, h1, h2⟩ => ⟨x, h1, hq _ _ h2⟩⟩
instance (ts : List Tag) (a : Addr) : Mono (α := no_index (Tup ts)) (HM.loadN ts a) := ⟨fun _ _ _ hq ⟨x, h1, h2⟩ => ⟨x, h1, hq _ _ h2⟩⟩
instance (a : Addr) (v : Value) : Mono (HM.store1 a v) := ⟨fun _ _ _ hq ⟨x, h1, h2, h3⟩ => ⟨x, h1, h2, hq _ _ h3⟩⟩
instance (a : Addr) (vs : List Value) : Mono (HM.storeN a vs) := ⟨fun _ _ _ hq ⟨x, h1⟩ => ⟨x, hq _ _ h1⟩⟩
instance (o : Obj) : Mono (HM.new o) := ⟨fun _ _ _ hq hm => hq _ _ hm⟩
instance (p : Option Addr) : Mono (HM.nonnil p) := ⟨fun _ _ _ hq ⟨x, h1, h2⟩ => ⟨x, h1, hq _ _ h2⟩⟩
instance (a : Option Addr) (len : Nat) (i : Int) (size : Nat) : Mono (HM.idx a len i size) := ⟨fun _ _ _ hq ⟨x, h1, h2, h3, h4⟩ => ⟨x, h1, h2, h3, hq _ _ h4⟩⟩
instance (s : ByteArray) (i : Int) : Mono (HM.strIdx s i) := ⟨fun _ _ _ hq ⟨x, h1, h2, h3⟩ => ⟨x, h1, h2, hq _ _ h3⟩⟩
instance (P : Program) (k : Kind) (f : FuncId) (args : Array Value) : Mono (α := no_index (Kind.ty k)) (HM.call1 P k f args) := ⟨fun _ _ _ hq hm => HCalls.mono hm fun _ _ ⟨x, h1, h2⟩ => ⟨x, h1, hq _ _ h2⟩⟩
instance (P : Program) (ks : List Kind) (f : FuncId) (args : Array Value) : Mono (α := no_index (KTup ks)) (HM.callN P ks f args) := ⟨fun _ _ _ hq hm => HCalls.mono hm fun _ _ ⟨x, h1, h2⟩ => ⟨x, h1, hq _ _ h2⟩⟩
instance (P : Program) (k : Kind) (v : Value) (args : Array Value) : Mono (α := no_index (Kind.ty k)) (HM.callV1 P k v args) := ⟨fun _ _ _ hq ⟨f, first, captured, h1, h2, hm⟩ => ⟨f, first, captured, h1, h2, HCalls.mono hm fun _ _ ⟨x, h1, h2⟩ => ⟨x, h1, hq _ _ h2⟩⟩⟩
instance (P : Program) (ks : List Kind) (v : Value) (args : Array Value) : Mono (α := no_index (KTup ks)) (HM.callVN P ks v args) := ⟨fun _ _ _ hq ⟨f, first, captured, h1, h2, hm⟩ => ⟨f, first, captured, h1, h2, HCalls.mono hm fun _ _ ⟨x, h1, h2⟩ => ⟨x, h1, hq _ _ h2⟩⟩⟩
instance (s : Slc) (lo hi mx : Option Int) (size : Nat) : Mono (HM.slice s lo hi mx size) := ⟨fun _ _ _ hq ⟨l, hh, m, h1, h2, h3, h4⟩ => ⟨l, hh, m, h1, h2, h3, hq _ _ h4⟩⟩
instance (s : ByteArray) (lo hi : Option Int) : Mono (HM.substr s lo hi) := ⟨fun _ _ _ hq ⟨l, hh, h1, h2, h4⟩ => ⟨l, hh, h1, h2, hq _ _ h4⟩⟩
instance (elem : TypeId) (size bytes : Nat) (zero : Array Value) (s : Slc) (n : Nat) (src : Heap → Array Value → Prop) : Mono (HM.append elem size bytes zero s n src) := ⟨fun h Q1 Q2 hq hm => by
  refine ⟨fun hc => ?_, fun hc => ?_⟩
  · obtain ⟨vs, h1, h2⟩ := hm.1 hc
    refine ⟨vs, h1, ?_⟩
    cases hs : s.a with
    | none => rw [hs] at h2; exact hq _ _ h2
    | some a => rw [hs] at h2; exact ⟨h2.1, hq _ _ h2.2⟩
  · obtain ⟨h1, h2, old, vs, h3, h4, h5⟩ := hm.2 hc
    exact ⟨h1, h2, old, vs, h3, h4, fun c hc hc2 => hq _ _ (h5 c hc hc2)⟩⟩
instance (elem : TypeId) (bytes : Nat) (zero : Array Value) (n c : Int) : Mono (HM.makeSlice elem bytes zero n c) := ⟨fun _ _ _ hq ⟨h1, h2, h3, h4, h5⟩ => ⟨h1, h2, h3, h4, hq _ _ h5⟩⟩
instance (d : Slc) (n : Nat) (src : Nat → Heap → Array Value → Prop) : Mono (HM.copy d n src) := ⟨fun h Q1 Q2 hq ⟨vs, h1, h2⟩ => by
  refine ⟨vs, h1, ?_⟩
  cases hs : d.a with
  | none => rw [hs] at h2; exact hq _ _ h2
  | some a => rw [hs] at h2; exact ⟨h2.1, hq _ _ h2.2⟩⟩
instance (kd : SameK) (zero : Value) (k : Kind) (r : Option Nat) (key : Value) : Mono (α := no_index (Kind.ty k × Bool)) (HM.lookup kd zero k r key) := ⟨fun _ _ _ hq ⟨es, c, o, x, h1, h2, h3, h4⟩ => ⟨es, c, o, x, h1, h2, h3, hq _ _ h4⟩⟩
instance (kd : SameK) (r : Option Nat) (key val : Value) : Mono (HM.mapSet kd r key val) := ⟨fun h Q1 Q2 hq ⟨b, es, c, o, h1, h2, h3, h4⟩ => by
  refine ⟨b, es, c, o, h1, h2, h3, ?_⟩
  cases o with
  | none => exact hq _ _ h4
  | some o => exact ⟨h4.1, h4.2.1, hq _ _ h4.2.2⟩⟩
instance (kd : SameK) (r : Option Nat) (key : Value) : Mono (HM.mapDel kd r key) := ⟨fun h Q1 Q2 hq hm => by
  cases r with
  | none => exact hq _ _ hm
  | some b =>
    obtain ⟨es, c, o, h1, h2, h3⟩ := hm
    refine ⟨es, c, o, h1, h2, ?_⟩
    cases o with
    | none => exact hq _ _ h3
    | some o => exact hq _ _ h3⟩
instance (zero : Array Value) (s : Slc) : Mono (HM.clearS zero s) := ⟨fun h Q1 Q2 hq hm => by
  unfold HM.clearS at hm ⊢
  cases ha : s.a with
  | none => simp only [ha] at hm ⊢; exact hq _ _ hm
  | some a =>
    simp only [ha] at hm ⊢
    by_cases hn : s.len = 0
    · rw [if_pos hn] at hm ⊢; exact hq _ _ hm
    · rw [if_neg hn] at hm ⊢; exact ⟨hm.1, hq _ _ hm.2⟩⟩
instance (r : Option Nat) : Mono (HM.clearM r) := ⟨fun h Q1 Q2 hq hm => by
  cases r with
  | none => exact hq _ _ hm
  | some r => obtain ⟨es, c, h1, h2⟩ := hm; exact ⟨es, c, h1, hq _ _ h2⟩⟩
instance (r : Option Nat) : Mono (HM.rangeM r) := ⟨fun h Q1 Q2 hq hm => by
  cases r with
  | none => exact hq _ _ hm
  | some r => obtain ⟨es, c, h1, h2⟩ := hm; exact ⟨es, c, h1, hq _ _ h2⟩⟩
instance (b : Nat) : Mono (HM.nextS b) := ⟨fun h Q1 Q2 hq ⟨s, p, h1, h2, h3⟩ => ⟨s, p, h1, fun hp => hq _ _ (h2 hp), fun hp => hq _ _ (h3 hp)⟩⟩
instance (b : Nat) : Mono (HM.nextM b) := ⟨fun h Q1 Q2 hq ⟨m, since, seen, last, h1, h2⟩ => ⟨m, since, seen, last, h1, by
  cases m with
  | none => exact hq _ _ h2
  | some m =>
    obtain ⟨es, c, h3, h4, h5, h6⟩ := h2
    exact ⟨es, c, h3, h4, fun hh => hq _ _ (h5 hh), fun e he hs => hq _ _ (h6 e he hs)⟩⟩⟩
instance (kk kv : Kind) (b : Nat) : Mono (α := no_index (Kind.ty kk × Kind.ty kv)) (HM.entryM kk kv b) := ⟨fun h Q1 Q2 hq ⟨m, since, seen, stepped, es, stamp, e, k, v, h1, h2, h3, h4, h5, h6, h7⟩ => ⟨m, since, seen, stepped, es, stamp, e, k, v, h1, h2, h3, h4, h5, h6, hq _ _ h7⟩⟩
instance (kd : SameK) (zero : Value) (k : Kind) (r : Option Nat) (key : Value) : Mono (α := no_index (Kind.ty k × Int)) (HM.mapEntry kd zero k r key) := ⟨fun h Q1 Q2 hq ⟨b, es, c, o, h1, h2, h3, h4⟩ => ⟨b, es, c, o, h1, h2, h3, by
  cases o with
  | none => obtain ⟨x, h5, h6⟩ := h4; exact ⟨x, h5, hq _ _ h6⟩
  | some p => obtain ⟨h7, h8, x, h5, h6⟩ := h4; exact ⟨h7, h8, x, h5, hq _ _ h6⟩⟩⟩
instance (r : Option Nat) (st : Int) (v : Value) : Mono (HM.entryStore r st v) := ⟨fun h Q1 Q2 hq ⟨b, es, c, i, h1, h2, h3, h4⟩ => ⟨b, es, c, i, h1, h2, h3, hq _ _ h4⟩⟩
instance mono_opt (o : Option α) (a : HM β) (f : α → HM β) [ha : Mono a] [hf : ∀ x, Mono (f x)] : Mono (HM.opt o a f) := ⟨fun h Q1 Q2 hq hm => by
  cases o with
  | none => exact ha.mono _ _ _ hq hm
  | some x => exact (hf x).mono _ _ _ hq hm⟩
instance (s : Slc) : Mono (HM.strOf s) := ⟨fun _ _ _ hq ⟨ns, h1, h2⟩ => ⟨ns, h1, hq _ _ h2⟩⟩
instance (r : Option Nat) : Mono (HM.mapLen r) := ⟨fun _ _ _ hq ⟨es, c, h1, h2⟩ => ⟨es, c, h1, hq _ _ h2⟩⟩
theorem loop_gh {γ : Type} {body : σ → HM (σ ⊕ τ)} {s : σ} {h : Heap} {Q : τ → Heap → Prop} [hb : ∀ s, Mono (body s)] (I : γ → σ → Heap → Prop) (μ : γ → Nat) (g : γ) (h0 : I g s h)
    (hr : ∀ g s h, I g s h → body s h fun r h' => match r with
      | .inl s' => ∃ g', μ g' < μ g ∧ I g' s' h'
      | .inr t => Q t h') : HM.loop body s h Q := by
  refine loop_ghost (fun n s h => ∃ g, μ g = n ∧ I g s h) (n := μ g) ⟨g, rfl, h0⟩ ?_ (fun s h _ _ hq hm => (hb s).mono h _ _ hq hm)
  rintro n s h ⟨g, rfl, hi⟩
  refine (hb s).mono h _ _ ?_ (hr g s h hi)
  intro r h' hx
  cases r with
  | inr t => exact hx
  | inl s' =>
    obtain ⟨g', h1, h2⟩ := hx
    exact ⟨_, h1, g', rfl, h2⟩
def Next {γ σ : Type} (I : γ → σ → Heap → Prop) (μ : γ → Nat) (g : γ) (s : σ) (h : Heap) : Prop := ∃ g', μ g' < μ g ∧ I g' s h
theorem Next.mk {γ σ : Type} {I : γ → σ → Heap → Prop} {μ : γ → Nat} {g : γ} {s : σ} {h : Heap} (g' : γ) (h1 : μ g' < μ g) (h2 : I g' s h) : Next I μ g s h := ⟨g', h1, h2⟩
theorem loop_gx {γ : Type} {body : σ → HM (σ ⊕ τ)} {s : σ} {h : Heap} {Q : τ → Heap → Prop} [hb : ∀ s, Mono (body s)] (I : γ → σ → Heap → Prop) (μ : γ → Nat) (g : γ) (h0 : I g s h)
    (hr : ∀ g s h, I g s h → body s h fun r h' => match r with
      | .inl s' => Next I μ g s' h'
      | .inr t => Q t h') : HM.loop body s h Q := loop_gh I μ g h0 hr
end
theorem bind_cut {α β : Type} {m : HM α} [hm : Mono m] {f : α → HM β} {h : Heap} {Q : β → Heap → Prop} (P : α → Heap → Prop) (h1 : m h P) (h2 : ∀ a h', P a h' → f a h' Q) : (m.bind f) h Q :=
  hm.mono h P _ h2 h1
end Go.H
namespace Go.H
set_option linter.unusedSimpArgs false
set_option linter.unusedVariables false
open Go.MapKept (Stamped)
section
variable {K V : Type}
variable {h : Heap} {R : List Asn} {ek : K → Value} {ev : V → Value} {m it : Nat} {l done todo : List (K × V)}
end
@[simp] theorem opt_none {α β : Type} (a : HM β) (f : α → HM β) {h : Heap} {Q : β → Heap → Prop} : HM.opt none a f h Q = a h Q := rfl
@[simp] theorem opt_some {α β : Type} (x : α) (a : HM β) (f : α → HM β) {h : Heap} {Q : β → Heap → Prop} : HM.opt (some x) a f h Q = f x h Q := rfl
def bigA {α : Type} (f : α → Asn) : List α → Asn
  | [] => pr True
  | x :: l => star (f x) (bigA f l)
section
variable {α : Type} {f : α → Asn} {h : Heap} {R : List Asn}
theorem bigA_nil : sat h (bigA f [] :: R) ↔ sat h R := sat.pr_iff.trans ⟨fun hh => hh.2, fun hh => ⟨trivial, hh⟩⟩
theorem bigA_cons {x : α} {l : List α} : sat h (bigA f (x :: l) :: R) ↔ sat h (f x :: bigA f l :: R) := sat.star_iff
end
theorem stars_perm {L L' : List Asn} (hp : L.Perm L') : ∀ m, stars L m → stars L' m := by
  induction hp with
  | nil => exact fun _ h => h
  | cons x _ ih => exact fun m h => star_mono (fun _ h => h) ih h
  | swap x y l => exact fun m h => stars_swap h
  | trans _ _ ih1 ih2 => exact fun m h => ih2 m (ih1 m h)
theorem sat.perm {h : Heap} {L L' : List Asn} (hp : L.Perm L') (hs : sat h L) : sat h L' :=
  let ⟨m, h1, h2⟩ := hs
  ⟨m, h1, stars_perm hp m h2⟩
theorem sat.trues {h : Heap} {R : List Asn} : ∀ (n : Nat), sat h R → sat h (List.replicate n (pr True) ++ R)
  | 0, hs => hs
  | n + 1, hs => sat.pr_iff.2 ⟨trivial, sat.trues n hs⟩
theorem sat.re {h : Heap} {L : List Asn} (hs : sat h L) (idx : List Nat) (hi : idx.isPerm (List.range idx.length) = true := by rfl) :
    sat h (idx.map (fun i => L.getD i (pr True)) ++ L.drop idx.length) := by
  have h1 : (idx.map (fun i => L.getD i (pr True))).Perm ((List.range idx.length).map (fun i => L.getD i (pr True))) := (List.isPerm_iff.1 hi).map _
  refine sat.perm (h1.symm.append_right _) ?_
  generalize idx.length = n
  clear h1 hi
  by_cases hn : n ≤ L.length
  · have e : (List.range n).map (fun i => L.getD i (pr True)) = L.take n := by
      refine List.ext_getElem (by simp; omega) fun i h2 h3 => ?_
      simp at h2 h3
      simp [List.getElem?_eq_getElem (show i < L.length by omega)]
    rw [e, List.take_append_drop]
    exact hs
  · rw [List.drop_of_length_le (by omega), List.append_nil]
    have e : (List.range n).map (fun i => L.getD i (pr True)) = L ++ List.replicate (n - L.length) (pr True) := by
      refine List.ext_getElem? fun i => ?_
      rw [List.getElem?_append]
      by_cases h2 : i < L.length
      · simp [h2, show i < n by omega]
      · by_cases h3 : i < n
        · simp [h2, h3, List.getElem?_replicate, show i - L.length < n - L.length by omega, List.getElem?_eq_none (show L.length ≤ i by omega)]
        · simp [h2, h3, List.getElem?_replicate]
          omega
    rw [e]
    exact (sat.trues _ hs).perm List.perm_append_comm
section
variable {K V : Type} [DecidableEq K]
end
end Go.H
namespace Go.H
set_option linter.unusedSimpArgs false
set_option linter.unusedVariables false
open Go.RowKit
theorem below_of {w w' : World} {R : List Asn} (hs : Same w w') (ho : sat w'.heap (old w.heap :: R)) : Below w.heap.size w w' := by
  refine ⟨hs.os, hs.tape, hs.output, ?_, fun k hk => ?_⟩
  · rcases Nat.eq_zero_or_pos w.heap.size with h0 | hp
    · omega
    · have hg : w.heap[w.heap.size - 1]? = some w.heap[w.heap.size - 1] := Array.getElem?_eq_getElem (by omega)
      have := (Array.getElem?_eq_some_iff.1 (ho.old_get hg)).1
      omega
  · rw [ho.old_get (Array.getElem?_eq_getElem hk), Array.getElem?_eq_getElem hk]
theorem walk_of {P : Program} {f : FuncId} {args : Array Value} {w : World} {v : Value}
    (hc : HCalls P f args w.heap fun v' h' => v' = v ∧ ∃ R, sat h' (old w.heap :: R)) : Calls P f args w fun e w' => e = .returned v ∧ Below w.heap.size w w' :=
  (hc w rfl).mono fun e w' ⟨_, he, hs, hv, R, ho⟩ => ⟨by rw [he, hv], below_of hs ho⟩
def RowAt {α : Type} (enc : α → List Value) (size : Nat) (h0 : Heap) (s : Slc) (xs : List α) : Prop :=
  s.len = xs.length ∧ s.len ≤ s.cap ∧ ∀ (i : Nat) x, xs[i]? = some x → ∃ a, s.a = some a ∧ ∀ j v, (enc x)[j]? = some v → cellH h0 ((a.add (i * size)).add j) = some v
section
variable {α β : Type} {enc : α → List Value} {size : Nat} {h0 h : Heap} {s : Slc} {xs : List α}
theorem idx_row (hr : RowAt enc size h0 s xs) {i : Nat} {x : α} (hx : xs[i]? = some x) {Q : Addr → Heap → Prop}
    (hq : ∀ a, (∀ j v, (enc x)[j]? = some v → cellH h0 (a.add j) = some v) → Q a h) : HM.idx s.a s.len (i : Int) size h Q := by
  obtain ⟨a, ha, hc⟩ := hr.2.2 i x hx
  have hlt := (List.getElem?_eq_some_iff.1 hx).1
  exact ⟨a, ha, by omega, by have := hr.1; omega, hq _ (by simpa using hc)⟩
theorem slice_row (hr : RowAt enc size h0 s xs) {n : Nat} (hn : n ≤ xs.length) {Q : Slc → Heap → Prop}
    (hq : ∀ s', RowAt enc size h0 s' (xs.take n) → Q s' h) : HM.slice s none (some (n : Int)) none size h Q := by
  refine ⟨0, n, s.cap, rfl, ⟨rfl, by have := hr.1; have := hr.2.1; omega⟩, rfl, hq _ ⟨?_, ?_, ?_⟩⟩
  · simp [sliceOf]; omega
  · have := hr.1; have := hr.2.1; simp [sliceOf]; omega
  · intro i x hx
    obtain ⟨a, ha, hc⟩ := hr.2.2 i x (by
      rw [List.getElem?_take] at hx
      split at hx
      · exact hx
      · cases hx)
    refine ⟨a, ?_, hc⟩
    simp only [sliceOf, ha]
    split
    · rfl
    · simp [add_zero]
end
end Go.H
namespace Go.H
set_option linter.unusedSimpArgs false
set_option linter.unusedVariables false
theorem wrap_id {n : Int} (h1 : -9223372036854775808 ≤ n) (h2 : n ≤ 9223372036854775807) : IntKind.wrap .i64 n = n := by
  simp [IntKind.wrap, IntKind.bits, IntKind.signed]; omega
section
variable {h h' : Heap} {A : Asn} {R : List Asn}
theorem sat.grow (hs : sat h R) (hg : ∀ (k : Nat) o, h[k]? = some o → h'[k]? = some o) : sat h' R := by
  obtain ⟨m, h1, h2⟩ := hs
  exact ⟨m, fun k o ho => hg k o (h1 k o ho), h2⟩
theorem calls_below {P : Program} {f : FuncId} {args : Array Value} {v : Value} {Q : Value → Heap → Prop} (hs : sat h R)
    (hc : ∀ w, w.heap = h → Calls P f args w fun e w' => e = .returned v ∧ Go.RowKit.Below w.heap.size w w') (hq : ∀ h', sat h' R → Q v h') : HCalls P f args h Q := by
  intro w hw
  refine (hc w hw).mono ?_
  rintro e w' ⟨rfl, hb⟩
  refine ⟨v, rfl, ⟨hb.os, hb.tape, hb.output⟩, hq _ (hs.grow fun k o ho => ?_)⟩
  rw [hb.block k (by rw [hw]; exact (Array.getElem?_eq_some_iff.1 ho).1), hw]
  exact ho
end
section
variable {α : Type} {enc : α → List Value} {size : Nat} {h h0 h' : Heap} {s : Slc} {xs : List α} {R : List Asn}
theorem RowAt.mono (hr : RowAt enc size h0 s xs) (hc : ∀ a v, cellH h0 a = some v → cellH h a = some v) : RowAt enc size h s xs :=
  ⟨hr.1, hr.2.1, fun i x hx => by
    obtain ⟨a, ha, hx⟩ := hr.2.2 i x hx
    exact ⟨a, ha, fun j v hv => hc _ _ (hx j v hv)⟩⟩
theorem RowAt.old (hr : RowAt enc size h0 s xs) (hs : sat h (old h0 :: R)) : RowAt enc size h s xs := hr.mono fun _ _ hc => hs.old_cell hc
theorem RowAt.nil : RowAt enc size h ⟨none, 0, 0⟩ [] := ⟨rfl, Nat.le_refl _, fun i x hx => by simp at hx⟩
end
structure OwnF {α : Type} (enc : α → List Value) (size : Nat) (s : Slc) (xs : List α) (b o : Nat) (cs : Array Value) : Prop where
  a : s.a = some ⟨b, o * size, none⟩
  le : s.len ≤ s.cap
  len : s.len = xs.length
  csize : (o + s.cap) * size ≤ cs.size
  front : (cs.toList.drop (o * size)).take (s.len * size) = xs.flatMap enc
def ownS {α : Type} (enc : α → List Value) (size : Nat) (s : Slc) (xs : List α) : Asn := fun m =>
  (s.len = 0 ∧ s.cap = 0 ∧ xs = []) ∨ exA (fun x : Nat × Nat × Array Value => star (pr (OwnF enc size s xs x.1 x.2.1 x.2.2)) (cells x.1 x.2.2)) m
section
variable {α : Type} {enc : α → List Value} {size : Nat} {h : Heap} {s : Slc} {xs : List α} {R : List Asn}
theorem ownS_cases (hs : sat h (ownS enc size s xs :: R)) : (s.len = 0 ∧ s.cap = 0 ∧ xs = [] ∧ sat h R) ∨ ∃ b o cs, OwnF enc size s xs b o cs ∧ sat h (cells b cs :: R) := by
  obtain ⟨m, h1, a, r, hd, rfl, ha, hr⟩ := id hs
  rcases ha with ⟨h2, h3, h4⟩ | ha
  · exact .inl ⟨h2, h3, h4, hs.drop⟩
  · have hs' : sat h (exA (fun x : Nat × Nat × Array Value => star (pr (OwnF enc size s xs x.1 x.2.1 x.2.2)) (cells x.1 x.2.2)) :: R) := ⟨_, h1, a, r, hd, rfl, ha, hr⟩
    rw [sat.ex_iff] at hs'
    obtain ⟨⟨b, o, cs⟩, hs'⟩ := hs'
    rw [sat.star_iff, sat.pr_iff] at hs'
    exact .inr ⟨b, o, cs, hs'⟩
theorem ownS_none {a : Option Addr} (hs : sat h R) : sat h (ownS enc size ⟨a, 0, 0⟩ [] :: R) := by
  obtain ⟨m, h1, h2⟩ := hs
  exact ⟨m, h1, fun _ => none, m, fun k => .inl rfl, by funext k; rfl, .inl ⟨rfl, rfl, rfl⟩, h2⟩
theorem ownS_nil (hs : sat h R) : sat h (ownS enc size ⟨none, 0, 0⟩ [] :: R) := ownS_none hs
theorem ownS_mk {b o : Nat} {cs : Array Value} (ho : OwnF enc size s xs b o cs) (hs : sat h (cells b cs :: R)) : sat h (ownS enc size s xs :: R) := by
  have hs' : sat h (exA (fun x : Nat × Nat × Array Value => star (pr (OwnF enc size s xs x.1 x.2.1 x.2.2)) (cells x.1 x.2.2)) :: R) := by
    rw [sat.ex_iff]
    refine ⟨(b, o, cs), ?_⟩
    rw [sat.star_iff, sat.pr_iff]
    exact ⟨ho, hs⟩
  exact hs'.imp fun m hm => .inr hm
theorem sat.own_len (hs : sat h (ownS enc size s xs :: R)) : s.len = xs.length := by
  rcases ownS_cases hs with ⟨h1, h2, rfl, -⟩ | ⟨b, o, cs, ho, -⟩
  · exact h1
  · exact ho.len
theorem sat.own_le (hs : sat h (ownS enc size s xs :: R)) : s.len ≤ s.cap := by
  rcases ownS_cases hs with ⟨h1, h2, rfl, -⟩ | ⟨b, o, cs, ho, -⟩
  · omega
  · exact ho.le
theorem flat_get (henc : ∀ x, (enc x).length = size) : ∀ (xs : List α) (i : Nat) (x : α), xs[i]? = some x → ∀ j v, (enc x)[j]? = some v → (xs.flatMap enc)[i * size + j]? = some v
  | [], i, x, hx, _, _, _ => by simp at hx
  | y :: xs, 0, x, hx, j, v, hv => by
    simp only [List.getElem?_cons_zero, Option.some.injEq] at hx
    subst hx
    rw [List.flatMap_cons, Nat.zero_mul, Nat.zero_add]
    have hj := (List.getElem?_eq_some_iff.1 hv).1
    rw [List.getElem?_append_left hj]
    exact hv
  | y :: xs, i + 1, x, hx, j, v, hv => by
    rw [List.getElem?_cons_succ] at hx
    rw [List.flatMap_cons, List.getElem?_append_right (by rw [henc]; rw [Nat.succ_mul]; omega), henc]
    rw [show (i + 1) * size + j - size = i * size + j from by rw [Nat.succ_mul]; omega]
    exact flat_get henc xs i x hx j v hv
theorem flat_len (henc : ∀ x, (enc x).length = size) (xs : List α) : (xs.flatMap enc).length = xs.length * size := by
  induction xs with
  | nil => simp
  | cons x xs ih => rw [List.flatMap_cons, List.length_append, ih, henc, List.length_cons, Nat.succ_mul]; omega
theorem sat.own_row (henc : ∀ x, (enc x).length = size) (hs : sat h (ownS enc size s xs :: R)) : RowAt enc size h s xs := by
  rcases ownS_cases hs with ⟨h1, h2, rfl, -⟩ | ⟨b, o, cs, ho, hs⟩
  · exact ⟨h1, by omega, fun i x hx => by simp at hx⟩
  · refine ⟨ho.len, ho.le, fun i x hx => ⟨_, ho.a, fun j v hv => ?_⟩⟩
    rw [Addr.add_at, Addr.add_at, hs.cell]
    have h1 := flat_get henc xs i x hx j v hv
    rw [← ho.front, List.getElem?_take] at h1
    split at h1
    · rw [List.getElem?_drop] at h1
      rw [show o * size + i * size + j = o * size + (i * size + j) from by omega]
      simpa using h1
    · cases h1
theorem slice_own {lo hi : Nat} {mx : Option Int} {Q : Slc → Heap → Prop} {ol oh : Option Int} (hs : sat h (ownS enc size s xs :: R)) (henc : ∀ x, (enc x).length = size)
    (h1 : lo ≤ hi) (h2 : hi ≤ xs.length) (e1 : optLe ol (lo = 0) lo hi) (e2 : optLe oh (hi = s.len) hi s.cap)
    (hq : ∀ s', sat h (ownS enc size s' ((xs.take hi).drop lo) :: R) → Q s' h) : HM.slice s ol oh none size h Q := by
  have hl := hs.own_len
  have hc := hs.own_le
  refine ⟨lo, hi, s.cap, rfl, ?_, e1, hq _ ?_⟩
  · cases oh with
    | none => exact ⟨rfl, e2⟩
    | some x => exact e2
  rcases ownS_cases hs with ⟨g1, g2, rfl, hs1⟩ | ⟨b, o, cs, ho, hs1⟩
  · have : hi = 0 := by simpa using h2
    subst this
    have : lo = 0 := by omega
    subst this
    simp only [sliceOf, g2, if_true, List.take_nil, List.drop_nil, Nat.sub_self]
    exact ownS_none hs1
  · by_cases hm : s.cap = lo
    · have e0 : lo = xs.length := by omega
      simp only [sliceOf, hm, if_true, Nat.sub_self]
      rw [List.drop_of_length_le (by simp; omega), show hi - lo = 0 from by omega]
      exact ownS_none hs.drop
    · refine ownS_mk (b := b) (o := o + lo) (cs := cs) ⟨?_, ?_, ?_, ?_, ?_⟩ hs1
      · simp only [sliceOf, if_neg hm, ho.a, Option.map_some, Addr.add_at, Nat.add_mul]
      · simp only [sliceOf]; omega
      · simp only [sliceOf, List.length_drop, List.length_take]; omega
      · simp only [sliceOf]
        rw [show o + lo + (s.cap - lo) = o + s.cap from by omega]
        exact ho.csize
      · simp only [sliceOf]
        have hf := ho.front
        have e3 : ((xs.take hi).drop lo).flatMap enc = ((xs.flatMap enc).take (hi * size)).drop (lo * size) := by
          have key : ∀ (l : List α) (n : Nat), (l.flatMap enc).take (n * size) = (l.take n).flatMap enc ∧ (l.flatMap enc).drop (n * size) = (l.drop n).flatMap enc := by
            intro l
            induction l with
            | nil => intro n; simp
            | cons x l ih =>
              intro n
              cases n with
              | zero => simp
              | succ n =>
                have hx := henc x
                rw [List.flatMap_cons, Nat.succ_mul, List.take_succ_cons, List.drop_succ_cons, List.flatMap_cons]
                refine ⟨?_, ?_⟩
                · rw [List.take_append, hx, List.take_of_length_le (by omega), show n * size + size - size = n * size from by omega, (ih n).1]
                · rw [List.drop_append, hx, List.drop_of_length_le (by omega), show n * size + size - size = n * size from by omega, (ih n).2, List.nil_append]
          rw [(key xs hi).1, (key (xs.take hi) lo).2]
        rw [e3, ← hf]
        rw [List.take_take, Nat.min_eq_left (Nat.mul_le_mul_right _ (by omega : hi ≤ s.len)), List.drop_take, List.drop_drop, Nat.add_mul, ← Nat.sub_mul]
theorem sat.setCells {b : Nat} : ∀ (vs : List Value) (cs : Array Value) (o i : Nat) {h : Heap} {R : List Asn}, sat h (cells b cs :: R) → o + i + vs.length ≤ cs.size →
    ∃ cs' : Array Value, cs'.size = cs.size ∧ cs'.toList = cs.toList.take (o + i) ++ vs ++ cs.toList.drop (o + i + vs.length) ∧ sat (setCellsH h ⟨b, o, none⟩ vs i) (cells b cs' :: R)
  | [], cs, o, i, h, R, hs, hl => ⟨cs, rfl, by simp, hs⟩
  | v :: vs, cs, o, i, h, R, hs, hl => by
    simp only [List.length_cons] at hl
    have h1 := hs.set (o + i) v
    obtain ⟨cs', e1, e2, h2⟩ := sat.setCells vs (cs.setIfInBounds (o + i) v) o (i + 1) h1 (by simp; omega)
    refine ⟨cs', by simpa using e1, ?_, by simpa [setCellsH] using h2⟩
    rw [e2, Array.toList_setIfInBounds]
    have hlen : o + i < cs.toList.length := by simp; omega
    rw [show o + (i + 1) = (o + i) + 1 from by omega, List.take_succ_eq_append_getElem (by simpa using hlen)]
    rw [List.getElem_set_self, List.take_set_of_le (Nat.le_refl _), List.drop_set_of_lt (by omega)]
    simp only [List.length_cons, List.append_assoc, List.cons_append, List.nil_append]
    rw [show o + i + 1 + vs.length = o + i + (vs.length + 1) from by omega]
theorem cells_set_ok {b : Nat} {cs : Array Value} {o : Nat} {vs : List Value} (hs : sat h (cells b cs :: R)) (hl : o + vs.length ≤ cs.size) (hv : ∀ v ∈ vs, v.oneCell' = true) :
    ∀ (i : Nat) v, vs[i]? = some v → (cellH h (Addr.add ⟨b, o, none⟩ i)).isSome = true ∧ frozenH h (Addr.add ⟨b, o, none⟩ i) = false ∧ v.oneCell' = true := by
  intro i v hi
  have hlt := (List.getElem?_eq_some_iff.1 hi).1
  rw [Addr.add_at]
  refine ⟨?_, hs.free _, hv v (List.mem_of_getElem? hi)⟩
  rw [hs.cell]
  simp
  omega
theorem append_own (henc : ∀ x, (enc x).length = size) (hcell : ∀ x, ∀ v ∈ enc x, v.oneCell' = true) {elem : TypeId} {bytes n : Nat} {zero : Array Value} (hz : zero.size = size) {src : Heap → Array Value → Prop} {ys : List α} {Q : Slc → Heap → Prop}
    (hs : sat h (ownS enc size s xs :: R)) (hn : ys.length = n) (hsrc : src h (ys.flatMap enc).toArray) (hsz : 0 < size) (hb0 : 0 < bytes) (hb : (xs.length + n) * bytes ≤ 140737488355328)
    (hq : ∀ s' h', sat h' (ownS enc size s' (xs ++ ys) :: R) → Q s' h') : HM.append elem size bytes zero s n src h Q := by
  have hl := hs.own_len
  have hbig : xs.length + n ≤ 140737488355328 := Nat.le_trans (Nat.le_mul_of_pos_right _ hb0) hb
  constructor
  · intro hc
    refine ⟨_, hsrc, ?_⟩
    rcases ownS_cases hs with ⟨g1, g2, rfl, hs1⟩ | ⟨b, o, cs, ho, hs⟩
    · have h0 : n = 0 := by omega
      subst h0
      have hy : ys = [] := List.eq_nil_of_length_eq_zero hn
      subst hy
      obtain ⟨sa, sl, sc⟩ := s
      simp only at g1 g2
      subst g1 g2
      cases sa with
      | none => exact hq _ _ (ownS_none hs1)
      | some a => exact ⟨fun i v hv => by simp at hv, hq _ _ (ownS_none hs1)⟩
    · rw [ho.a]
      simp only [Addr.add_at]
      have hlen : (o * size + s.len * size) + (ys.flatMap enc).length ≤ cs.size := by
        refine Nat.le_trans ?_ ho.csize
        rw [flat_len henc, hn, ← Nat.add_mul, ← Nat.add_mul]
        exact Nat.mul_le_mul_right _ (by omega)
      refine ⟨?_, ?_⟩
      · have := cells_set_ok (o := o * size + s.len * size) (vs := ys.flatMap enc) hs hlen (fun v hv => by
          obtain ⟨x, _, hx⟩ := List.mem_flatMap.1 hv
          exact hcell x v hx)
        simpa using this
      · obtain ⟨cs', e1, e2, hs'⟩ := sat.setCells (ys.flatMap enc) cs (o * size + s.len * size) 0 hs (by simpa using hlen)
        refine hq _ _ (ownS_mk (b := b) (o := o) (cs := cs') ⟨rfl, hc, by simp [ho.len, hn], by rw [e1]; exact ho.csize, ?_⟩ (by simpa using hs'))
        rw [e2]
        simp only [Nat.add_zero]
        have hcl : cs.toList.length = cs.size := by simp
        have d1 : ((cs.toList.take (o * size + s.len * size) ++ ys.flatMap enc ++ cs.toList.drop (o * size + s.len * size + (ys.flatMap enc).length)).drop (o * size)) =
            xs.flatMap enc ++ ys.flatMap enc ++ cs.toList.drop (o * size + s.len * size + (ys.flatMap enc).length) := by
          rw [List.append_assoc, List.drop_append_of_le_length (by rw [List.length_take, hcl]; omega), List.drop_take, show o * size + s.len * size - o * size = s.len * size from by omega, ho.front, List.append_assoc]
        rw [d1, List.flatMap_append]
        have e3 : (s.len + n) * size = (xs.flatMap enc ++ ys.flatMap enc).length := by
          rw [List.length_append, flat_len henc, flat_len henc, Nat.add_mul, ho.len, hn]
        rw [e3, List.take_left']
        rfl
  · intro hc
    refine ⟨by omega, growslice_fits hc (by rw [hl]; exact hb), ?_⟩
    have hnew : ∀ old : Array Value, old.toList = xs.flatMap enc → ∀ c, s.len + n ≤ c → ∀ R', sat h R' →
        sat (h.push (.cells (old ++ (ys.flatMap enc).toArray ++ Builtin.zeroCells zero (c - (s.len + n))) elem)) (ownS enc size ⟨some ⟨h.size, 0, none⟩, s.len + n, c⟩ (xs ++ ys) :: R') := by
      intro old hold c hcc R' hR'
      have ho : old.size = s.len * size := by
        have := congrArg List.length hold
        rw [flat_len henc] at this
        simpa [hl] using this
      refine ownS_mk (o := 0) ⟨by simp, hcc, by simp [hl, hn], Nat.le_of_eq ?_, ?_⟩ hR'.push_cells
      · simp only [Nat.zero_add, Array.size_append, ho, Builtin.zeroCells, Array.size_map, Array.size_range, hz, List.size_toArray, flat_len henc, hn]
        rw [← Nat.add_mul, ← Nat.add_mul]
        congr 1
        omega
      · simp only [Array.toList_append, hold, List.flatMap_append, Nat.zero_mul, List.drop_zero]
        rw [List.take_append_of_le_length (by simp only [List.length_append, flat_len henc]; rw [hl, Nat.add_mul, hn]; exact Nat.le_refl _)]
        rw [List.take_of_length_le]
        simp only [List.length_append, flat_len henc]
        rw [hl, Nat.add_mul, hn]
        exact Nat.le_refl _
    rcases ownS_cases hs with ⟨g1, g2, rfl, hs1⟩ | ⟨b, o, cs, ho, hs⟩
    · refine ⟨#[], _, ?_, hsrc, fun c hcc _ => hq _ _ (hnew #[] rfl c hcc R hs1)⟩
      rw [g1, Nat.zero_mul]
      cases s.a with
      | none => rfl
      | some a => exact ⟨rfl, fun i v hv => by simp at hv⟩
    · refine ⟨(xs.flatMap enc).toArray, _, ?_, hsrc, fun c hcc _ => hq _ _ (hnew _ (by simp) c hcc R hs.drop)⟩
      simp only [readsH, ho.a]
      refine ⟨by simp [flat_len henc, ho.len], fun i v hi => ?_⟩
      rw [Addr.add_at, hs.cell]
      have h1 : (xs.flatMap enc)[i]? = some v := by simpa using hi
      rw [← ho.front, List.getElem?_take] at h1
      split at h1
      · rw [List.getElem?_drop] at h1
        simpa using h1
      · cases h1
theorem sat.reads {b : Nat} {cs : Array Value} {n : Nat} (hs : sat h (cells b cs :: R)) (hn : cs.size = n) : readsH h (some ⟨b, 0, none⟩) n cs :=
  ⟨hn, fun i v hi => by rw [Addr.add_at, hs.cell, Nat.zero_add]; exact hi⟩
theorem app_new (henc : ∀ x, (enc x).length = size) (hcell : ∀ x, ∀ v ∈ enc x, v.oneCell' = true) {elem T : TypeId} {bytes : Nat} {zero : Array Value} (hz : zero.size = size) {x : α} {Q : Slc → Heap → Prop}
    (hs : sat h (ownS enc size s xs :: R)) (hsz : 0 < size) (hb0 : 0 < bytes) (hb : (xs.length + 1) * bytes ≤ 140737488355328)
    (hq : ∀ s' h', sat h' (ownS enc size s' (xs ++ [x]) :: R) → Q s' h') : HM.new (.cells (enc x).toArray T) h fun b h' => HM.append elem size bytes zero s 1 (srcSlc size ⟨some ⟨b, 0, none⟩, 1, 1⟩) h' Q := by
  refine new_cells hs fun b h1 hs1 => ?_
  refine append_own henc hcell hz (ys := [x]) hs1.p1 rfl ?_ hsz hb0 hb fun s' h2 hs2 => hq s' h2 hs2.p1.drop
  simp only [srcSlc, Nat.one_mul, List.flatMap_cons, List.flatMap_nil, List.append_nil]
  exact hs1.reads (by simp [henc])
theorem loadN_of {ts : List Tag} {a : Addr} (x : Tup ts) {Q : Tup ts → Heap → Prop} (hc : ∀ i v, (Tup.vals ts x)[i]? = some v → cellH h (a.add i) = some v) (hq : Q x h) : HM.loadN ts a h Q := ⟨x, hc, hq⟩
theorem add_own (b i : Nat) : (⟨b, 0, none⟩ : Addr).add i = ⟨b, i, none⟩ := by
  cases i with
  | zero => rfl
  | succ i => simp [Addr.add]
theorem loadN_cells {b : Nat} {cs : Array Value} {ts : List Tag} (x : Tup ts) {Q : Tup ts → Heap → Prop} (hs : sat h (cells b cs :: R)) (he : cs = (Tup.vals ts x).toArray) (hq : Q x h) : HM.loadN ts ⟨b, 0, none⟩ h Q := by
  refine ⟨x, fun i v hv => ?_, hq⟩
  have := hs.cell i
  rw [he] at this
  have e : (⟨b, 0, none⟩ : Addr).add i = ⟨b, i, none⟩ := by
    cases i with
    | zero => rfl
    | succ i => simp [Addr.add]
  rw [e, this]
  simpa using hv
theorem idx_at {a : Addr} {n size : Nat} {i : Int} {Q : Addr → Heap → Prop} (h0 : 0 ≤ i) (h1 : i < (n : Int)) (hq : Q (a.add (i.toNat * size)) h) : HM.idx (some a) n i size h Q := ⟨a, rfl, h0, h1, hq⟩
theorem storeN_all {b : Nat} {cs : Array Value} {vs : List Value} {Q : Unit → Heap → Prop} (hs : sat h (cells b cs :: R)) (hl : vs.length = cs.size) (hv : ∀ v ∈ vs, v.oneCell' = true)
    (hq : ∀ h', sat h' (cells b vs.toArray :: R) → Q () h') : HM.storeN ⟨b, 0, none⟩ vs h Q := by
  refine ⟨cells_set_ok (o := 0) hs (by omega) hv, ?_⟩
  obtain ⟨cs', e1, e2, hs'⟩ := sat.setCells vs cs 0 0 hs (by omega)
  have e3 : cs' = vs.toArray := by
    apply Array.toList_inj.1
    rw [e2]
    simp only [Nat.add_zero, Nat.zero_add, List.take_zero, List.nil_append]
    rw [List.drop_of_length_le (by simp; omega)]
    simp
  subst e3
  exact hq _ hs'
theorem storeN_all' {b : Nat} {cs : Array Value} {vs : List Value} {Q : Unit → Heap → Prop} (hs : sat h (cells b cs :: R)) (hl : vs.length = cs.size) (hv : vs.all (fun v => v.oneCell') = true)
    (hq : ∀ h', sat h' (cells b vs.toArray :: R) → Q () h') : HM.storeN ⟨b, 0, none⟩ vs h Q :=
  storeN_all hs hl (List.all_eq_true.1 hv) hq
end
end Go.H
namespace Go.R
open Go.H
set_option linter.unusedSimpArgs false
set_option linter.unusedVariables false
theorem list_of {α : Type} {p : Nat → α → Prop} : ∀ (n : Nat), (∀ i, i < n → ∃ x, p i x) → ∃ xs : List α, xs.length = n ∧ ∀ (i : Nat) x, xs[i]? = some x → p i x
  | 0, _ => ⟨[], rfl, fun i x hx => by simp at hx⟩
  | n + 1, hp => by
    obtain ⟨xs, h1, h2⟩ := list_of n (fun i hi => hp i (by omega))
    obtain ⟨x, hx⟩ := hp n (by omega)
    refine ⟨xs ++ [x], by simp [h1], fun i y hy => ?_⟩
    rw [List.getElem?_append] at hy
    split at hy
    · exact h2 i y hy
    · rename_i hi
      have h3 := (List.getElem?_eq_some_iff.1 hy).1
      simp only [List.length_cons, List.length_nil] at h3
      have hin : i = n := by omega
      subst hin
      rw [h1, Nat.sub_self] at hy
      cases hy
      exact hx
structure OkLaw {H : Type} (P : Program) (ok : TypeId → DataW H → Prop) (top : Nat) (wt : TypeId → Nat) : Prop where
  str : ∀ {t : TypeId} {bs : List UInt8}, ok t (.lit (.string bs)) → bs.length ≤ top
  elem : ∀ {t e : TypeId} {elems rest : List (DataW H)} {d : DataW H}, P.underlying t = some (.slice e) → ok t (.slice elems rest) → d ∈ elems → ok e d
  cnt : ∀ {t e : TypeId} {elems rest : List (DataW H)}, P.underlying t = some (.slice e) → ok t (.slice elems rest) → elems.length * wt e ≤ top
  field : ∀ {t : TypeId} {fs : Array Field} {parts : List (DataW H)} {j : Nat} {f : Field} {d : DataW H}, P.underlying t = some (.struct fs) → ok t (.agg parts) → fs[j]? = some f → parts[j]? = some d → ok f.type d
  arr : ∀ {t e : TypeId} {n : Nat} {parts : List (DataW H)} {d : DataW H}, P.underlying t = some (.array n e) → ok t (.agg parts) → d ∈ parts → ok e d
theorem okWide_agg {P : Program} {w : World} {t : TypeId} {fs : Array Field} {r : Reach} {b0 : Nat} {v : Value} (ht : P.underlying t = some (.struct fs)) (h : Value.okWide P w r b0 t v) : ∃ cs, v = .agg cs := by
  simp only [Value.okWide, ht] at h
  obtain ⟨cs, h1, _⟩ := h
  exact ⟨cs, h1⟩
structure GoodG {α : Type} (enc : α → List Value) (size wt top : Nat) (h : Heap) (good : α → Prop) (x : Slc × List α) : Prop where
  row : RowAt enc size h x.1 x.2
  good : ∀ y ∈ x.2, good y
  cap : x.1.cap ≤ maxLen
  reach : x.2.length * wt ≤ top
section
variable {H : Type} (ec : TypeId × Value → H) (P : Program) (w : World) (base : Nat) (sp : Nat → Bool) (held : Bool) (ok : TypeId → DataW H → Prop)
def RdG {α : Type} (t : TypeId) (enc : α → List Value) (good : α → Prop) : Prop :=
  ∀ fuel cs y, DataW.trod ec P w base sp held fuel t cs = some y → ok t y.1 → ∃ x, cs = enc x ∧ good x
def RdF {α : Type} (fs : List Field) (o n : Nat) (enc : α → List Value) (good : α → Prop) : Prop :=
  ∀ fuel (cs : List Value) (xs : List (DataW H × List MemPlace)), cs.length = n → xs.length = fs.length →
    (∀ (j : Nat) f, fs[j]? = some f → DataW.trod ec P w base sp held fuel f.type ((cs.drop f.offset).take (P.cellsOf f.type)) = xs[j]?) →
    (∀ (j : Nat) f d, fs[j]? = some f → xs[j]? = some d → ok f.type d.1) → ∃ x, cs.drop o = enc x ∧ good x
end
section
variable {H : Type} {ec : TypeId × Value → H} {P : Program} {w : World} {base : Nat} {sp : Nat → Bool} {held : Bool} {ok : TypeId → DataW H → Prop} {top : Nat} {wt : TypeId → Nat}
theorem rg_int {t : TypeId} {k : IntKind} (ht : P.underlying t = some (.int k)) : RdG ec P w base sp held ok t (fun x : Int => [.int k x]) (fun x => (Lit.int k x).wf = true) := fun _ _ _ h _ => by
  obtain ⟨n, h1, _, h2⟩ := DataW.trod_int ht h
  exact ⟨n, h1, h2⟩
theorem rg_bool {t : TypeId} (ht : P.underlying t = some .bool) : RdG ec P w base sp held ok t (fun x : Bool => [.bool x]) (fun _ => True) := fun _ _ _ h _ => by
  obtain ⟨n, h1, _⟩ := DataW.trod_bool ht h
  exact ⟨n, h1, trivial⟩
theorem rg_str (hk : OkLaw P ok top wt) {t : TypeId} (ht : P.underlying t = some .string) : RdG ec P w base sp held ok t (fun x : ByteArray => [.string x]) (fun x => x.size ≤ top) := fun _ _ _ h hw => by
  obtain ⟨n, h1, rfl, h2⟩ := DataW.trod_string ht h
  refine ⟨n, h1, ?_⟩
  have := hk.str hw
  rwa [Array.length_toList] at this
theorem rg_slice (hk : OkLaw P ok top wt) {α : Type} {t e : TypeId} {enc : α → List Value} {good : α → Prop} (ht : P.underlying t = some (.slice e)) {size k : Nat} (hc : P.cellsOf e = size) (hb : wt e = k) (he : RdG ec P w base sp held ok e enc good) :
    RdG ec P w base sp held ok t (fun x : Slc × List α => [.slice x.1.a x.1.len x.1.cap]) (GoodG enc size k top w.heap good) := fun fuel cs y h hw => by
  subst hc hb
  rcases DataW.trod_slice ht h with ⟨rfl, _⟩ | ⟨a, len, cap, elems, rest, n, _, rfl, rfl, _, hl, hm, hlen, hel, _, _⟩
  · exact ⟨(⟨none, 0, 0⟩, []), rfl, ⟨rfl, Nat.le_refl _, fun i x hx => by simp at hx⟩, fun y hy => by simp at hy, Nat.zero_le _, by simp⟩
  · have hw2 : ∀ i (hi : i < elems.length), ok e (elems[i]'hi).1 := fun i hi => hk.elem ht hw (List.mem_map_of_mem (List.getElem_mem hi))
    have hw3 := hk.cnt ht hw
    have h1 : ∀ i, i < len → ∃ x, good x ∧ ∀ j v, (enc x)[j]? = some v → cellH w.heap ((a.add (i * P.cellsOf e)).add j) = some v := by
      intro i hi
      have h2 := hel i hi
      rw [List.getElem?_eq_getElem (by omega), Option.bind_eq_some_iff] at h2
      obtain ⟨cs', h3, h4⟩ := h2
      obtain ⟨x, rfl, hg⟩ := he _ _ _ h4 (hw2 i (by omega))
      obtain ⟨_, h5, h6⟩ := World.cells?_some h3
      refine ⟨x, hg, fun j v hv => ?_⟩
      rw [← cell_eq, h6 j (by rw [← h5]; exact (List.getElem?_eq_some_iff.1 hv).1)]
      exact hv
    obtain ⟨xs, h2, h3⟩ := list_of len h1
    refine ⟨(⟨some a, len, cap⟩, xs), rfl, ⟨h2.symm, hl, fun i x hx => ⟨a, rfl, (h3 i x hx).2⟩⟩, fun y hy => ?_, hm, ?_⟩
    · obtain ⟨i, hi⟩ := List.getElem?_of_mem hy
      exact (h3 i y hi).1
    · simp only
      rw [List.length_map] at hw3
      rw [h2, ← hlen]
      exact hw3
theorem rf_cons {α β : Type} {f : Field} {fs : List Field} {o n : Nat} {c : Nat} {e0 : α → List Value} {g0 : α → Prop} {e1 : β → List Value} {g1 : β → Prop} (hc : P.cellsOf f.type = c) (ho : f.offset = o)
    (h0 : RdG ec P w base sp held ok f.type e0 g0) (h1 : RdF ec P w base sp held ok fs (o + c) n e1 g1) : RdF ec P w base sp held ok (f :: fs) o n (fun x : α × β => e0 x.1 ++ e1 x.2) (fun x => g0 x.1 ∧ g1 x.2) := fun fuel cs xs hl hx hf hok => by
  subst hc ho
  cases xs with
  | nil => simp at hx
  | cons y xs =>
    obtain ⟨x0, c0, k0⟩ := h0 fuel _ y (hf 0 f rfl) (hok 0 f y rfl rfl)
    obtain ⟨x1, c1, k1⟩ := h1 fuel cs xs hl (by simpa using hx) (fun j f' hj => by have := hf (j + 1) f' (by simpa using hj); simpa using this) (fun j f' d hj hd => hok (j + 1) f' d (by simpa using hj) (by simpa using hd))
    refine ⟨(x0, x1), ?_, k0, k1⟩
    simp only [← c0, ← c1]
    rw [← List.drop_drop, List.take_append_drop]
theorem rf_one {α : Type} {f : Field} {o n : Nat} {c : Nat} {e0 : α → List Value} {g0 : α → Prop} (hc : P.cellsOf f.type = c) (ho : f.offset = o) (hn : n ≤ o + c)
    (h0 : RdG ec P w base sp held ok f.type e0 g0) : RdF ec P w base sp held ok [f] o n e0 g0 := fun fuel cs xs hl hx hf hok => by
  subst hc ho
  cases xs with
  | nil => simp at hx
  | cons y xs =>
    obtain ⟨x0, c0, k0⟩ := h0 fuel _ y (hf 0 f rfl) (hok 0 f y rfl rfl)
    refine ⟨x0, ?_, k0⟩
    rw [← c0, List.take_of_length_le (by rw [List.length_drop]; omega)]
theorem rg_struct (hk : OkLaw P ok top wt) {α : Type} {t : TypeId} {fs : Array Field} {n : Nat} {enc : α → List Value} {good : α → Prop} (ht : P.underlying t = some (.struct fs)) (hn : P.cellsOf t = n) (h : RdF ec P w base sp held ok fs.toList 0 n enc good) :
    RdG ec P w base sp held ok t enc good := fun fuel cs y hy hw => by
  obtain ⟨xs, m, _, rfl, hl, hx, hf⟩ := DataW.trod_struct ht hy
  obtain ⟨x, h1, h2⟩ := h m cs xs (hl.trans hn) (by simpa using hx) (fun j f hj => hf j f (by simpa using hj)) (fun j f d hj hd => hk.field ht hw (by simpa using hj) (by rw [List.getElem?_map, hd]; rfl))
  exact ⟨x, by simpa using h1, h2⟩
end
end Go.R
namespace Go.Proofs
variable {H : Type} {enc : TypeId × Value → H}
end Go.Proofs
namespace Go.H
set_option linter.unusedSimpArgs false
set_option linter.unusedVariables false
section
variable {α β γ σ τ : Type} {h : Heap} {s : σ}
theorem cut {m : HM α} {f : α → HM β} {Q : β → Heap → Prop} (P : α → Heap → Prop) (h1 : ∀ K : α → Heap → Prop, (∀ a h', P a h' → K a h') → m h K) (h2 : ∀ a h', P a h' → f a h' Q) : (HM.bind m f) h Q := h1 _ h2
theorem loop_k {body : σ → HM (σ ⊕ τ)} {Q : τ → Heap → Prop} (J : γ → σ → Heap → Prop) (μ : γ → Nat) (g : γ) (h0 : J g s h)
    (hr : ∀ g s h, J g s h → ∀ K : σ ⊕ τ → Heap → Prop, (∀ g' s' h', μ g' < μ g → J g' s' h' → K (.inl s') h') → (∀ t h', Q t h' → K (.inr t) h') → body s h K) : HM.loop body s h Q := by
  classical
  have hex : ∀ (s : σ) (h : Heap), (∃ g, J g s h) → ∃ n, ∃ g, J g s h ∧ μ g = n := fun s h ⟨g, hg⟩ => ⟨μ g, g, hg, rfl⟩
  have key : ∀ (n : Nat) (s : σ) (h : Heap), (∃ g, J g s h ∧ μ g = n) → ∃ m, (∃ g, J g s h ∧ μ g = m) ∧ ∀ g, J g s h → m ≤ μ g := by
    intro n
    induction n using Nat.strongRecOn with
    | _ n ih =>
      intro s h hn
      by_cases hl : ∃ g, J g s h ∧ μ g < n
      · obtain ⟨g, hg, hlt⟩ := hl
        exact ih _ hlt s h ⟨g, hg, rfl⟩
      · exact ⟨n, hn, fun g hg => by
          rcases Nat.lt_or_ge (μ g) n with h1 | h1
          · exact absurd ⟨g, hg, h1⟩ hl
          · exact h1⟩
  refine ⟨fun s h => ∃ g, J g s h, fun s h => if hh : ∃ m, (∃ g, J g s h ∧ μ g = m) ∧ ∀ g, J g s h → m ≤ μ g then Classical.choose hh else 0, ⟨g, h0⟩, ?_⟩
  intro s h hi
  obtain ⟨n, hn⟩ := hex s h hi
  have hm := key n s h hn
  obtain ⟨⟨g, hg, hgm⟩, hmin⟩ := Classical.choose_spec hm
  refine hr g s h hg _ (fun g' s' h' hlt hJ => ?_) (fun t h' hq => hq)
  refine ⟨⟨g', hJ⟩, ?_⟩
  have hm' := key (μ g') s' h' ⟨g', hJ, rfl⟩
  have h2 := (Classical.choose_spec hm').2 g' hJ
  simp only [dif_pos hm', dif_pos hm]
  omega
theorem loop_for {c : σ → Bool} {B E : σ → HM (σ ⊕ τ)} {Q : τ → Heap → Prop} (n : Nat) (J : Nat → σ → Heap → Prop) (h0 : J 0 s h) (hc : ∀ i s h, i ≤ n → J i s h → c s = decide (i < n))
    (hE : ∀ s h, J n s h → ∀ K : σ ⊕ τ → Heap → Prop, (∀ t h', Q t h' → K (.inr t) h') → E s h K)
    (hB : ∀ i s h, i < n → J i s h → ∀ K : σ ⊕ τ → Heap → Prop, (∀ s' h', J (i + 1) s' h' → K (.inl s') h') → (∀ t h', Q t h' → K (.inr t) h') → B s h K) :
    HM.loop (fun s => HM.ite (c s) (B s) (E s)) s h Q := by
  refine loop_k (fun i s h => i ≤ n ∧ J i s h) (fun i => n - i) 0 ⟨Nat.zero_le _, h0⟩ ?_
  rintro i s h ⟨hi, hJ⟩ K h1 h2
  rw [HM.ite_apply, hc i s h hi hJ]
  by_cases hlt : i < n
  · rw [if_pos (by simpa using hlt)]
    exact hB i s h hlt hJ K (fun s' h' hJ' => h1 (i + 1) s' h' (by omega) ⟨hlt, hJ'⟩) h2
  · have : i = n := by omega
    subst this
    rw [if_neg (by simp)]
    exact hE s h hJ K h2
variable {KT V : Type} {ek : KT → Value} {ev : V → Value} {m it : Nat} {l : List (KT × V)}
end
end Go.H
namespace Go.H
set_option linter.unusedSimpArgs false
set_option linter.unusedVariables false
section
variable {α : Type} {enc : α → List Value} {size : Nat} {h h0 : Heap} {s : Slc} {xs : List α} {R : List Asn}
theorem flat_inv (henc : ∀ x, (enc x).length = size) : ∀ (xs : List α) (i : Nat) (v : Value), (xs.flatMap enc)[i]? = some v → ∃ q x r, xs[q]? = some x ∧ (enc x)[r]? = some v ∧ i = q * size + r
  | [], i, v, h => by simp at h
  | x :: xs, i, v, h => by
    rw [List.flatMap_cons] at h
    rcases Nat.lt_or_ge i size with hi | hi
    · rw [List.getElem?_append_left (by rw [henc]; exact hi)] at h
      exact ⟨0, x, i, rfl, h, by simp⟩
    · rw [List.getElem?_append_right (by rw [henc]; exact hi), henc] at h
      obtain ⟨q, y, r, h1, h2, h3⟩ := flat_inv henc xs _ v h
      exact ⟨q + 1, y, r, by simpa using h1, h2, by rw [Nat.succ_mul]; omega⟩
theorem add_add' (a : Addr) (m r : Nat) : (a.add m).add r = a.add (m + r) := by
  unfold Addr.add
  by_cases h1 : m = 0 <;> by_cases h2 : r = 0 <;> simp [h1, h2, Nat.add_assoc]
theorem row_reads (henc : ∀ x, (enc x).length = size) (hr : RowAt enc size h s xs) (hsz : 0 < size) : readsH h s.a (s.len * size) (xs.flatMap enc).toArray := by
  unfold readsH
  cases ha : s.a with
  | none =>
    cases xs with
    | nil => rfl
    | cons x xs =>
      obtain ⟨a, h1, _⟩ := hr.2.2 0 x rfl
      rw [ha] at h1; cases h1
  | some a =>
    refine ⟨by simp [flat_len henc, hr.1], fun i v hi => ?_⟩
    obtain ⟨q, x, r, h1, h2, rfl⟩ := flat_inv henc xs i v (by simpa using hi)
    obtain ⟨a', h3, h4⟩ := hr.2.2 q x h1
    rw [ha] at h3; cases h3
    have := h4 r v h2
    rwa [add_add'] at this
end
end Go.H
namespace Go.H
set_option linter.unusedSimpArgs false
set_option linter.unusedVariables false
def At (L : List Asn) (q : Heap → Prop) : Prop := ∀ h, sat h L → q h
def W {α : Type} (L : List Asn) (m : HM α) (Q : α → Heap → Prop) : Prop := ∀ h, sat h L → m h Q
def FW (P : Program) (f : FuncId) (args : Array Value) (L : List Asn) (Q : Value → Heap → Prop) : Prop := ∀ h, sat h L → HCalls P f args h Q
def Has (L : List Asn) (A : Asn) (L' : List Asn) : Prop := ∀ m, stars L m → stars (A :: L') m
def Sub (L L' : List Asn) : Prop := ∀ m, stars L m → stars L' m
class Enc {α : Type} (enc : α → List Value) (size : outParam Nat) : Prop where
  len : ∀ x, (enc x).length = size
  cell : ∀ x, ∀ v ∈ enc x, v.oneCell' = true
  pos : 0 < size
section
variable {A B C D E F : Asn} {L L1 L2 L3 L4 L5 L6 L' R : List Asn} {h : Heap}
theorem nbq {α : Type} [BEq α] [LawfulBEq α] (a : α) : (!(a == a)) = false := by simp
theorem nbd {p : Prop} [Decidable p] (hp : p) : (!(decide p)) = false := by simp [hp]
theorem has0 : Has (A :: L) A L := fun _ hs => hs
theorem hasS (hx : Has L A L') : Has (B :: L) A (B :: L') := fun _ hs => stars_swap (star_mono (fun _ h => h) hx hs)
theorem Sub.rfl : Sub L L := fun _ hs => hs
theorem Sub.nil : Sub L [] := fun _ _ => trivial
theorem Sub.drop (hr : Sub L R) : Sub (A :: L) R := fun m hs => by
  obtain ⟨a, b, hd, rfl, ha, hb⟩ := hs
  exact stars_append.up R (a.join b) b (fun k o ho => join_right hd ho) (hr b hb)
theorem Sub.cons (hx : Has L A L1) (hr : Sub L1 R) : Sub L (A :: R) := fun m hs => star_mono (fun _ h => h) hr (hx m hs)
theorem Sub.trans (h1 : Sub L L1) (h2 : Sub L1 L2) : Sub L L2 := fun m hs => h2 m (h1 m hs)
theorem Has.s (hx : Has L A L') (hs : sat h L) : sat h (A :: L') := let ⟨m, h1, h2⟩ := hs; ⟨m, h1, hx m h2⟩
theorem Sub.s (hx : Sub L L') (hs : sat h L) : sat h L' := let ⟨m, h1, h2⟩ := hs; ⟨m, h1, hx m h2⟩
theorem Has.then (hx : Has L A L1) (hy : Has L1 B L2) : Sub L (A :: B :: L2) := fun m hs => star_mono (fun _ h => h) hy (hx m hs)
variable {α β : Type} {m : HM α} {Q : α → Heap → Prop} {q : Heap → Prop} {p : Prop}
theorem At.sub (hq : At L' q) (hs : Sub L L' := by repeat (first | with_reducible exact Go.H.Sub.rfl | with_reducible exact Go.H.Sub.nil | refine Go.H.Sub.cons (by repeat (first | with_reducible exact Go.H.has0 | apply Go.H.hasS)) ?_ | refine Go.H.Sub.drop ?_)) : At L q := fun h h1 => hq h (hs.s h1)
theorem W.sub (hq : W L' m Q) (hs : Sub L L' := by repeat (first | with_reducible exact Go.H.Sub.rfl | with_reducible exact Go.H.Sub.nil | refine Go.H.Sub.cons (by repeat (first | with_reducible exact Go.H.has0 | apply Go.H.hasS)) ?_ | refine Go.H.Sub.drop ?_)) : W L m Q := fun h h1 => hq h (hs.s h1)
theorem W.opn2 {X Y : Type} {g : X → Y → List Asn → List Asn} (hf : ∀ h R, sat h (A :: R) → ∃ x y, sat h (g x y R)) (hw : ∀ x y, W (g x y L') m Q) (hx : Has L A L' := by repeat (first | with_reducible exact Go.H.has0 | apply Go.H.hasS)) : W L m Q := fun h hs => by
  obtain ⟨x, y, h1⟩ := hf h L' (hx.s hs)
  exact hw x y h h1
theorem W.opnp {X : Type} {r : X → Prop} {g : X → List Asn → List Asn} (hf : ∀ h R, sat h (A :: R) → ∃ x, r x ∧ sat h (g x R)) (hw : ∀ x, r x → W (g x L') m Q) (hx : Has L A L' := by repeat (first | with_reducible exact Go.H.has0 | apply Go.H.hasS)) : W L m Q := fun h hs => by
  obtain ⟨x, h0, h1⟩ := hf h L' (hx.s hs)
  exact hw x h0 h h1
theorem W.cv2 (hf : ∀ h R, sat h (A :: R) → sat h (B :: C :: R)) (hw : W (B :: C :: L') m Q) (hx : Has L A L' := by repeat (first | with_reducible exact Go.H.has0 | apply Go.H.hasS)) : W L m Q := fun h hs => hw h (hf h L' (hx.s hs))
theorem W.fact (hf : ∀ h R, sat h (A :: R) → p) (hw : p → W L m Q) (hx : Has L A L' := by repeat (first | with_reducible exact Go.H.has0 | apply Go.H.hasS)) : W L m Q := fun h hs => hw (hf h L' (hx.s hs)) h hs
theorem At.fact (hf : ∀ h R, sat h (A :: R) → p) (hw : p → At L q) (hx : Has L A L' := by repeat (first | with_reducible exact Go.H.has0 | apply Go.H.hasS)) : At L q := fun h hs => hw (hf h L' (hx.s hs)) h hs
theorem Has.then3 (hb : Has L B L1) (hc : Has L1 C L2) (hd : Has L2 D L3) : Sub L (B :: C :: D :: L3) := fun m hs => star_mono (fun _ h => h) (hc.then hd) (hb m hs)
theorem W.cls3 (mk : ∀ h, sat h (B :: C :: D :: L3) → sat h (A :: L3)) (hw : W (A :: L3) m Q) (hb : Has L B L1 := by repeat (first | with_reducible exact Go.H.has0 | apply Go.H.hasS)) (hc : Has L1 C L2 := by repeat (first | with_reducible exact Go.H.has0 | apply Go.H.hasS)) (hd : Has L2 D L3 := by repeat (first | with_reducible exact Go.H.has0 | apply Go.H.hasS)) : W L m Q := fun h hs => hw h (mk h ((hb.then3 hc hd).s hs))
variable {f : α → HM β} {Q' : β → Heap → Prop} {b : Bool} {x y : HM β}
theorem W.pure {a : α} (hq : At L (Q a)) : W L (HM.pure a) Q := hq
theorem W.bpure {a : α} (hw : W L (f a) Q') : W L (HM.bind (HM.pure a) f) Q' := hw
theorem W.bbind {γ : Type} {m : HM γ} {g : γ → HM α} (hw : W L (HM.bind m fun x => HM.bind (g x) f) Q') : W L (HM.bind (HM.bind m g) f) Q' := hw
theorem W.ite (ht : b = true → W L x Q') (hf : b = false → W L y Q') : W L (HM.ite b x y) Q' := fun h hs => by
  rw [HM.ite_apply]; cases b
  · exact hf (Eq.refl _) h hs
  · exact ht (Eq.refl _) h hs
theorem W.tt (hb : b = true) (hw : W L x Q') : W L (HM.ite b x y) Q' := by subst hb; exact hw
theorem W.ff (hb : b = false) (hw : W L y Q') : W L (HM.ite b x y) Q' := by subst hb; exact hw
theorem W.bite {u v : HM α} (ht : b = true → W L (HM.bind u f) Q') (hf : b = false → W L (HM.bind v f) Q') : W L (HM.bind (HM.ite b u v) f) Q' := fun h hs => by
  rw [HM.bind_apply, HM.ite_apply]; cases b
  · exact hf (Eq.refl _) h hs
  · exact ht (Eq.refl _) h hs
theorem W.bt {u v : HM α} (hb : b = true) (hw : W L (HM.bind u f) Q') : W L (HM.bind (HM.ite b u v) f) Q' := by subst hb; exact hw
theorem W.bf {u v : HM α} (hb : b = false) (hw : W L (HM.bind v f) Q') : W L (HM.bind (HM.ite b u v) f) Q' := by subst hb; exact hw
theorem W.req (hw : W L x Q') (hp : p) : W L (HM.req p x) Q' := fun h hs => ⟨hp, hw h hs⟩
theorem W.inl {γ δ : Type} {u : γ → HM β} {v : δ → HM β} {a : γ} (hw : W L (u a) Q') : W L (Sum.elim u v (Sum.inl a)) Q' := hw
theorem W.inr {γ δ : Type} {u : γ → HM β} {v : δ → HM β} {a : δ} (hw : W L (v a) Q') : W L (Sum.elim u v (Sum.inr a)) Q' := hw
theorem W.both (h1 : W L x Q') (h2 : W L y Q') : W L (HM.both x y) Q' := fun h hs => ⟨h1 h hs, h2 h hs⟩
theorem W.nonnil {a : Addr} {f : Addr → HM β} (hw : W L (f a) Q') : W L (HM.bind (HM.nonnil (some a)) f) Q' := fun h hs => by rw [HM.bind_apply, HM.nonnil_some]; exact hw h hs
theorem W.cut (P : α → List Asn) (h1 : ∀ K : α → Heap → Prop, (∀ a, At (P a) (K a)) → W L m K) (h2 : ∀ a, W (P a) (f a) Q') : W L (HM.bind m f) Q' := fun h hs => h1 (fun a h' => f a h' Q') (fun a h' hs' => h2 a h' hs') h hs
theorem W.cutp (p : α → Prop) (P : α → List Asn) (h1 : ∀ K : α → Heap → Prop, (∀ a, p a → At (P a) (K a)) → W L m K) (h2 : ∀ a, p a → W (P a) (f a) Q') : W L (HM.bind m f) Q' := fun h hs => h1 (fun a h' => f a h' Q') (fun a hp h' hs' => h2 a hp h' hs') h hs
theorem W.newc {f : Nat → HM β} {cs : Array Value} {T : TypeId} (hw : ∀ b, W (cells b cs :: L) (f b) Q') : W L (HM.bind (HM.new (.cells cs T)) f) Q' := fun h hs => new_cells hs fun b h' hs' => hw b h' hs'
theorem W.load {t : Tag} {b i : Nat} {cs : Array Value} {v : t.ty} {f : t.ty → HM β} (hw : W L (f v) Q') (hx : Has L (cells b cs) L' := by repeat (first | with_reducible exact Go.H.has0 | apply Go.H.hasS)) (hv : (cs[i]?).bind t.get = some v := by rfl) : W L (HM.bind (HM.load1 t (Addr.add ⟨b, 0, none⟩ i)) f) Q' := fun h hs => by
  refine ⟨v, ?_, hw h hs⟩
  rw [add_own, (hx.s hs).cell i]
  cases hc : cs[i]? with
  | none => rw [hc] at hv; cases hv
  | some u => rw [hc] at hv; exact congrArg some (Tag.get_val hv)
theorem W.load0 {t : Tag} {b : Nat} {cs : Array Value} {v : t.ty} {f : t.ty → HM β} (hw : W L (f v) Q') (hx : Has L (cells b cs) L' := by repeat (first | with_reducible exact Go.H.has0 | apply Go.H.hasS)) (hv : (cs[0]?).bind t.get = some v := by rfl) : W L (HM.bind (HM.load1 t ⟨b, 0, none⟩) f) Q' := by
  have := W.load (i := 0) (f := f) hw hx hv
  exact this
theorem W.loadx {t : Tag} {a : Addr} {b i : Nat} {cs : Array Value} {v : t.ty} {f : t.ty → HM β} (hw : W L (f v) Q') (ha : a = ⟨b, i, none⟩ := by rfl) (hx : Has L (cells b cs) L' := by repeat (first | with_reducible exact Go.H.has0 | apply Go.H.hasS)) (hv : (cs[i]?).bind t.get = some v := by rfl) : W L (HM.bind (HM.load1 t a) f) Q' := fun h hs => by
  subst ha
  refine ⟨v, ?_, hw h hs⟩
  rw [(hx.s hs).cell i]
  cases hc : cs[i]? with
  | none => rw [hc] at hv; cases hv
  | some u => rw [hc] at hv; exact congrArg some (Tag.get_val hv)
theorem W.loadN {ts : List Tag} {b : Nat} {cs : Array Value} {v : Tup ts} {f : Tup ts → HM β} (hw : W L (f v) Q') (hx : Has L (cells b cs) L' := by repeat (first | with_reducible exact Go.H.has0 | apply Go.H.hasS)) (hv : Tup.get ts cs.toList = some v := by rfl) : W L (HM.bind (HM.loadN ts ⟨b, 0, none⟩) f) Q' := fun h hs =>
  loadN_cells v (hx.s hs) (Array.toList_inj.1 (Tup.get_vals ts _ v hv)) (hw h hs)
theorem W.loadNo {ts : List Tag} {b i : Nat} {cs : Array Value} {v : Tup ts} {f : Tup ts → HM β} (hw : W L (f v) Q') (hx : Has L (Go.H.cells b cs) L' := by repeat (first | with_reducible exact Go.H.has0 | apply Go.H.hasS)) (hv : Tup.get ts ((cs.toList.drop i).take ts.length) = some v := by rfl) : W L (HM.bind (HM.loadN ts (Addr.add ⟨b, 0, none⟩ i)) f) Q' := fun h hs => by
  refine ⟨v, fun j u hu => ?_, hw h hs⟩
  rw [← Tup.get_vals ts _ v hv, List.getElem?_take] at hu
  split at hu
  · rw [List.getElem?_drop] at hu
    rw [add_own, Addr.add_at, (hx.s hs).cell]
    simpa using hu
  · cases hu
theorem W.storex {a : Addr} {b i : Nat} {cs cs' : Array Value} {v : Value} {f : Unit → HM β} (hw : W (Go.H.cells b cs' :: L') (f ()) Q') (ha : a = ⟨b, i, none⟩ := by rfl) (hx : Has L (Go.H.cells b cs) L' := by repeat (first | with_reducible exact Go.H.has0 | apply Go.H.hasS)) (hc : (if i < cs.size then cs.toList.set i v else []) = cs'.toList := by rfl) (hn : 0 < cs'.size := by exact Nat.zero_lt_succ _) (hv : v.oneCell' = true := by rfl) : W L (HM.bind (HM.store1 a v) f) Q' := fun h hs => by
  subst ha
  rw [HM.bind_apply]
  by_cases hi : i < cs.size
  · rw [if_pos hi] at hc
    refine store1_cells (hx.s hs) hi hv fun h' hs' => hw h' ?_
    have : cs' = cs.setIfInBounds i v := by
      apply Array.toList_inj.1; rw [← hc, Array.toList_setIfInBounds]
    rw [this]; exact hs'
  · rw [if_neg hi] at hc
    have := congrArg List.length hc
    simp at this
    omega
theorem W.store {b i : Nat} {cs cs' : Array Value} {v : Value} {f : Unit → HM β} (hw : W (cells b cs' :: L') (f ()) Q') (hx : Has L (cells b cs) L' := by repeat (first | with_reducible exact Go.H.has0 | apply Go.H.hasS)) (hc : (if i < cs.size then cs.toList.set i v else []) = cs'.toList := by rfl) (hn : 0 < cs'.size := by exact Nat.zero_lt_succ _) (hv : v.oneCell' = true := by rfl) : W L (HM.bind (HM.store1 (Addr.add ⟨b, 0, none⟩ i) v) f) Q' := fun h hs => by
  rw [HM.bind_apply, add_own]
  by_cases hi : i < cs.size
  · rw [if_pos hi] at hc
    refine store1_cells (hx.s hs) hi hv fun h' hs' => hw h' ?_
    have : cs' = cs.setIfInBounds i v := by
      apply Array.toList_inj.1; rw [← hc, Array.toList_setIfInBounds]
    rw [this]; exact hs'
  · rw [if_neg hi] at hc
    have := congrArg List.length hc
    simp at this
    omega
theorem W.store0 {b : Nat} {cs cs' : Array Value} {v : Value} {f : Unit → HM β} (hw : W (cells b cs' :: L') (f ()) Q') (hx : Has L (cells b cs) L' := by repeat (first | with_reducible exact Go.H.has0 | apply Go.H.hasS)) (hc : (if 0 < cs.size then cs.toList.set 0 v else []) = cs'.toList := by rfl) (hn : 0 < cs'.size := by exact Nat.zero_lt_succ _) (hv : v.oneCell' = true := by rfl) : W L (HM.bind (HM.store1 ⟨b, 0, none⟩ v) f) Q' := by
  have := W.store (i := 0) hw hx hc hn hv
  exact this
theorem W.storeN {b : Nat} {cs : Array Value} {vs : List Value} {f : Unit → HM β} (hw : W (cells b vs.toArray :: L') (f ()) Q') (hx : Has L (cells b cs) L' := by repeat (first | with_reducible exact Go.H.has0 | apply Go.H.hasS)) (hl : vs.length = cs.size := by rfl) (hv : vs.all (fun v => v.oneCell') = true := by rfl) : W L (HM.bind (HM.storeN ⟨b, 0, none⟩ vs) f) Q' := fun h hs =>
  storeN_all' (hx.s hs) hl hv fun h' hs' => hw h' hs'
theorem W.cells {b : Nat} {cs : Array Value} (cs' : Array Value) (hw : W (cells b cs' :: L') m Q) (hx : Has L (Go.H.cells b cs) L' := by repeat (first | with_reducible exact Go.H.has0 | apply Go.H.hasS)) (hc : cs = cs' := by rfl) : W L m Q := by subst hc; exact W.sub hw (fun m hs => hx m hs)
def u8sOf : List Value → Option (List Int)
  | [] => some []
  | v :: vs => match Tag.get (.int .u8) v with
    | some n => match u8sOf vs with
      | some ns => some (n :: ns)
      | none => none
    | none => none
theorem u8sOf_eq : ∀ (vs : List Value) (ns : List Int), u8sOf vs = some ns → vs = ns.map (Value.int .u8)
  | [], ns, hh => by cases hh; rfl
  | v :: vs, ns, hh => by
    simp only [u8sOf] at hh
    cases h1 : Tag.get (.int .u8) v with
    | none => rw [h1] at hh; cases hh
    | some n =>
      rw [h1] at hh
      simp only at hh
      cases h2 : u8sOf vs with
      | none => rw [h2] at hh; cases hh
      | some ms =>
        rw [h2] at hh
        cases hh
        rw [List.map_cons, ← u8sOf_eq vs ms h2, Tag.get_val h1]
        rfl
theorem W.str {b n c : Nat} {cs : Array Value} {f : ByteArray → HM β} {ns : List Int} (hw : W L (f (bytesOfInts ns)) Q') (hx : Has L (Go.H.cells b cs) L' := by repeat (first | with_reducible exact Go.H.has0 | apply Go.H.hasS)) (hc : u8sOf cs.toList = some ns := by rfl) (hn : cs.size = n := by rfl) : W L (HM.bind (HM.strOf ⟨some ⟨b, 0, none⟩, n, c⟩) f) Q' := fun h hs => ⟨ns, by
    have : cs = (ns.map (Value.int .u8)).toArray := Array.toList_inj.1 (u8sOf_eq _ _ hc)
    rw [← this]; exact (hx.s hs).reads hn, hw h hs⟩
theorem W.call1 {P : Program} {k : Kind} {fn : FuncId} {args : Array Value} {f : k.ty → HM β} (hc : FW P fn args L (k.un fun x h' => f x h' Q')) : W L (HM.bind (HM.call1 P k fn args) f) Q' := hc
theorem W.callN {P : Program} {ks : List Kind} {fn : FuncId} {args : Array Value} {f : KTup ks → HM β} (hc : FW P fn args L (KTup.un ks fun x h' => f x h' Q')) : W L (HM.bind (HM.callN P ks fn args) f) Q' := hc
theorem At.un {k : Kind} {v : Value} {x : k.ty} {f : k.ty → HM β} (hw : W L (f x) Q') (hv : k.get v = some x := by rfl) : At L (k.un (fun x h' => f x h' Q') v) := fun h hs => ⟨x, Kind.get_val hv, hw h hs⟩
def unT (v : Value) : List Value := match v with | .tuple a => a.toList | _ => []
def isT (v : Value) : Bool := match v with | .tuple a => true | _ => false
theorem At.unN {ks : List Kind} {v : Value} {x : KTup ks} {f : KTup ks → HM β} (hw : W L (f x) Q') (hv : KTup.get ks (unT v) = some x := by rfl) (ht : isT v = true := by rfl) : At L (KTup.un ks (fun x h' => f x h' Q') v) := fun h hs => by
  refine ⟨x, ?_, hw h hs⟩
  cases v with
  | tuple a => exact congrArg Value.tuple (Array.toList_inj.1 (KTup.get_vals ks _ x hv))
  | _ => cases ht
section
variable {γ : Type} {enc : γ → List Value} {size : Nat} {s : Slc} {xs : List γ} {h0 : Heap}
def El (s : Slc) (size i : Nat) (a : Addr) : Prop := ∃ x, s.a = some x ∧ a = x.add (i * size)
def ElO (h0 : Heap) (l : List Value) (a : Addr) : Prop := ∀ j v, l[j]? = some v → cellH h0 (a.add j) = some v
theorem El.row (hr : RowAt enc size h0 s xs) {i : Nat} {x : γ} (hi : xs[i]? = some x) {a : Addr} (ha : El s size i a) : ElO h0 (enc x) a := by
  obtain ⟨y, h1, rfl⟩ := ha
  obtain ⟨a, h2, h3⟩ := hr.2.2 i x hi
  rw [h1] at h2
  cases h2
  exact h3
theorem W.idx {i : Nat} {e : Int} {f : Addr → HM β} (hi : i < xs.length) (hw : ∀ a, El s size i a → W L (f a) Q') (hx : Has L (ownS enc size s xs) L' := by repeat (first | with_reducible exact Go.H.has0 | apply Go.H.hasS)) (he : e = (i : Int) := by rfl) [Enc enc size] : W L (HM.bind (HM.idx s.a s.len e size) f) Q' := fun h hs => by
  have hr := (hx.s hs).own_row (Enc.len (enc := enc))
  obtain ⟨a, ha, hc⟩ := hr.2.2 i _ (List.getElem?_eq_getElem hi)
  refine ⟨a, ha, by omega, by have := hr.1; omega, ?_⟩
  subst he
  exact hw _ ⟨a, ha, by rw [Int.toNat_natCast]⟩ h hs
theorem W.idxo {i : Nat} {e : Int} {f : Addr → HM β} (hr : RowAt enc size h0 s xs) (hi : i < xs.length) (hw : ∀ a, El s size i a → W L (f a) Q') (he : e = (i : Int) := by rfl) : W L (HM.bind (HM.idx s.a s.len e size) f) Q' := fun h hs => by
  obtain ⟨a, ha, hc⟩ := hr.2.2 i _ (List.getElem?_eq_getElem hi)
  refine ⟨a, ha, by omega, by have := hr.1; omega, ?_⟩
  subst he
  exact hw _ ⟨a, ha, by rw [Int.toNat_natCast]⟩ h hs
theorem W.loade {t : Tag} {i k : Nat} {a : Addr} {x : γ} {v : t.ty} {f : t.ty → HM β} (ha : El s size i a) (hi : xs[i]? = some x) (hw : W L (f v) Q') (hx : Has L (ownS enc size s xs) L' := by repeat (first | with_reducible exact Go.H.has0 | apply Go.H.hasS)) (hv : ((enc x)[k]?).bind t.get = some v := by rfl) [Enc enc size] : W L (HM.bind (HM.load1 t (Addr.add a k)) f) Q' := fun h hs => by
  have := ha.row ((hx.s hs).own_row (Enc.len (enc := enc))) hi
  cases hc : (enc x)[k]? with
  | none => rw [hc] at hv; cases hv
  | some u =>
    rw [hc] at hv
    exact ⟨v, by rw [this k u hc]; exact congrArg some (Tag.get_val hv), hw h hs⟩
theorem W.loadeN {ts : List Tag} {i : Nat} {a : Addr} {x : γ} {v : Tup ts} {f : Tup ts → HM β} (ha : El s size i a) (hi : xs[i]? = some x) (hw : W L (f v) Q') (hx : Has L (ownS enc size s xs) L' := by repeat (first | with_reducible exact Go.H.has0 | apply Go.H.hasS)) (hv : Tup.get ts (enc x) = some v := by rfl) [Enc enc size] : W L (HM.bind (HM.loadN ts a) f) Q' := fun h hs => by
  have := ha.row ((hx.s hs).own_row (Enc.len (enc := enc))) hi
  refine ⟨v, fun j u hu => ?_, hw h hs⟩
  rw [← Tup.get_vals ts _ v hv] at hu
  exact this j u hu
theorem W.loadoN {ts : List Tag} {i : Nat} {a : Addr} {x : γ} {v : Tup ts} {f : Tup ts → HM β} (hr : RowAt enc size h0 s xs) (ha : El s size i a) (hi : xs[i]? = some x) (hw : W L (f v) Q') (hx : Has L (old h0) L' := by repeat (first | with_reducible exact Go.H.has0 | apply Go.H.hasS)) (hv : Tup.get ts (enc x) = some v := by rfl) : W L (HM.bind (HM.loadN ts a) f) Q' := fun h hs => by
  have := ha.row hr hi
  refine ⟨v, fun j u hu => ?_, hw h hs⟩
  rw [← Tup.get_vals ts _ v hv] at hu
  exact (hx.s hs).old_cell (this j u hu)
theorem W.app1b {b : Nat} {cs : Array Value} {elem : TypeId} {bytes : Nat} {zero : Array Value} {f : Slc → HM β} (x : γ) (hw : ∀ s', W (ownS enc size s' (xs ++ [x]) :: L2) (f s') Q') (hb : (xs.length + 1) * bytes ≤ 140737488355328) (hx : Has L (ownS enc size s xs) L' := by repeat (first | with_reducible exact Go.H.has0 | apply Go.H.hasS)) (hy : Has L' (Go.H.cells b cs) L2 := by repeat (first | with_reducible exact Go.H.has0 | apply Go.H.hasS)) (hc : cs = (enc x).toArray := by rfl) (hz : zero.size = size := by rfl) (hb0 : 0 < bytes := by decide) [Enc enc size] :
    W L (HM.bind (HM.append elem size bytes zero s 1 (srcSlc size ⟨some ⟨b, 0, none⟩, 1, 1⟩)) f) Q' := fun h hs => by
  subst hc
  have h1 := (hx.then hy).s hs
  rw [HM.bind_apply]
  refine append_own (ys := [x]) (Enc.len (enc := enc)) (Enc.cell (enc := enc)) hz h1 rfl ?_ (Enc.pos enc) hb0 hb fun s' h2 hs2 => hw s' h2 (hs2.p1.drop)
  simp only [srcSlc, Nat.one_mul, List.flatMap_cons, List.flatMap_nil, List.append_nil]
  exact h1.p1.reads (by simp [Enc.len (enc := enc)])
theorem own_len' : ∀ h R, sat h (ownS enc size s xs :: R) → s.len = xs.length := fun h R hs => hs.own_len
theorem W.nils (enc : γ → List Value) (size : Nat) (hw : W (ownS enc size ⟨none, 0, 0⟩ ([] : List γ) :: L) m Q) : W L m Q := fun h hs => hw h (ownS_nil hs)
theorem W.nil0 (enc : γ → List Value) (size : Nat) (xs : List γ) (hw : W (ownS enc size ⟨none, 0, 0⟩ xs :: L) m Q) (he : xs = [] := by rfl) : W L m Q := by subst he; exact W.nils enc size hw
theorem W.slo {n : Nat} {e : Int} {f : Slc → HM β} (hr : RowAt enc size h0 s xs) (hn : n ≤ xs.length) (hw : ∀ s', RowAt enc size h0 s' (xs.take n) → W L (f s') Q') (he : e = (n : Int) := by rfl) : W L (HM.bind (HM.slice s none (some e) none size) f) Q' := fun h hs => by
  subst he
  exact slice_row hr hn fun s' hr' => hw s' hr' h hs
end
section
variable {K V : Type} [DecidableEq K] {ek : K → Value}
theorem W.lookup {kd : SameK} {kind : Kind} {z : kind.ty} {zero : Value} {r : Nat} {l : List (K × kind.ty)} {key : Value} {f : kind.ty × Bool → HM β} (hk : KeyLaw kd ek) (k : K) (hw : W L (f ((mget l k).getD z, (mget l k).isSome)) Q') (hx : Has L (mapA ek kind.val r l) L' := by repeat (first | with_reducible exact Go.H.has0 | apply Go.H.hasS)) (he : key = ek k := by rfl) (hz : kind.get zero = some z := by rfl) : W L (HM.bind (HM.lookup kd zero kind (some r) key) f) Q' := fun h hs => by
  subst he
  exact lookup_map hk (Kind.get_val hz) (hx.s hs) (hw h hs)
theorem W.mset {kd : SameK} {ev : V → Value} {r : Nat} {l : List (K × V)} {key val : Value} {f : Unit → HM β} (hk : KeyLaw kd ek) (hinj : ∀ a b, ek a = ek b → a = b) (k : K) (v : V) (hw : W (mapA ek ev r (Go.H.mset l k v) :: L') (f ()) Q') (hx : Has L (mapA ek ev r l) L' := by repeat (first | with_reducible exact Go.H.has0 | apply Go.H.hasS)) (he : key = ek k := by rfl) (hv : val = ev v := by rfl) : W L (HM.bind (HM.mapSet kd (some r) key val) f) Q' := fun h hs => by
  subst he hv
  exact set_map hk hinj (hx.s hs) fun h' hs' => hw h' hs'
end
section
variable {σ τ γ : Type} {s : σ} {body : σ → HM (σ ⊕ τ)} {f : τ → HM β}
theorem W.loop (I : γ → σ → Prop) (J : γ → σ → List Asn) (μ : γ → Nat) (g : γ) (h0 : I g s) (hL : Sub L (J g s))
    (hr : ∀ g s, I g s → ∀ K : σ ⊕ τ → Heap → Prop, (∀ g' s', μ g' < μ g → I g' s' → At (J g' s') (K (.inl s'))) → (∀ t L, W L (f t) Q' → At L (K (.inr t))) → W (J g s) (body s) K) :
    W L (HM.bind (HM.loop body s) f) Q' := fun h hs => by
  rw [HM.bind_apply]
  refine loop_k (γ := γ) (fun g s h => I g s ∧ sat h (J g s)) μ g ⟨h0, hL.s hs⟩ ?_
  rintro g s h ⟨hI, hJ⟩ K h1 h2
  exact hr g s hI K (fun g' s' hm hI' h' hs' => h1 g' s' h' hm ⟨hI', hs'⟩) (fun t L hw h' hs' => h2 t h' (hw h' hs')) h hJ
theorem W.for {c : σ → Bool} {B E : σ → HM (σ ⊕ τ)} (n : Nat) (I : Nat → σ → Prop) (J : Nat → σ → List Asn) (h0 : I 0 s) (hL : Sub L (J 0 s)) (hc : ∀ i s, i ≤ n → I i s → c s = decide (i < n))
    (hE : ∀ s, I n s → ∀ K : σ ⊕ τ → Heap → Prop, (∀ t L, W L (f t) Q' → At L (K (.inr t))) → W (J n s) (E s) K)
    (hB : ∀ i s, i < n → I i s → ∀ K : σ ⊕ τ → Heap → Prop, (∀ s', I (i + 1) s' → At (J (i + 1) s') (K (.inl s'))) → (∀ t L, W L (f t) Q' → At L (K (.inr t))) → W (J i s) (B s) K) :
    W L (HM.bind (HM.loop (fun s => HM.ite (c s) (B s) (E s)) s) f) Q' := fun h hs => by
  rw [HM.bind_apply]
  refine loop_for n (fun i s h => I i s ∧ sat h (J i s)) ⟨h0, hL.s hs⟩ (fun i s h hi hJ => hc i s hi hJ.1) (fun s h hJ K hd => ?_) (fun i s h hlt hJ K hnx hd => ?_)
  · exact hE s hJ.1 K (fun t L hw h' hs' => hd t h' (hw h' hs')) h hJ.2
  · exact hB i s hlt hJ.1 K (fun s' hI' h' hs' => hnx s' h' ⟨hI', hs'⟩) (fun t L hw h' hs' => hd t h' (hw h' hs')) h hJ.2
end
end
end Go.H
namespace Go.Proofs.YtfhalebbcbgbdaaGreatDoor
open Go.H Go.Proofs
set_option linter.unusedVariables false
set_option linter.unusedSimpArgs false
set_option maxRecDepth 100000
set_option maxHeartbeats 4000000
theorem calls_of_eq {P : Program} {C : List Nat} {n : Nat} {live lc : List Nat} {f : FuncId} {fn : Func} {ks : List Kind} {args : List Value} {h : Heap} {Q : Value → Heap → Prop} {m : HM (KTup ks)} (hf : P.funcs[f]? = some fn) (hb : fn.body.isSome = true) (hn : fn.ntmps = n) (hlen : Nat.ble args.length n = true)
    (hC : ∀ f, f ∈ C → CallOK P f) (hm : P.follows .mixedOrders = true) (he : denFn P C n live lc fn.results.toList ks (bodyOf fn) args = m) (hd : m h fun x h' => Q (packed ks x) h') : HCalls P f args.toArray h Q :=
  calls_of_den hf hb hn hlen hC hm (he ▸ hd)
theorem orders : Tryz.prog.follows .mixedOrders = true := by kernel_rfl
theorem CN {P : Program} : ∀ f, f ∈ ([] : List Nat) → CallOK P f := fun f hf => by cases hf
theorem CC {P : Program} {a : Nat} {l : List Nat} (h : CallOK P a) (hl : ∀ f, f ∈ l → CallOK P f) : ∀ f, f ∈ a :: l → CallOK P f := fun f hf => by
  rcases List.mem_cons.1 hf with rfl | hf
  · exact h
  · exact hl f hf
def law23_BridgeCarries (p0 : Slc) (p1 : Int × Int × Int × Int × Unit) (p2 : ByteArray × ByteArray × Int × Bool × ByteArray × Unit) : HM (Bool × Unit) :=
  HM.bind (α := Nat) (HM.new (.cells #[.int .i64 p1.1, .int .i64 p1.2.1, .int .i64 p1.2.2.1, .int .i64 p1.2.2.2.1] 64)) fun x1 =>
  HM.bind (α := Nat) (HM.new (.cells #[.string p2.1, .string p2.2.1, .int .i64 p2.2.2.1, .bool p2.2.2.2.1, .string p2.2.2.2.2.1] 23)) fun x2 =>
  HM.bind (α := Slc × Slc × Unit) (HM.callN Tryz.prog [.one .slc, .one .slc] 11 #[.slice p0.a p0.len p0.cap]) fun x3 =>
  HM.bind (α := Option Addr × Int × Unit) (HM.callN Tryz.prog [.one .ptr, .one (.int .u8)] 12 #[.slice x3.1.a x3.1.len x3.1.cap]) fun x4 =>
  HM.bind (α := Bool × Unit) (HM.bind (α := Bool) (HM.call1 Tryz.prog (.one .bool) 10 #[]) fun x5 =>
  HM.ite (!x5) (
  HM.pure (true, ())) (
  HM.pure (!(x4.2.1 == 0), ()))) fun x6 =>
  HM.ite x6.1 (
  HM.bind (α := Bool) (HM.call1 Tryz.prog (.one .bool) 10 #[]) fun x7 =>
  HM.pure (x7, ())) (
  HM.bind (α := Slc) (HM.call1 Tryz.prog (.one .slc) 20 #[.pointer x4.1]) fun x8 =>
  HM.bind (α := Int × Int × Int × Int × Unit) (HM.loadN [.int .i64, .int .i64, .int .i64, .int .i64] ⟨x1, 0, none⟩) fun x9 =>
  HM.bind (α := (Int × Int × Int × Int × Unit) × (Int × Int × Int × Int × Unit) × Unit) (HM.callN Tryz.prog [.agg [.int .i64, .int .i64, .int .i64, .int .i64], .agg [.int .i64, .int .i64, .int .i64, .int .i64]] 14 #[.agg #[.int .i64 x9.1, .int .i64 x9.2.1, .int .i64 x9.2.2.1, .int .i64 x9.2.2.2.1]]) fun x10 =>
  HM.bind (α := Nat) (HM.new (.cells #[.int .i64 0, .int .i64 0, .int .i64 0, .int .i64 0] 49)) fun x11 =>
  HM.bind (α := Nat) (HM.new (.cells #[.int .i64 0, .int .i64 0, .int .i64 0, .int .i64 0] 55)) fun x12 =>
  HM.bind (α := Unit) (HM.storeN ⟨x11, 0, none⟩ [.int .i64 x10.1.1, .int .i64 x10.1.2.1, .int .i64 x10.1.2.2.1, .int .i64 x10.1.2.2.2.1]) fun _ =>
  HM.bind (α := Unit) (HM.storeN ⟨x12, 0, none⟩ [.int .i64 x10.2.1.1, .int .i64 x10.2.1.2.1, .int .i64 x10.2.1.2.2.1, .int .i64 x10.2.1.2.2.2.1]) fun _ =>
  HM.bind (α := Int) (HM.load1 (.int .i64) (Addr.add ⟨x11, 0, none⟩ 3)) fun x13 =>
  HM.bind (α := Unit) (HM.store1 (Addr.add ⟨x2, 0, none⟩ 2) (.int .i64 x13)) fun _ =>
  HM.bind (α := ByteArray) (HM.load1 .str (Addr.add ⟨x2, 0, none⟩ 0)) fun x14 =>
  HM.bind (α := Int) (HM.load1 (.int .i64) (Addr.add ⟨x11, 0, none⟩ 3)) fun x15 =>
  HM.bind (α := Slc) (HM.call1 Tryz.prog (.one .slc) 28 #[.slice x3.1.a x3.1.len x3.1.cap, .string x14, .int .i64 x15]) fun x16 =>
  HM.bind (α := Int × Int × Int × Int × Unit) (HM.loadN [.int .i64, .int .i64, .int .i64, .int .i64] ⟨x11, 0, none⟩) fun x17 =>
  HM.bind (α := ByteArray × ByteArray × Int × Bool × ByteArray × Unit) (HM.loadN [.str, .str, .int .i64, .bool, .str] ⟨x2, 0, none⟩) fun x18 =>
  HM.bind (α := Slc) (HM.call1 Tryz.prog (.one .slc) 16 #[.pointer x4.1, .agg #[.int .i64 x17.1, .int .i64 x17.2.1, .int .i64 x17.2.2.1, .int .i64 x17.2.2.2.1], .agg #[.string x18.1, .string x18.2.1, .int .i64 x18.2.2.1, .bool x18.2.2.2.1, .string x18.2.2.2.2.1]]) fun x19 =>
  HM.bind (α := (Int × Int × Unit) ⊕ (Bool × Unit)) (HM.loop (σ := Int × Int × Unit) (τ := (Int × Int × Unit) ⊕ (Bool × Unit)) (fun x21 =>
  HM.ite (decide (x21.2.1 < (((x19.len : Nat) : Int) : Int))) (
  HM.bind (α := Addr) (HM.idx x19.a x19.len x21.2.1 5) fun x22 =>
  HM.bind (α := ByteArray × ByteArray × Int × Bool × ByteArray × Unit) (HM.loadN [.str, .str, .int .i64, .bool, .str] x22) fun x23 =>
  HM.bind (α := Nat) (HM.new (.cells #[.string (ByteArray.mk #[]), .string (ByteArray.mk #[]), .int .i64 0, .bool false, .string (ByteArray.mk #[])] 50)) fun x24 =>
  HM.bind (α := Unit) (HM.storeN ⟨x24, 0, none⟩ [.string x23.1, .string x23.2.1, .int .i64 x23.2.2.1, .bool x23.2.2.2.1, .string x23.2.2.2.2.1]) fun _ =>
  HM.bind (α := ByteArray × ByteArray × Int × Bool × ByteArray × Unit) (HM.loadN [.str, .str, .int .i64, .bool, .str] ⟨x24, 0, none⟩) fun x25 =>
  HM.bind (α := Slc × Int × Unit) (HM.callN Tryz.prog [.one .slc, .one (.int .u8)] 23 #[.pointer x4.1, .agg #[.string x25.1, .string x25.2.1, .int .i64 x25.2.2.1, .bool x25.2.2.2.1, .string x25.2.2.2.2.1]]) fun x26 =>
  HM.ite (x26.2.1 == 149) (
  HM.bind (α := ByteArray) (HM.load1 .str (Addr.add ⟨x24, 0, none⟩ 1)) fun x27 =>
  HM.pure (.inr (.inr (decide (32768 < (((ByteArray.size x27 : Nat) : Int) : Int)), ())))) (
  HM.bind (α := Bool × Unit) (HM.ite (!(x26.2.1 == 0)) (
  HM.pure (true, ())) (
  HM.ite (!(((x26.1.len : Nat) : Int) == 1)) (
  HM.pure (true, ())) (
  HM.pure (decide (((x16.len : Nat) : Int) ≤ (x21.1 : Int)), ())))) fun x28 =>
  HM.ite x28.1 (
  HM.pure (.inr (.inr (false, ())))) (
  HM.bind (α := Addr) (HM.idx x26.1.a x26.1.len 0 26) fun x29 =>
  HM.bind (α := Int × Bool × Bool × Int × Int × ByteArray × ByteArray × Int × Slc × Slc × ByteArray × Bool × Int × Bool × ByteArray × ByteArray × Int × Bool × Slc × Bool × Bool × ByteArray × ByteArray × Bool × Slc × Slc × Unit) (HM.loadN [.int .i64, .bool, .bool, .int .i64, .int .i64, .str, .str, .int .u8, .slc, .slc, .str, .bool, .int .i64, .bool, .str, .str, .int .i64, .bool, .slc, .bool, .bool, .str, .str, .bool, .slc, .slc] x29) fun x30 =>
  HM.bind (α := (Int × Int × Int × Int × Unit) × (ByteArray × ByteArray × Int × Bool × ByteArray × Unit) × Bool × Unit) (HM.callN Tryz.prog [.agg [.int .i64, .int .i64, .int .i64, .int .i64], .agg [.str, .str, .int .i64, .bool, .str], .one .bool] 8 #[.agg #[.int .i64 x30.1, .bool x30.2.1, .bool x30.2.2.1, .int .i64 x30.2.2.2.1, .int .i64 x30.2.2.2.2.1, .string x30.2.2.2.2.2.1, .string x30.2.2.2.2.2.2.1, .int .u8 x30.2.2.2.2.2.2.2.1, .slice x30.2.2.2.2.2.2.2.2.1.a x30.2.2.2.2.2.2.2.2.1.len x30.2.2.2.2.2.2.2.2.1.cap, .slice x30.2.2.2.2.2.2.2.2.2.1.a x30.2.2.2.2.2.2.2.2.2.1.len x30.2.2.2.2.2.2.2.2.2.1.cap, .string x30.2.2.2.2.2.2.2.2.2.2.1, .bool x30.2.2.2.2.2.2.2.2.2.2.2.1, .int .i64 x30.2.2.2.2.2.2.2.2.2.2.2.2.1, .bool x30.2.2.2.2.2.2.2.2.2.2.2.2.2.1, .string x30.2.2.2.2.2.2.2.2.2.2.2.2.2.2.1, .string x30.2.2.2.2.2.2.2.2.2.2.2.2.2.2.2.1, .int .i64 x30.2.2.2.2.2.2.2.2.2.2.2.2.2.2.2.2.1, .bool x30.2.2.2.2.2.2.2.2.2.2.2.2.2.2.2.2.2.1, .slice x30.2.2.2.2.2.2.2.2.2.2.2.2.2.2.2.2.2.2.1.a x30.2.2.2.2.2.2.2.2.2.2.2.2.2.2.2.2.2.2.1.len x30.2.2.2.2.2.2.2.2.2.2.2.2.2.2.2.2.2.2.1.cap, .bool x30.2.2.2.2.2.2.2.2.2.2.2.2.2.2.2.2.2.2.2.1, .bool x30.2.2.2.2.2.2.2.2.2.2.2.2.2.2.2.2.2.2.2.2.1, .string x30.2.2.2.2.2.2.2.2.2.2.2.2.2.2.2.2.2.2.2.2.2.1, .string x30.2.2.2.2.2.2.2.2.2.2.2.2.2.2.2.2.2.2.2.2.2.2.1, .bool x30.2.2.2.2.2.2.2.2.2.2.2.2.2.2.2.2.2.2.2.2.2.2.2.1, .slice x30.2.2.2.2.2.2.2.2.2.2.2.2.2.2.2.2.2.2.2.2.2.2.2.2.1.a x30.2.2.2.2.2.2.2.2.2.2.2.2.2.2.2.2.2.2.2.2.2.2.2.2.1.len x30.2.2.2.2.2.2.2.2.2.2.2.2.2.2.2.2.2.2.2.2.2.2.2.2.1.cap, .slice x30.2.2.2.2.2.2.2.2.2.2.2.2.2.2.2.2.2.2.2.2.2.2.2.2.2.1.a x30.2.2.2.2.2.2.2.2.2.2.2.2.2.2.2.2.2.2.2.2.2.2.2.2.2.1.len x30.2.2.2.2.2.2.2.2.2.2.2.2.2.2.2.2.2.2.2.2.2.2.2.2.2.1.cap]]) fun x31 =>
  HM.bind (α := Nat) (HM.new (.cells #[.int .i64 0, .int .i64 0, .int .i64 0, .int .i64 0] 49)) fun x32 =>
  HM.bind (α := Nat) (HM.new (.cells #[.string (ByteArray.mk #[]), .string (ByteArray.mk #[]), .int .i64 0, .bool false, .string (ByteArray.mk #[])] 50)) fun x33 =>
  HM.bind (α := Unit) (HM.storeN ⟨x32, 0, none⟩ [.int .i64 x31.1.1, .int .i64 x31.1.2.1, .int .i64 x31.1.2.2.1, .int .i64 x31.1.2.2.2.1]) fun _ =>
  HM.bind (α := Unit) (HM.storeN ⟨x33, 0, none⟩ [.string x31.2.1.1, .string x31.2.1.2.1, .int .i64 x31.2.1.2.2.1, .bool x31.2.1.2.2.2.1, .string x31.2.1.2.2.2.2.1]) fun _ =>
  HM.bind (α := Bool × Unit) (HM.ite (!x31.2.2.1) (
  HM.pure (true, ())) (
  HM.bind (α := Int × Int × Unit) (HM.loadN [.int .i64, .int .i64] (Addr.add ⟨x32, 0, none⟩ 0)) fun x34 =>
  HM.bind (α := Int × Int × Unit) (HM.loadN [.int .i64, .int .i64] (Addr.add ⟨x11, 0, none⟩ 0)) fun x35 =>
  HM.ite (!((x34.1 == x35.1) && ((x34.2.1 == x35.2.1) && true))) (
  HM.pure (true, ())) (
  HM.bind (α := Int) (HM.load1 (.int .i64) (Addr.add ⟨x32, 0, none⟩ 2)) fun x36 =>
  HM.bind (α := Int) (HM.load1 (.int .i64) (Addr.add ⟨x11, 0, none⟩ 2)) fun x37 =>
  HM.ite (!(x36 == (IntKind.wrap .i64 (x37 + 1)))) (
  HM.pure (true, ())) (
  HM.bind (α := Int) (HM.load1 (.int .i64) (Addr.add ⟨x32, 0, none⟩ 3)) fun x38 =>
  HM.bind (α := Addr) (HM.idx x16.a x16.len x21.1 3) fun x39 =>
  HM.bind (α := Int) (HM.load1 (.int .i64) (Addr.add x39 2)) fun x40 =>
  HM.ite (!(x38 == x40)) (
  HM.pure (true, ())) (
  HM.bind (α := ByteArray) (HM.load1 .str (Addr.add ⟨x33, 0, none⟩ 0)) fun x41 =>
  HM.bind (α := Addr) (HM.idx x16.a x16.len x21.1 3) fun x42 =>
  HM.bind (α := ByteArray) (HM.load1 .str (Addr.add x42 1)) fun x43 =>
  HM.ite (!(decide (x41 = x43))) (
  HM.pure (true, ())) (
  HM.bind (α := ByteArray) (HM.load1 .str (Addr.add ⟨x33, 0, none⟩ 1)) fun x44 =>
  HM.bind (α := ByteArray) (HM.load1 .str (Addr.add ⟨x2, 0, none⟩ 1)) fun x45 =>
  HM.ite (!(decide (x44 = x45))) (
  HM.pure (true, ())) (
  HM.bind (α := Bool) (HM.load1 .bool (Addr.add ⟨x33, 0, none⟩ 3)) fun x46 =>
  HM.bind (α := Bool) (HM.load1 .bool (Addr.add ⟨x2, 0, none⟩ 3)) fun x47 =>
  HM.ite (!(x46 == x47)) (
  HM.pure (true, ())) (
  HM.bind (α := Int) (HM.load1 (.int .i64) (Addr.add ⟨x33, 0, none⟩ 2)) fun x48 =>
  HM.bind (α := Int) (HM.load1 (.int .i64) (Addr.add ⟨x32, 0, none⟩ 3)) fun x49 =>
  HM.pure (!(x48 == x49), ()))))))))) fun x50 =>
  HM.ite x50.1 (
  HM.pure (.inr (.inr (false, ())))) (
  HM.pure (.inl (IntKind.wrap .i64 (x21.1 + 1), IntKind.wrap .i64 (x21.2.1 + 1), ())))))) (
  HM.pure (.inr (.inl (x21.1, x21.2.1, ()))))) (0, 0, ())) (Sum.elim (fun x20 =>
  HM.bind (α := Bool × Unit) (HM.ite (x20.1 == ((x16.len : Nat) : Int)) (
  HM.pure (true, ())) (
  HM.bind (α := Int × Int × Int × Int × Unit) (HM.loadN [.int .i64, .int .i64, .int .i64, .int .i64] ⟨x11, 0, none⟩) fun x51 =>
  HM.bind (α := ByteArray) (HM.call1 Tryz.prog (.one .str) 29 #[.agg #[.int .i64 x51.1, .int .i64 x51.2.1, .int .i64 x51.2.2.1, .int .i64 x51.2.2.2.1]]) fun x52 =>
  HM.ite (decide (x52 = (ByteArray.mk #[]))) (
  HM.pure (true, ())) (
  HM.bind (α := Int) (HM.load1 (.int .i64) (Addr.add ⟨x11, 0, none⟩ 2)) fun x53 =>
  HM.pure (decide (32 ≤ (x53 : Int)), ())))) fun x54 =>
  HM.pure (x54.1, ())) HM.pure))
theorem law23_BridgeCarries_den (p0 : Slc) (p1 : Int × Int × Int × Int × Unit) (p2 : ByteArray × ByteArray × Int × Bool × ByteArray × Unit) : denFn Tryz.prog [11, 12, 10, 20, 14, 28, 16, 23, 8, 29] 172 [0, 1, 2, 4, 5, 6, 7, 9, 10, 11, 13, 14, 16, 17, 18, 19, 20, 21, 37, 58, 59, 60, 61, 71, 88, 154] [0, 1, 2, 4, 5, 7, 9, 10, 11, 13, 14, 16, 17, 18, 19, 20, 21, 37, 58, 59, 60, 61, 71, 88, 154] Tryz.f7.results.toList [.one .bool] (bodyOf Tryz.f7) [Kind.val (.one .slc) p0, Kind.val (.agg [.int .i64, .int .i64, .int .i64, .int .i64]) p1, Kind.val (.agg [.str, .str, .int .i64, .bool, .str]) p2] = law23_BridgeCarries p0 p1 p2 := by kernel_rfl
theorem law23_BridgeCarries_calls (p0 : Slc) (p1 : Int × Int × Int × Int × Unit) (p2 : ByteArray × ByteArray × Int × Bool × ByteArray × Unit) (h : Heap) (Q : Value → Heap → Prop) (hh : law23_BridgeCarries p0 p1 p2 h fun x h' => Q (.bool x.1) h') :
    HCalls Tryz.prog 7 #[.slice p0.a p0.len p0.cap, .agg #[.int .i64 p1.1, .int .i64 p1.2.1, .int .i64 p1.2.2.1, .int .i64 p1.2.2.2.1], .agg #[.string p2.1, .string p2.2.1, .int .i64 p2.2.2.1, .bool p2.2.2.2.1, .string p2.2.2.2.2.1]] h Q :=
  calls_of_eq Tryz.func7 (by kernel_rfl) Tryz.ntmps7 (by kernel_rfl) (CC Tryz.call11 (CC Tryz.call12 (CC Tryz.call10 (CC Tryz.call20 (CC Tryz.call14 (CC Tryz.call28 (CC Tryz.call16 (CC Tryz.call23 (CC Tryz.call8 (CC Tryz.call29 CN)))))))))) orders (law23_BridgeCarries_den p0 p1 p2) hh
def bridge_Arrived (p0 : Int × Bool × Bool × Int × Int × ByteArray × ByteArray × Int × Slc × Slc × ByteArray × Bool × Int × Bool × ByteArray × ByteArray × Int × Bool × Slc × Bool × Bool × ByteArray × ByteArray × Bool × Slc × Slc × Unit) : HM ((Int × Int × Int × Int × Unit) × (ByteArray × ByteArray × Int × Bool × ByteArray × Unit) × Bool × Unit) :=
  HM.bind (α := Nat) (HM.new (.cells #[.int .i64 p0.1, .bool p0.2.1, .bool p0.2.2.1, .int .i64 p0.2.2.2.1, .int .i64 p0.2.2.2.2.1, .string p0.2.2.2.2.2.1, .string p0.2.2.2.2.2.2.1, .int .u8 p0.2.2.2.2.2.2.2.1, .slice p0.2.2.2.2.2.2.2.2.1.a p0.2.2.2.2.2.2.2.2.1.len p0.2.2.2.2.2.2.2.2.1.cap, .slice p0.2.2.2.2.2.2.2.2.2.1.a p0.2.2.2.2.2.2.2.2.2.1.len p0.2.2.2.2.2.2.2.2.2.1.cap, .string p0.2.2.2.2.2.2.2.2.2.2.1, .bool p0.2.2.2.2.2.2.2.2.2.2.2.1, .int .i64 p0.2.2.2.2.2.2.2.2.2.2.2.2.1, .bool p0.2.2.2.2.2.2.2.2.2.2.2.2.2.1, .string p0.2.2.2.2.2.2.2.2.2.2.2.2.2.2.1, .string p0.2.2.2.2.2.2.2.2.2.2.2.2.2.2.2.1, .int .i64 p0.2.2.2.2.2.2.2.2.2.2.2.2.2.2.2.2.1, .bool p0.2.2.2.2.2.2.2.2.2.2.2.2.2.2.2.2.2.1, .slice p0.2.2.2.2.2.2.2.2.2.2.2.2.2.2.2.2.2.2.1.a p0.2.2.2.2.2.2.2.2.2.2.2.2.2.2.2.2.2.2.1.len p0.2.2.2.2.2.2.2.2.2.2.2.2.2.2.2.2.2.2.1.cap, .bool p0.2.2.2.2.2.2.2.2.2.2.2.2.2.2.2.2.2.2.2.1, .bool p0.2.2.2.2.2.2.2.2.2.2.2.2.2.2.2.2.2.2.2.2.1, .string p0.2.2.2.2.2.2.2.2.2.2.2.2.2.2.2.2.2.2.2.2.2.1, .string p0.2.2.2.2.2.2.2.2.2.2.2.2.2.2.2.2.2.2.2.2.2.2.1, .bool p0.2.2.2.2.2.2.2.2.2.2.2.2.2.2.2.2.2.2.2.2.2.2.2.1, .slice p0.2.2.2.2.2.2.2.2.2.2.2.2.2.2.2.2.2.2.2.2.2.2.2.2.1.a p0.2.2.2.2.2.2.2.2.2.2.2.2.2.2.2.2.2.2.2.2.2.2.2.2.1.len p0.2.2.2.2.2.2.2.2.2.2.2.2.2.2.2.2.2.2.2.2.2.2.2.2.1.cap, .slice p0.2.2.2.2.2.2.2.2.2.2.2.2.2.2.2.2.2.2.2.2.2.2.2.2.2.1.a p0.2.2.2.2.2.2.2.2.2.2.2.2.2.2.2.2.2.2.2.2.2.2.2.2.2.1.len p0.2.2.2.2.2.2.2.2.2.2.2.2.2.2.2.2.2.2.2.2.2.2.2.2.2.1.cap] 34)) fun x1 =>
  HM.bind (α := Nat) (HM.new (.cells #[.int .i64 0, .int .i64 0, .int .i64 0, .int .i64 0] 49)) fun x2 =>
  HM.bind (α := Nat) (HM.new (.cells #[.string (ByteArray.mk #[]), .string (ByteArray.mk #[]), .int .i64 0, .bool false, .string (ByteArray.mk #[])] 50)) fun x3 =>
  HM.bind (α := Slc) (HM.load1 .slc (Addr.add ⟨x1, 0, none⟩ 9)) fun x4 =>
  HM.bind (α := Slc) (HM.call1 Tryz.prog (.one .slc) 30 #[.slice x4.a x4.len x4.cap, .string (ByteArray.mk #[116, 97, 103])]) fun x5 =>
  HM.bind (α := Bool × Unit) (HM.bind (α := Int) (HM.load1 (.int .i64) (Addr.add ⟨x1, 0, none⟩ 0)) fun x6 =>
  HM.ite (!(x6 == 3)) (
  HM.pure (true, ())) (
  HM.pure (!(((x5.len : Nat) : Int) == 1), ()))) fun x7 =>
  HM.ite x7.1 (
  HM.bind (α := Unit) (HM.storeN ⟨x2, 0, none⟩ [.int .i64 0, .int .i64 0, .int .i64 0, .int .i64 0]) fun _ =>
  HM.bind (α := Unit) (HM.storeN ⟨x3, 0, none⟩ [.string (ByteArray.mk #[]), .string (ByteArray.mk #[]), .int .i64 0, .bool false, .string (ByteArray.mk #[])]) fun _ =>
  HM.bind (α := Int × Int × Int × Int × Unit) (HM.loadN [.int .i64, .int .i64, .int .i64, .int .i64] ⟨x2, 0, none⟩) fun x8 =>
  HM.bind (α := ByteArray × ByteArray × Int × Bool × ByteArray × Unit) (HM.loadN [.str, .str, .int .i64, .bool, .str] ⟨x3, 0, none⟩) fun x9 =>
  HM.pure ((x8.1, x8.2.1, x8.2.2.1, x8.2.2.2.1, ()), (x9.1, x9.2.1, x9.2.2.1, x9.2.2.2.1, x9.2.2.2.2.1, ()), false, ())) (
  HM.bind (α := Addr) (HM.idx x5.a x5.len 0 1) fun x10 =>
  HM.bind (α := ByteArray) (HM.load1 .str x10) fun x11 =>
  HM.bind (α := (Int × Int × Int × Int × Unit) × Bool × Unit) (HM.callN Tryz.prog [.agg [.int .i64, .int .i64, .int .i64, .int .i64], .one .bool] 31 #[.string x11]) fun x12 =>
  HM.bind (α := Nat) (HM.new (.cells #[.int .i64 0, .int .i64 0, .int .i64 0, .int .i64 0] 49)) fun x13 =>
  HM.bind (α := Unit) (HM.storeN ⟨x13, 0, none⟩ [.int .i64 x12.1.1, .int .i64 x12.1.2.1, .int .i64 x12.1.2.2.1, .int .i64 x12.1.2.2.2.1]) fun _ =>
  HM.ite (!x12.2.1) (
  HM.bind (α := Unit) (HM.storeN ⟨x2, 0, none⟩ [.int .i64 0, .int .i64 0, .int .i64 0, .int .i64 0]) fun _ =>
  HM.bind (α := Unit) (HM.storeN ⟨x3, 0, none⟩ [.string (ByteArray.mk #[]), .string (ByteArray.mk #[]), .int .i64 0, .bool false, .string (ByteArray.mk #[])]) fun _ =>
  HM.bind (α := Int × Int × Int × Int × Unit) (HM.loadN [.int .i64, .int .i64, .int .i64, .int .i64] ⟨x2, 0, none⟩) fun x14 =>
  HM.bind (α := ByteArray × ByteArray × Int × Bool × ByteArray × Unit) (HM.loadN [.str, .str, .int .i64, .bool, .str] ⟨x3, 0, none⟩) fun x15 =>
  HM.pure ((x14.1, x14.2.1, x14.2.2.1, x14.2.2.2.1, ()), (x15.1, x15.2.1, x15.2.2.1, x15.2.2.2.1, x15.2.2.2.2.1, ()), false, ())) (
  HM.bind (α := Int × Int × Int × Int × Unit) (HM.loadN [.int .i64, .int .i64, .int .i64, .int .i64] ⟨x13, 0, none⟩) fun x16 =>
  HM.bind (α := ByteArray) (HM.load1 .str (Addr.add ⟨x1, 0, none⟩ 5)) fun x17 =>
  HM.bind (α := ByteArray) (HM.load1 .str (Addr.add ⟨x1, 0, none⟩ 6)) fun x18 =>
  HM.bind (α := Int) (HM.load1 (.int .i64) (Addr.add ⟨x13, 0, none⟩ 3)) fun x19 =>
  HM.bind (α := Bool) (HM.load1 .bool (Addr.add ⟨x1, 0, none⟩ 2)) fun x20 =>
  HM.bind (α := Unit) (HM.storeN ⟨x2, 0, none⟩ [.int .i64 x16.1, .int .i64 x16.2.1, .int .i64 x16.2.2.1, .int .i64 x16.2.2.2.1]) fun _ =>
  HM.bind (α := Bool) (HM.load1 .bool (Addr.add ⟨x1, 0, none⟩ 2)) fun x21 =>
  HM.req ((.bool x21 : Value) = .bool x20) <|
  HM.bind (α := Int) (HM.load1 (.int .i64) (Addr.add ⟨x13, 0, none⟩ 3)) fun x22 =>
  HM.req ((.int .i64 x22 : Value) = .int .i64 x19) <|
  HM.bind (α := ByteArray) (HM.load1 .str (Addr.add ⟨x1, 0, none⟩ 6)) fun x23 =>
  HM.req ((.string x23 : Value) = .string x18) <|
  HM.bind (α := ByteArray) (HM.load1 .str (Addr.add ⟨x1, 0, none⟩ 5)) fun x24 =>
  HM.req ((.string x24 : Value) = .string x17) <|
  HM.bind (α := Unit) (HM.storeN ⟨x3, 0, none⟩ [.string x17, .string x18, .int .i64 x19, .bool x20, .string (ByteArray.mk #[])]) fun _ =>
  HM.bind (α := Int × Int × Int × Int × Unit) (HM.loadN [.int .i64, .int .i64, .int .i64, .int .i64] ⟨x2, 0, none⟩) fun x25 =>
  HM.bind (α := ByteArray × ByteArray × Int × Bool × ByteArray × Unit) (HM.loadN [.str, .str, .int .i64, .bool, .str] ⟨x3, 0, none⟩) fun x26 =>
  HM.pure ((x25.1, x25.2.1, x25.2.2.1, x25.2.2.2.1, ()), (x26.1, x26.2.1, x26.2.2.1, x26.2.2.2.1, x26.2.2.2.2.1, ()), true, ())))
theorem bridge_Arrived_den (p0 : Int × Bool × Bool × Int × Int × ByteArray × ByteArray × Int × Slc × Slc × ByteArray × Bool × Int × Bool × ByteArray × ByteArray × Int × Bool × Slc × Bool × Bool × ByteArray × ByteArray × Bool × Slc × Slc × Unit) : denFn Tryz.prog [30, 31] 42 [0, 1, 2, 3, 4, 5, 6, 7, 18, 29] [0, 1, 2, 3, 5, 6, 7, 18, 29] Tryz.f8.results.toList [.agg [.int .i64, .int .i64, .int .i64, .int .i64], .agg [.str, .str, .int .i64, .bool, .str], .one .bool] (bodyOf Tryz.f8) [Kind.val (.agg [.int .i64, .bool, .bool, .int .i64, .int .i64, .str, .str, .int .u8, .slc, .slc, .str, .bool, .int .i64, .bool, .str, .str, .int .i64, .bool, .slc, .bool, .bool, .str, .str, .bool, .slc, .slc]) p0] = bridge_Arrived p0 := by kernel_rfl
theorem bridge_Arrived_calls (p0 : Int × Bool × Bool × Int × Int × ByteArray × ByteArray × Int × Slc × Slc × ByteArray × Bool × Int × Bool × ByteArray × ByteArray × Int × Bool × Slc × Bool × Bool × ByteArray × ByteArray × Bool × Slc × Slc × Unit) (h : Heap) (Q : Value → Heap → Prop) (hh : bridge_Arrived p0 h fun x h' => Q (.tuple #[.agg #[.int .i64 x.1.1, .int .i64 x.1.2.1, .int .i64 x.1.2.2.1, .int .i64 x.1.2.2.2.1], .agg #[.string x.2.1.1, .string x.2.1.2.1, .int .i64 x.2.1.2.2.1, .bool x.2.1.2.2.2.1, .string x.2.1.2.2.2.2.1], .bool x.2.2.1]) h') :
    HCalls Tryz.prog 8 #[.agg #[.int .i64 p0.1, .bool p0.2.1, .bool p0.2.2.1, .int .i64 p0.2.2.2.1, .int .i64 p0.2.2.2.2.1, .string p0.2.2.2.2.2.1, .string p0.2.2.2.2.2.2.1, .int .u8 p0.2.2.2.2.2.2.2.1, .slice p0.2.2.2.2.2.2.2.2.1.a p0.2.2.2.2.2.2.2.2.1.len p0.2.2.2.2.2.2.2.2.1.cap, .slice p0.2.2.2.2.2.2.2.2.2.1.a p0.2.2.2.2.2.2.2.2.2.1.len p0.2.2.2.2.2.2.2.2.2.1.cap, .string p0.2.2.2.2.2.2.2.2.2.2.1, .bool p0.2.2.2.2.2.2.2.2.2.2.2.1, .int .i64 p0.2.2.2.2.2.2.2.2.2.2.2.2.1, .bool p0.2.2.2.2.2.2.2.2.2.2.2.2.2.1, .string p0.2.2.2.2.2.2.2.2.2.2.2.2.2.2.1, .string p0.2.2.2.2.2.2.2.2.2.2.2.2.2.2.2.1, .int .i64 p0.2.2.2.2.2.2.2.2.2.2.2.2.2.2.2.2.1, .bool p0.2.2.2.2.2.2.2.2.2.2.2.2.2.2.2.2.2.1, .slice p0.2.2.2.2.2.2.2.2.2.2.2.2.2.2.2.2.2.2.1.a p0.2.2.2.2.2.2.2.2.2.2.2.2.2.2.2.2.2.2.1.len p0.2.2.2.2.2.2.2.2.2.2.2.2.2.2.2.2.2.2.1.cap, .bool p0.2.2.2.2.2.2.2.2.2.2.2.2.2.2.2.2.2.2.2.1, .bool p0.2.2.2.2.2.2.2.2.2.2.2.2.2.2.2.2.2.2.2.2.1, .string p0.2.2.2.2.2.2.2.2.2.2.2.2.2.2.2.2.2.2.2.2.2.1, .string p0.2.2.2.2.2.2.2.2.2.2.2.2.2.2.2.2.2.2.2.2.2.2.1, .bool p0.2.2.2.2.2.2.2.2.2.2.2.2.2.2.2.2.2.2.2.2.2.2.2.1, .slice p0.2.2.2.2.2.2.2.2.2.2.2.2.2.2.2.2.2.2.2.2.2.2.2.2.1.a p0.2.2.2.2.2.2.2.2.2.2.2.2.2.2.2.2.2.2.2.2.2.2.2.2.1.len p0.2.2.2.2.2.2.2.2.2.2.2.2.2.2.2.2.2.2.2.2.2.2.2.2.1.cap, .slice p0.2.2.2.2.2.2.2.2.2.2.2.2.2.2.2.2.2.2.2.2.2.2.2.2.2.1.a p0.2.2.2.2.2.2.2.2.2.2.2.2.2.2.2.2.2.2.2.2.2.2.2.2.2.1.len p0.2.2.2.2.2.2.2.2.2.2.2.2.2.2.2.2.2.2.2.2.2.2.2.2.2.1.cap]] h Q :=
  calls_of_eq Tryz.func8 (by kernel_rfl) Tryz.ntmps8 (by kernel_rfl) (CC Tryz.call30 (CC Tryz.call31 CN)) orders (bridge_Arrived_den p0) hh
def law23_wakes : HM (Bool × Unit) :=
  HM.bind (α := Nat) (HM.new (.cells #[.string (ByteArray.mk #[35]), .int .i64 0, .int .i64 1, .string (ByteArray.mk #[]), .string (ByteArray.mk #[120, 47])] 123)) fun x1 =>
  HM.bind (α := Option Addr × Int × Unit) (HM.callN Tryz.prog [.one .ptr, .one (.int .u8)] 12 #[.slice (some ⟨x1, 0, none⟩) 1 1]) fun x2 =>
  HM.bind (α := Slc) (HM.call1 Tryz.prog (.one .slc) 16 #[.pointer x2.1, .agg #[.int .i64 0, .int .i64 5, .int .i64 0, .int .i64 2], .agg #[.string (ByteArray.mk #[97]), .string (ByteArray.mk #[112]), .int .i64 0, .bool false, .string (ByteArray.mk #[])]]) fun x3 =>
  HM.bind (α := Bool × Unit) (HM.ite (x2.2.1 == 0) (
  HM.ite (((x3.len : Nat) : Int) == 1) (
  HM.bind (α := Addr) (HM.idx x3.a x3.len 0 5) fun x4 =>
  HM.bind (α := ByteArray × ByteArray × Int × Bool × ByteArray × Unit) (HM.loadN [.str, .str, .int .i64, .bool, .str] x4) fun x5 =>
  HM.ite ((decide (x5.1 = (ByteArray.mk #[120, 47, 97]))) && ((decide (x5.2.1 = (ByteArray.mk #[112]))) && ((x5.2.2.1 == 1) && ((x5.2.2.2.1 == false) && ((decide (x5.2.2.2.2.1 = (ByteArray.mk #[48, 46, 53, 46, 49, 46, 49]))) && true))))) (
  HM.bind (α := Int) (HM.call1 Tryz.prog (.one (.int .i64)) 34 #[.int .i64 2, .int .i64 10, .int .i64 100, .int .u64 7]) fun x6 =>
  HM.pure (x6 == 47, ())) (
  HM.pure (false, ()))) (
  HM.pure (false, ()))) (
  HM.pure (false, ()))) fun x7 =>
  HM.pure (x7.1, ())
theorem law23_wakes_den : denFn Tryz.prog [12, 16, 34] 33 [0, 1, 2, 3] [1, 2, 3] Tryz.f10.results.toList [.one .bool] (bodyOf Tryz.f10) [] = law23_wakes := by kernel_rfl
theorem law23_wakes_calls (h : Heap) (Q : Value → Heap → Prop) (hh : law23_wakes h fun x h' => Q (.bool x.1) h') :
    HCalls Tryz.prog 10 #[] h Q :=
  calls_of_eq Tryz.func10 (by kernel_rfl) Tryz.ntmps10 (by kernel_rfl) (CC Tryz.call12 (CC Tryz.call16 (CC Tryz.call34 CN))) orders (law23_wakes_den) hh
def law23_rules (p0 : Slc) : HM (Slc × Slc × Unit) :=
  HM.bind (α := Slc) (HM.slice p0 none (some (if 20 < (((p0.len : Nat) : Int) : Int) then 20 else ((p0.len : Nat) : Int))) none 5) fun x1 =>
  HM.bind (α := Slc × Slc × Int × Unit) (HM.loop (σ := Slc × Slc × Int × Unit) (τ := Slc × Slc × Int × Unit) (fun x3 =>
  HM.ite (decide (x3.2.2.1 < (((x1.len : Nat) : Int) : Int))) (
  HM.bind (α := Addr) (HM.idx x1.a x1.len x3.2.2.1 5) fun x4 =>
  HM.bind (α := ByteArray × Int × Int × ByteArray × ByteArray × Unit) (HM.loadN [.str, .int .i64, .int .i64, .str, .str] x4) fun x5 =>
  HM.bind (α := Nat) (HM.new (.cells #[.string (ByteArray.mk #[]), .int .i64 0, .int .i64 0, .string (ByteArray.mk #[]), .string (ByteArray.mk #[])] 127)) fun x6 =>
  HM.bind (α := Unit) (HM.storeN ⟨x6, 0, none⟩ [.string x5.1, .int .i64 x5.2.1, .int .i64 x5.2.2.1, .string x5.2.2.2.1, .string x5.2.2.2.2.1]) fun _ =>
  HM.bind (α := ByteArray × Int × Int × ByteArray × ByteArray × Unit) (HM.loadN [.str, .int .i64, .int .i64, .str, .str] ⟨x6, 0, none⟩) fun x7 =>
  HM.bind (α := (ByteArray × Int × Int × ByteArray × ByteArray × Unit) × (ByteArray × Int × Int × ByteArray × ByteArray × Unit) × Unit) (HM.callN Tryz.prog [.agg [.str, .int .i64, .int .i64, .str, .str], .agg [.str, .int .i64, .int .i64, .str, .str]] 35 #[.agg #[.string x7.1, .int .i64 x7.2.1, .int .i64 x7.2.2.1, .string x7.2.2.2.1, .string x7.2.2.2.2.1]]) fun x8 =>
  HM.bind (α := Nat) (HM.new (.cells #[.string (ByteArray.mk #[]), .int .i64 0, .int .i64 0, .string (ByteArray.mk #[]), .string (ByteArray.mk #[])] 123)) fun x9 =>
  HM.bind (α := Nat) (HM.new (.cells #[.string (ByteArray.mk #[]), .int .i64 0, .int .i64 0, .string (ByteArray.mk #[]), .string (ByteArray.mk #[])] 128)) fun x10 =>
  HM.bind (α := Unit) (HM.storeN ⟨x9, 0, none⟩ [.string x8.1.1, .int .i64 x8.1.2.1, .int .i64 x8.1.2.2.1, .string x8.1.2.2.2.1, .string x8.1.2.2.2.2.1]) fun _ =>
  HM.bind (α := Unit) (HM.storeN ⟨x10, 0, none⟩ [.string x8.2.1.1, .int .i64 x8.2.1.2.1, .int .i64 x8.2.1.2.2.1, .string x8.2.1.2.2.2.1, .string x8.2.1.2.2.2.2.1]) fun _ =>
  HM.bind (α := ByteArray × Int × Int × ByteArray × ByteArray × Unit) (HM.loadN [.str, .int .i64, .int .i64, .str, .str] ⟨x9, 0, none⟩) fun x11 =>
  HM.bind (α := ByteArray × Int × Int × ByteArray × ByteArray × Unit) (HM.loadN [.str, .int .i64, .int .i64, .str, .str] ⟨x10, 0, none⟩) fun x12 =>
  HM.both (
  HM.bind (α := Nat) (HM.new (.cells #[.string x11.1, .int .i64 x11.2.1, .int .i64 x11.2.2.1, .string x11.2.2.2.1, .string x11.2.2.2.2.1] 123)) fun x13 =>
  HM.bind (α := ByteArray × Int × Int × ByteArray × ByteArray × Unit) (HM.loadN [.str, .int .i64, .int .i64, .str, .str] ⟨x10, 0, none⟩) fun x14 =>
  HM.req ((.agg #[.string x14.1, .int .i64 x14.2.1, .int .i64 x14.2.2.1, .string x14.2.2.2.1, .string x14.2.2.2.2.1] : Value) = .agg #[.string x12.1, .int .i64 x12.2.1, .int .i64 x12.2.2.1, .string x12.2.2.2.1, .string x12.2.2.2.2.1]) <|
  HM.both (
  HM.bind (α := Slc) (HM.append 123 5 64 #[.string (ByteArray.mk #[]), .int .i64 0, .int .i64 0, .string (ByteArray.mk #[]), .string (ByteArray.mk #[])] x3.1 1 (srcSlc 5 (⟨some ⟨x13, 0, none⟩, 1, 1⟩))) fun x15 =>
  HM.bind (α := ByteArray × Int × Int × ByteArray × ByteArray × Unit) (HM.loadN [.str, .int .i64, .int .i64, .str, .str] ⟨x10, 0, none⟩) fun x16 =>
  HM.req ((.agg #[.string x16.1, .int .i64 x16.2.1, .int .i64 x16.2.2.1, .string x16.2.2.2.1, .string x16.2.2.2.2.1] : Value) = .agg #[.string x12.1, .int .i64 x12.2.1, .int .i64 x12.2.2.1, .string x12.2.2.2.1, .string x12.2.2.2.2.1]) <|
  HM.bind (α := Nat) (HM.new (.cells #[.string x12.1, .int .i64 x12.2.1, .int .i64 x12.2.2.1, .string x12.2.2.2.1, .string x12.2.2.2.2.1] 128)) fun x17 =>
  HM.bind (α := ByteArray × Int × Int × ByteArray × ByteArray × Unit) (HM.loadN [.str, .int .i64, .int .i64, .str, .str] ⟨x9, 0, none⟩) fun x18 =>
  HM.req ((.agg #[.string x18.1, .int .i64 x18.2.1, .int .i64 x18.2.2.1, .string x18.2.2.2.1, .string x18.2.2.2.2.1] : Value) = .agg #[.string x11.1, .int .i64 x11.2.1, .int .i64 x11.2.2.1, .string x11.2.2.2.1, .string x11.2.2.2.2.1]) <|
  HM.bind (α := Slc) (HM.append 128 5 64 #[.string (ByteArray.mk #[]), .int .i64 0, .int .i64 0, .string (ByteArray.mk #[]), .string (ByteArray.mk #[])] x3.2.1 1 (srcSlc 5 (⟨some ⟨x17, 0, none⟩, 1, 1⟩))) fun x19 =>
  HM.pure (.inl (x15, x19, IntKind.wrap .i64 (x3.2.2.1 + 1), ()))) (
  HM.bind (α := Nat) (HM.new (.cells #[.string x12.1, .int .i64 x12.2.1, .int .i64 x12.2.2.1, .string x12.2.2.2.1, .string x12.2.2.2.2.1] 128)) fun x20 =>
  HM.bind (α := ByteArray × Int × Int × ByteArray × ByteArray × Unit) (HM.loadN [.str, .int .i64, .int .i64, .str, .str] ⟨x9, 0, none⟩) fun x21 =>
  HM.req ((.agg #[.string x21.1, .int .i64 x21.2.1, .int .i64 x21.2.2.1, .string x21.2.2.2.1, .string x21.2.2.2.2.1] : Value) = .agg #[.string x11.1, .int .i64 x11.2.1, .int .i64 x11.2.2.1, .string x11.2.2.2.1, .string x11.2.2.2.2.1]) <|
  HM.bind (α := Slc) (HM.append 123 5 64 #[.string (ByteArray.mk #[]), .int .i64 0, .int .i64 0, .string (ByteArray.mk #[]), .string (ByteArray.mk #[])] x3.1 1 (srcSlc 5 (⟨some ⟨x13, 0, none⟩, 1, 1⟩))) fun x22 =>
  HM.bind (α := ByteArray × Int × Int × ByteArray × ByteArray × Unit) (HM.loadN [.str, .int .i64, .int .i64, .str, .str] ⟨x10, 0, none⟩) fun x23 =>
  HM.req ((.agg #[.string x23.1, .int .i64 x23.2.1, .int .i64 x23.2.2.1, .string x23.2.2.2.1, .string x23.2.2.2.2.1] : Value) = .agg #[.string x12.1, .int .i64 x12.2.1, .int .i64 x12.2.2.1, .string x12.2.2.2.1, .string x12.2.2.2.2.1]) <|
  HM.bind (α := Slc) (HM.append 128 5 64 #[.string (ByteArray.mk #[]), .int .i64 0, .int .i64 0, .string (ByteArray.mk #[]), .string (ByteArray.mk #[])] x3.2.1 1 (srcSlc 5 (⟨some ⟨x20, 0, none⟩, 1, 1⟩))) fun x24 =>
  HM.pure (.inl (x22, x24, IntKind.wrap .i64 (x3.2.2.1 + 1), ())))) (
  HM.bind (α := Nat) (HM.new (.cells #[.string x12.1, .int .i64 x12.2.1, .int .i64 x12.2.2.1, .string x12.2.2.2.1, .string x12.2.2.2.2.1] 128)) fun x25 =>
  HM.bind (α := ByteArray × Int × Int × ByteArray × ByteArray × Unit) (HM.loadN [.str, .int .i64, .int .i64, .str, .str] ⟨x9, 0, none⟩) fun x26 =>
  HM.req ((.agg #[.string x26.1, .int .i64 x26.2.1, .int .i64 x26.2.2.1, .string x26.2.2.2.1, .string x26.2.2.2.2.1] : Value) = .agg #[.string x11.1, .int .i64 x11.2.1, .int .i64 x11.2.2.1, .string x11.2.2.2.1, .string x11.2.2.2.2.1]) <|
  HM.bind (α := Nat) (HM.new (.cells #[.string x11.1, .int .i64 x11.2.1, .int .i64 x11.2.2.1, .string x11.2.2.2.1, .string x11.2.2.2.2.1] 123)) fun x27 =>
  HM.bind (α := ByteArray × Int × Int × ByteArray × ByteArray × Unit) (HM.loadN [.str, .int .i64, .int .i64, .str, .str] ⟨x10, 0, none⟩) fun x28 =>
  HM.req ((.agg #[.string x28.1, .int .i64 x28.2.1, .int .i64 x28.2.2.1, .string x28.2.2.2.1, .string x28.2.2.2.2.1] : Value) = .agg #[.string x12.1, .int .i64 x12.2.1, .int .i64 x12.2.2.1, .string x12.2.2.2.1, .string x12.2.2.2.2.1]) <|
  HM.bind (α := Slc) (HM.append 123 5 64 #[.string (ByteArray.mk #[]), .int .i64 0, .int .i64 0, .string (ByteArray.mk #[]), .string (ByteArray.mk #[])] x3.1 1 (srcSlc 5 (⟨some ⟨x27, 0, none⟩, 1, 1⟩))) fun x29 =>
  HM.bind (α := ByteArray × Int × Int × ByteArray × ByteArray × Unit) (HM.loadN [.str, .int .i64, .int .i64, .str, .str] ⟨x10, 0, none⟩) fun x30 =>
  HM.req ((.agg #[.string x30.1, .int .i64 x30.2.1, .int .i64 x30.2.2.1, .string x30.2.2.2.1, .string x30.2.2.2.2.1] : Value) = .agg #[.string x12.1, .int .i64 x12.2.1, .int .i64 x12.2.2.1, .string x12.2.2.2.1, .string x12.2.2.2.2.1]) <|
  HM.bind (α := Slc) (HM.append 128 5 64 #[.string (ByteArray.mk #[]), .int .i64 0, .int .i64 0, .string (ByteArray.mk #[]), .string (ByteArray.mk #[])] x3.2.1 1 (srcSlc 5 (⟨some ⟨x25, 0, none⟩, 1, 1⟩))) fun x31 =>
  HM.pure (.inl (x29, x31, IntKind.wrap .i64 (x3.2.2.1 + 1), ())))) (
  HM.pure (.inr (x3.1, x3.2.1, x3.2.2.1, ())))) (⟨none, 0, 0⟩, ⟨none, 0, 0⟩, 0, ())) fun x2 =>
  HM.pure (x2.1, x2.2.1, ())
theorem law23_rules_den (p0 : Slc) : denFn Tryz.prog [35] 36 [0, 2, 3, 4, 5, 7, 8, 9, 14, 15, 16, 17] [0, 4, 5, 7, 8, 9, 14, 15, 16, 17] Tryz.f11.results.toList [.one .slc, .one .slc] (bodyOf Tryz.f11) [Kind.val (.one .slc) p0] = law23_rules p0 := by kernel_rfl
theorem law23_rules_calls (p0 : Slc) (h : Heap) (Q : Value → Heap → Prop) (hh : law23_rules p0 h fun x h' => Q (.tuple #[.slice x.1.a x.1.len x.1.cap, .slice x.2.1.a x.2.1.len x.2.1.cap]) h') :
    HCalls Tryz.prog 11 #[.slice p0.a p0.len p0.cap] h Q :=
  calls_of_eq Tryz.func11 (by kernel_rfl) Tryz.ntmps11 (by kernel_rfl) (CC Tryz.call35 CN) orders (law23_rules_den p0) hh
def bridge_New (p0 : Slc) : HM (Option Addr × Int × Unit) :=
  HM.ite (decide (16 < (((p0.len : Nat) : Int) : Int))) (
  HM.pure (none, 149, ())) (
  HM.bind (α := (Int × Unit) ⊕ (Option Addr × Int × Unit)) (HM.loop (σ := Int × Unit) (τ := (Int × Unit) ⊕ (Option Addr × Int × Unit)) (fun x2 =>
  HM.ite (decide (x2.1 < (((p0.len : Nat) : Int) : Int))) (
  HM.bind (α := Addr) (HM.idx p0.a p0.len x2.1 5) fun x3 =>
  HM.bind (α := ByteArray × Int × Int × ByteArray × ByteArray × Unit) (HM.loadN [.str, .int .i64, .int .i64, .str, .str] x3) fun x4 =>
  HM.bind (α := Nat) (HM.new (.cells #[.string (ByteArray.mk #[]), .int .i64 0, .int .i64 0, .string (ByteArray.mk #[]), .string (ByteArray.mk #[])] 123)) fun x5 =>
  HM.bind (α := Unit) (HM.storeN ⟨x5, 0, none⟩ [.string x4.1, .int .i64 x4.2.1, .int .i64 x4.2.2.1, .string x4.2.2.2.1, .string x4.2.2.2.2.1]) fun _ =>
  HM.bind (α := ByteArray × Int × Int × ByteArray × ByteArray × Unit) (HM.loadN [.str, .int .i64, .int .i64, .str, .str] ⟨x5, 0, none⟩) fun x6 =>
  HM.bind (α := Int) (HM.call1 Tryz.prog (.one (.int .u8)) 36 #[.agg #[.string x6.1, .int .i64 x6.2.1, .int .i64 x6.2.2.1, .string x6.2.2.2.1, .string x6.2.2.2.2.1]]) fun x7 =>
  HM.ite (!(x7 == 0)) (
  HM.pure (.inr (.inr (none, x7, ())))) (
  HM.pure (.inl (IntKind.wrap .i64 (x2.1 + 1), ())))) (
  HM.pure (.inr (.inl (x2.1, ()))))) (0, ())) (Sum.elim (fun x1 =>
  HM.bind (α := Slc) (HM.call1 Tryz.prog (.one .slc) 37 #[.slice p0.a p0.len p0.cap]) fun x8 =>
  HM.bind (α := Option Addr) (HM.call1 Tryz.prog (.one .ptr) 38 #[.int .i64 64]) fun x9 =>
  HM.bind (α := Nat) (HM.new (.cells #[.slice x8.a x8.len x8.cap, .pointer x9] 136)) fun x10 =>
  HM.pure (some ⟨x10, 0, none⟩, 0, ())) HM.pure))
theorem bridge_New_den (p0 : Slc) : denFn Tryz.prog [36, 37, 38] 27 [0, 2, 3, 5, 6, 9, 10, 11, 12, 13, 19] [0, 5, 6, 9, 10, 11, 12, 13, 19] Tryz.f12.results.toList [.one .ptr, .one (.int .u8)] (bodyOf Tryz.f12) [Kind.val (.one .slc) p0] = bridge_New p0 := by kernel_rfl
theorem bridge_New_calls (p0 : Slc) (h : Heap) (Q : Value → Heap → Prop) (hh : bridge_New p0 h fun x h' => Q (.tuple #[.pointer x.1, .int .u8 x.2.1]) h') :
    HCalls Tryz.prog 12 #[.slice p0.a p0.len p0.cap] h Q :=
  calls_of_eq Tryz.func12 (by kernel_rfl) Tryz.ntmps12 (by kernel_rfl) (CC Tryz.call36 (CC Tryz.call37 (CC Tryz.call38 CN))) orders (bridge_New_den p0) hh
def law23_labels (p0 : Int × Int × Int × Int × Unit) : HM ((Int × Int × Int × Int × Unit) × (Int × Int × Int × Int × Unit) × Unit) :=
  HM.bind (α := Nat) (HM.new (.cells #[.int .i64 p0.1, .int .i64 p0.2.1, .int .i64 p0.2.2.1, .int .i64 p0.2.2.2.1] 64)) fun x1 =>
  HM.bind (α := Nat) (HM.new (.cells #[.int .i64 0, .int .i64 0, .int .i64 0, .int .i64 0] 49)) fun x2 =>
  HM.bind (α := Nat) (HM.new (.cells #[.int .i64 0, .int .i64 0, .int .i64 0, .int .i64 0] 55)) fun x3 =>
  HM.bind (α := Int) (HM.load1 (.int .i64) (Addr.add ⟨x1, 0, none⟩ 0)) fun x4 =>
  HM.bind (α := Int) (HM.load1 (.int .i64) (Addr.add ⟨x1, 0, none⟩ 1)) fun x5 =>
  HM.bind (α := Int) (HM.load1 (.int .i64) (Addr.add ⟨x1, 0, none⟩ 2)) fun x6 =>
  HM.bind (α := Int) (HM.load1 (.int .i64) (Addr.add ⟨x1, 0, none⟩ 3)) fun x7 =>
  HM.bind (α := Int) (HM.load1 (.int .i64) (Addr.add ⟨x1, 0, none⟩ 0)) fun x8 =>
  HM.bind (α := Int) (HM.load1 (.int .i64) (Addr.add ⟨x1, 0, none⟩ 1)) fun x9 =>
  HM.bind (α := Int) (HM.load1 (.int .i64) (Addr.add ⟨x1, 0, none⟩ 2)) fun x10 =>
  HM.bind (α := Int) (HM.load1 (.int .i64) (Addr.add ⟨x1, 0, none⟩ 3)) fun x11 =>
  HM.bind (α := Unit) (HM.storeN ⟨x2, 0, none⟩ [.int .i64 x4, .int .i64 x5, .int .i64 x6, .int .i64 x7]) fun _ =>
  HM.bind (α := Int) (HM.load1 (.int .i64) (Addr.add ⟨x1, 0, none⟩ 3)) fun x12 =>
  HM.req ((.int .i64 x12 : Value) = .int .i64 x11) <|
  HM.bind (α := Int) (HM.load1 (.int .i64) (Addr.add ⟨x1, 0, none⟩ 2)) fun x13 =>
  HM.req ((.int .i64 x13 : Value) = .int .i64 x10) <|
  HM.bind (α := Int) (HM.load1 (.int .i64) (Addr.add ⟨x1, 0, none⟩ 1)) fun x14 =>
  HM.req ((.int .i64 x14 : Value) = .int .i64 x9) <|
  HM.bind (α := Int) (HM.load1 (.int .i64) (Addr.add ⟨x1, 0, none⟩ 0)) fun x15 =>
  HM.req ((.int .i64 x15 : Value) = .int .i64 x8) <|
  HM.bind (α := Unit) (HM.storeN ⟨x3, 0, none⟩ [.int .i64 x8, .int .i64 x9, .int .i64 x10, .int .i64 x11]) fun _ =>
  HM.bind (α := Int × Int × Int × Int × Unit) (HM.loadN [.int .i64, .int .i64, .int .i64, .int .i64] ⟨x2, 0, none⟩) fun x16 =>
  HM.bind (α := Int × Int × Int × Int × Unit) (HM.loadN [.int .i64, .int .i64, .int .i64, .int .i64] ⟨x3, 0, none⟩) fun x17 =>
  HM.pure ((x16.1, x16.2.1, x16.2.2.1, x16.2.2.2.1, ()), (x17.1, x17.2.1, x17.2.2.1, x17.2.2.2.1, ()), ())
theorem law23_labels_den (p0 : Int × Int × Int × Int × Unit) : denFn Tryz.prog [] 24 [0, 1, 2, 3] [0, 1, 2, 3] Tryz.f14.results.toList [.agg [.int .i64, .int .i64, .int .i64, .int .i64], .agg [.int .i64, .int .i64, .int .i64, .int .i64]] (bodyOf Tryz.f14) [Kind.val (.agg [.int .i64, .int .i64, .int .i64, .int .i64]) p0] = law23_labels p0 := by kernel_rfl
theorem law23_labels_calls (p0 : Int × Int × Int × Int × Unit) (h : Heap) (Q : Value → Heap → Prop) (hh : law23_labels p0 h fun x h' => Q (.tuple #[.agg #[.int .i64 x.1.1, .int .i64 x.1.2.1, .int .i64 x.1.2.2.1, .int .i64 x.1.2.2.2.1], .agg #[.int .i64 x.2.1.1, .int .i64 x.2.1.2.1, .int .i64 x.2.1.2.2.1, .int .i64 x.2.1.2.2.2.1]]) h') :
    HCalls Tryz.prog 14 #[.agg #[.int .i64 p0.1, .int .i64 p0.2.1, .int .i64 p0.2.2.1, .int .i64 p0.2.2.2.1]] h Q :=
  calls_of_eq Tryz.func14 (by kernel_rfl) Tryz.ntmps14 (by kernel_rfl) CN orders (law23_labels_den p0) hh
def bridge_Bridge_Route (p0 : Option Addr) (p1 : Int × Int × Int × Int × Unit) (p2 : ByteArray × ByteArray × Int × Bool × ByteArray × Unit) : HM (Slc × Unit) :=
  HM.bind (α := Nat) (HM.new (.cells #[.int .i64 p1.1, .int .i64 p1.2.1, .int .i64 p1.2.2.1, .int .i64 p1.2.2.2.1] 49)) fun x1 =>
  HM.bind (α := Nat) (HM.new (.cells #[.string p2.1, .string p2.2.1, .int .i64 p2.2.2.1, .bool p2.2.2.2.1, .string p2.2.2.2.2.1] 50)) fun x2 =>
  HM.bind (α := Bool × Unit) (HM.ite (Option.isNone p0) (
  HM.pure (true, ())) (
  HM.bind (α := Int × Int × Int × Int × Unit) (HM.loadN [.int .i64, .int .i64, .int .i64, .int .i64] ⟨x1, 0, none⟩) fun x3 =>
  HM.bind (α := ByteArray) (HM.call1 Tryz.prog (.one .str) 29 #[.agg #[.int .i64 x3.1, .int .i64 x3.2.1, .int .i64 x3.2.2.1, .int .i64 x3.2.2.2.1]]) fun x4 =>
  HM.ite (decide (x4 = (ByteArray.mk #[]))) (
  HM.pure (true, ())) (
  HM.bind (α := Int) (HM.load1 (.int .i64) (Addr.add ⟨x1, 0, none⟩ 2)) fun x5 =>
  HM.pure (decide (32 ≤ (x5 : Int)), ())))) fun x6 =>
  HM.ite x6.1 (
  HM.pure (⟨none, 0, 0⟩, ())) (
  HM.bind (α := Addr) (HM.nonnil p0) fun x7 =>
  HM.bind (α := Slc) (HM.load1 .slc (Addr.add x7 0)) fun x8 =>
  HM.bind (α := ByteArray) (HM.load1 .str (Addr.add ⟨x2, 0, none⟩ 0)) fun x9 =>
  HM.bind (α := Int) (HM.load1 (.int .i64) (Addr.add ⟨x1, 0, none⟩ 3)) fun x10 =>
  HM.bind (α := Slc) (HM.call1 Tryz.prog (.one .slc) 28 #[.slice x8.a x8.len x8.cap, .string x9, .int .i64 x10]) fun x11 =>
  HM.bind (α := Slc × Int × Unit) (HM.loop (σ := Slc × Int × Unit) (τ := Slc × Int × Unit) (fun x13 =>
  HM.ite (decide (x13.2.1 < (((x11.len : Nat) : Int) : Int))) (
  HM.bind (α := Addr) (HM.idx x11.a x11.len x13.2.1 3) fun x14 =>
  HM.bind (α := Int × ByteArray × Int × Unit) (HM.loadN [.int .i64, .str, .int .i64] x14) fun x15 =>
  HM.bind (α := Nat) (HM.new (.cells #[.int .i64 0, .string (ByteArray.mk #[]), .int .i64 0] 112)) fun x16 =>
  HM.bind (α := Unit) (HM.storeN ⟨x16, 0, none⟩ [.int .i64 x15.1, .string x15.2.1, .int .i64 x15.2.2.1]) fun _ =>
  HM.bind (α := Int × Int × Unit) (HM.loadN [.int .i64, .int .i64] (Addr.add ⟨x1, 0, none⟩ 0)) fun x17 =>
  HM.bind (α := Int) (HM.load1 (.int .i64) (Addr.add ⟨x1, 0, none⟩ 2)) fun x18 =>
  HM.bind (α := Int) (HM.load1 (.int .i64) (Addr.add ⟨x16, 0, none⟩ 2)) fun x19 =>
  HM.bind (α := Nat) (HM.new (.cells #[.int .i64 0, .int .i64 0, .int .i64 0, .int .i64 0] 49)) fun x20 =>
  HM.bind (α := Unit) (HM.storeN ⟨x20, 0, none⟩ [.int .i64 x17.1, .int .i64 x17.2.1, .int .i64 (IntKind.wrap .i64 (x18 + 1)), .int .i64 x19]) fun _ =>
  HM.bind (α := ByteArray) (HM.load1 .str (Addr.add ⟨x16, 0, none⟩ 1)) fun x21 =>
  HM.bind (α := ByteArray) (HM.load1 .str (Addr.add ⟨x2, 0, none⟩ 1)) fun x22 =>
  HM.bind (α := Bool) (HM.load1 .bool (Addr.add ⟨x2, 0, none⟩ 3)) fun x23 =>
  HM.bind (α := Int × Int × Int × Int × Unit) (HM.loadN [.int .i64, .int .i64, .int .i64, .int .i64] ⟨x20, 0, none⟩) fun x24 =>
  HM.bind (α := ByteArray) (HM.call1 Tryz.prog (.one .str) 29 #[.agg #[.int .i64 x24.1, .int .i64 x24.2.1, .int .i64 x24.2.2.1, .int .i64 x24.2.2.2.1]]) fun x25 =>
  HM.bind (α := Bool) (HM.load1 .bool (Addr.add ⟨x2, 0, none⟩ 3)) fun x26 =>
  HM.req ((.bool x26 : Value) = .bool x23) <|
  HM.bind (α := ByteArray) (HM.load1 .str (Addr.add ⟨x2, 0, none⟩ 1)) fun x27 =>
  HM.req ((.string x27 : Value) = .string x22) <|
  HM.bind (α := ByteArray) (HM.load1 .str (Addr.add ⟨x16, 0, none⟩ 1)) fun x28 =>
  HM.req ((.string x28 : Value) = .string x21) <|
  HM.bind (α := Nat) (HM.new (.cells #[.string x21, .string x22, .int .i64 1, .bool x23, .string x25] 50)) fun x29 =>
  HM.bind (α := Slc) (HM.append 50 5 64 #[.string (ByteArray.mk #[]), .string (ByteArray.mk #[]), .int .i64 0, .bool false, .string (ByteArray.mk #[])] x13.1 1 (srcSlc 5 (⟨some ⟨x29, 0, none⟩, 1, 1⟩))) fun x30 =>
  HM.pure (.inl (x30, IntKind.wrap .i64 (x13.2.1 + 1), ()))) (
  HM.pure (.inr (x13.1, x13.2.1, ())))) (⟨none, 0, 0⟩, 0, ())) fun x12 =>
  HM.pure (x12.1, ()))
theorem bridge_Bridge_Route_den (p0 : Option Addr) (p1 : Int × Int × Int × Int × Unit) (p2 : ByteArray × ByteArray × Int × Bool × ByteArray × Unit) : denFn Tryz.prog [29, 28] 59 [0, 1, 2, 4, 5, 6, 7, 9, 10, 22, 31, 32, 33, 34] [0, 1, 2, 4, 5, 7, 9, 10, 22, 31, 32, 33, 34] Tryz.f16.results.toList [.one .slc] (bodyOf Tryz.f16) [Kind.val (.one .ptr) p0, Kind.val (.agg [.int .i64, .int .i64, .int .i64, .int .i64]) p1, Kind.val (.agg [.str, .str, .int .i64, .bool, .str]) p2] = bridge_Bridge_Route p0 p1 p2 := by kernel_rfl
theorem bridge_Bridge_Route_calls (p0 : Option Addr) (p1 : Int × Int × Int × Int × Unit) (p2 : ByteArray × ByteArray × Int × Bool × ByteArray × Unit) (h : Heap) (Q : Value → Heap → Prop) (hh : bridge_Bridge_Route p0 p1 p2 h fun x h' => Q (.slice x.1.a x.1.len x.1.cap) h') :
    HCalls Tryz.prog 16 #[.pointer p0, .agg #[.int .i64 p1.1, .int .i64 p1.2.1, .int .i64 p1.2.2.1, .int .i64 p1.2.2.2.1], .agg #[.string p2.1, .string p2.2.1, .int .i64 p2.2.2.1, .bool p2.2.2.2.1, .string p2.2.2.2.2.1]] h Q :=
  calls_of_eq Tryz.func16 (by kernel_rfl) Tryz.ntmps16 (by kernel_rfl) (CC Tryz.call29 (CC Tryz.call28 CN)) orders (bridge_Bridge_Route_den p0 p1 p2) hh
def bridge_Bridge_Begin (p0 : Option Addr) : HM (Slc × Unit) :=
  HM.ite (Option.isNone p0) (
  HM.pure (⟨none, 0, 0⟩, ())) (
  HM.bind (α := Addr) (HM.nonnil p0) fun x1 =>
  HM.bind (α := Option Addr) (HM.load1 .ptr (Addr.add x1 1)) fun x2 =>
  HM.bind (α := Slc) (HM.call1 Tryz.prog (.one .slc) 46 #[.pointer x2, .int .i64 64]) fun x3 =>
  HM.pure (x3, ()))
theorem bridge_Bridge_Begin_den (p0 : Option Addr) : denFn Tryz.prog [46] 10 [0, 2, 4] [0, 4] Tryz.f20.results.toList [.one .slc] (bodyOf Tryz.f20) [Kind.val (.one .ptr) p0] = bridge_Bridge_Begin p0 := by kernel_rfl
theorem bridge_Bridge_Begin_calls (p0 : Option Addr) (h : Heap) (Q : Value → Heap → Prop) (hh : bridge_Bridge_Begin p0 h fun x h' => Q (.slice x.1.a x.1.len x.1.cap) h') :
    HCalls Tryz.prog 20 #[.pointer p0] h Q :=
  calls_of_eq Tryz.func20 (by kernel_rfl) Tryz.ntmps20 (by kernel_rfl) (CC Tryz.call46 CN) orders (bridge_Bridge_Begin_den p0) hh
def bridge_Bridge_Send (p0 : Option Addr) (p1 : ByteArray × ByteArray × Int × Bool × ByteArray × Unit) : HM (Slc × Int × Unit) :=
  HM.bind (α := Nat) (HM.new (.cells #[.string p1.1, .string p1.2.1, .int .i64 p1.2.2.1, .bool p1.2.2.2.1, .string p1.2.2.2.2.1] 50)) fun x1 =>
  HM.ite (Option.isNone p0) (
  HM.pure (⟨none, 0, 0⟩, 128, ())) (
  HM.bind (α := Unit) (HM.store1 (Addr.add ⟨x1, 0, none⟩ 2) (.int .i64 1)) fun _ =>
  HM.bind (α := ByteArray) (HM.load1 .str (Addr.add ⟨x1, 0, none⟩ 0)) fun x2 =>
  HM.bind (α := ByteArray) (HM.load1 .str (Addr.add ⟨x1, 0, none⟩ 1)) fun x3 =>
  HM.bind (α := Nat) (HM.new (.cells #[.int .i64 0, .bool false, .bool false, .int .i64 0, .int .i64 0, .string (ByteArray.mk #[]), .string (ByteArray.mk #[]), .int .u8 0, .slice none 0 0, .slice none 0 0, .string (ByteArray.mk #[]), .bool false, .int .i64 0, .bool false, .string (ByteArray.mk #[]), .string (ByteArray.mk #[]), .int .i64 0, .bool false, .slice none 0 0, .bool false, .bool false, .string (ByteArray.mk #[]), .string (ByteArray.mk #[]), .bool false, .slice none 0 0, .slice none 0 0] 34)) fun x4 =>
  HM.bind (α := Unit) (HM.storeN ⟨x4, 0, none⟩ [.int .i64 3, .bool false, .bool false, .int .i64 1, .int .i64 1, .string x2, .string x3, .int .u8 0, .slice none 0 0, .slice none 0 0, .string (ByteArray.mk #[]), .bool false, .int .i64 0, .bool false, .string (ByteArray.mk #[]), .string (ByteArray.mk #[]), .int .i64 0, .bool false, .slice none 0 0, .bool false, .bool false, .string (ByteArray.mk #[]), .string (ByteArray.mk #[]), .bool false, .slice none 0 0, .slice none 0 0]) fun _ =>
  HM.bind (α := ByteArray) (HM.load1 .str (Addr.add ⟨x1, 0, none⟩ 4)) fun x5 =>
  HM.bind (α := Unit) (HM.ite (!(decide (x5 = (ByteArray.mk #[])))) (
  HM.bind (α := ByteArray) (HM.load1 .str (Addr.add ⟨x1, 0, none⟩ 4)) fun x7 =>
  HM.bind (α := Nat) (HM.new (.cells #[.int .i64 38, .int .i64 0, .string (ByteArray.mk #[116, 97, 103]), .string x7] 44)) fun x8 =>
  HM.bind (α := Unit) (HM.store1 (Addr.add ⟨x4, 0, none⟩ 9) (.slice (some ⟨x8, 0, none⟩) 1 1)) fun _ =>
  HM.pure ()) (
  HM.pure ())) fun x6 =>
  HM.bind (α := Int × Bool × Bool × Int × Int × ByteArray × ByteArray × Int × Slc × Slc × ByteArray × Bool × Int × Bool × ByteArray × ByteArray × Int × Bool × Slc × Bool × Bool × ByteArray × ByteArray × Bool × Slc × Slc × Unit) (HM.loadN [.int .i64, .bool, .bool, .int .i64, .int .i64, .str, .str, .int .u8, .slc, .slc, .str, .bool, .int .i64, .bool, .str, .str, .int .i64, .bool, .slc, .bool, .bool, .str, .str, .bool, .slc, .slc] ⟨x4, 0, none⟩) fun x9 =>
  HM.bind (α := ByteArray × Int × Unit) (HM.callN Tryz.prog [.one .str, .one (.int .u8)] 50 #[.agg #[.int .i64 x9.1, .bool x9.2.1, .bool x9.2.2.1, .int .i64 x9.2.2.2.1, .int .i64 x9.2.2.2.2.1, .string x9.2.2.2.2.2.1, .string x9.2.2.2.2.2.2.1, .int .u8 x9.2.2.2.2.2.2.2.1, .slice x9.2.2.2.2.2.2.2.2.1.a x9.2.2.2.2.2.2.2.2.1.len x9.2.2.2.2.2.2.2.2.1.cap, .slice x9.2.2.2.2.2.2.2.2.2.1.a x9.2.2.2.2.2.2.2.2.2.1.len x9.2.2.2.2.2.2.2.2.2.1.cap, .string x9.2.2.2.2.2.2.2.2.2.2.1, .bool x9.2.2.2.2.2.2.2.2.2.2.2.1, .int .i64 x9.2.2.2.2.2.2.2.2.2.2.2.2.1, .bool x9.2.2.2.2.2.2.2.2.2.2.2.2.2.1, .string x9.2.2.2.2.2.2.2.2.2.2.2.2.2.2.1, .string x9.2.2.2.2.2.2.2.2.2.2.2.2.2.2.2.1, .int .i64 x9.2.2.2.2.2.2.2.2.2.2.2.2.2.2.2.2.1, .bool x9.2.2.2.2.2.2.2.2.2.2.2.2.2.2.2.2.2.1, .slice x9.2.2.2.2.2.2.2.2.2.2.2.2.2.2.2.2.2.2.1.a x9.2.2.2.2.2.2.2.2.2.2.2.2.2.2.2.2.2.2.1.len x9.2.2.2.2.2.2.2.2.2.2.2.2.2.2.2.2.2.2.1.cap, .bool x9.2.2.2.2.2.2.2.2.2.2.2.2.2.2.2.2.2.2.2.1, .bool x9.2.2.2.2.2.2.2.2.2.2.2.2.2.2.2.2.2.2.2.2.1, .string x9.2.2.2.2.2.2.2.2.2.2.2.2.2.2.2.2.2.2.2.2.2.1, .string x9.2.2.2.2.2.2.2.2.2.2.2.2.2.2.2.2.2.2.2.2.2.2.1, .bool x9.2.2.2.2.2.2.2.2.2.2.2.2.2.2.2.2.2.2.2.2.2.2.2.1, .slice x9.2.2.2.2.2.2.2.2.2.2.2.2.2.2.2.2.2.2.2.2.2.2.2.2.1.a x9.2.2.2.2.2.2.2.2.2.2.2.2.2.2.2.2.2.2.2.2.2.2.2.2.1.len x9.2.2.2.2.2.2.2.2.2.2.2.2.2.2.2.2.2.2.2.2.2.2.2.2.1.cap, .slice x9.2.2.2.2.2.2.2.2.2.2.2.2.2.2.2.2.2.2.2.2.2.2.2.2.2.1.a x9.2.2.2.2.2.2.2.2.2.2.2.2.2.2.2.2.2.2.2.2.2.2.2.2.2.1.len x9.2.2.2.2.2.2.2.2.2.2.2.2.2.2.2.2.2.2.2.2.2.2.2.2.2.1.cap]]) fun x10 =>
  HM.ite (!(x10.2.1 == 0)) (
  HM.pure (⟨none, 0, 0⟩, x10.2.1, ())) (
  HM.bind (α := Addr) (HM.nonnil p0) fun x11 =>
  HM.bind (α := Option Addr) (HM.load1 .ptr (Addr.add x11 1)) fun x12 =>
  HM.bind (α := ByteArray × ByteArray × Int × Bool × ByteArray × Unit) (HM.loadN [.str, .str, .int .i64, .bool, .str] ⟨x1, 0, none⟩) fun x13 =>
  HM.bind (α := Slc × Int × Unit) (HM.callN Tryz.prog [.one .slc, .one (.int .u8)] 51 #[.pointer x12, .agg #[.string x13.1, .string x13.2.1, .int .i64 x13.2.2.1, .bool x13.2.2.2.1, .string x13.2.2.2.2.1]]) fun x14 =>
  HM.pure (x14.1, x14.2.1, ())))
theorem bridge_Bridge_Send_den (p0 : Option Addr) (p1 : ByteArray × ByteArray × Int × Bool × ByteArray × Unit) : denFn Tryz.prog [50, 51] 41 [0, 1, 3, 4, 5, 6, 8, 10, 19, 31] [0, 1, 3, 6, 8, 10, 19, 31] Tryz.f23.results.toList [.one .slc, .one (.int .u8)] (bodyOf Tryz.f23) [Kind.val (.one .ptr) p0, Kind.val (.agg [.str, .str, .int .i64, .bool, .str]) p1] = bridge_Bridge_Send p0 p1 := by kernel_rfl
theorem bridge_Bridge_Send_calls (p0 : Option Addr) (p1 : ByteArray × ByteArray × Int × Bool × ByteArray × Unit) (h : Heap) (Q : Value → Heap → Prop) (hh : bridge_Bridge_Send p0 p1 h fun x h' => Q (.tuple #[.slice x.1.a x.1.len x.1.cap, .int .u8 x.2.1]) h') :
    HCalls Tryz.prog 23 #[.pointer p0, .agg #[.string p1.1, .string p1.2.1, .int .i64 p1.2.2.1, .bool p1.2.2.2.1, .string p1.2.2.2.2.1]] h Q :=
  calls_of_eq Tryz.func23 (by kernel_rfl) Tryz.ntmps23 (by kernel_rfl) (CC Tryz.call50 (CC Tryz.call51 CN)) orders (bridge_Bridge_Send_den p0 p1) hh
def remap_Route (p0 : Slc) (p1 : ByteArray) (p2 : Int) : HM (Slc × Unit) :=
  HM.bind (α := Slc × Int × Unit) (HM.loop (σ := Slc × Int × Unit) (τ := Slc × Int × Unit) (fun x2 =>
  HM.ite (decide (x2.2.1 < (((p0.len : Nat) : Int) : Int))) (
  HM.bind (α := Addr) (HM.idx p0.a p0.len x2.2.1 5) fun x3 =>
  HM.bind (α := ByteArray × Int × Int × ByteArray × ByteArray × Unit) (HM.loadN [.str, .int .i64, .int .i64, .str, .str] x3) fun x4 =>
  HM.bind (α := Nat) (HM.new (.cells #[.string (ByteArray.mk #[]), .int .i64 0, .int .i64 0, .string (ByteArray.mk #[]), .string (ByteArray.mk #[])] 123)) fun x5 =>
  HM.bind (α := Unit) (HM.storeN ⟨x5, 0, none⟩ [.string x4.1, .int .i64 x4.2.1, .int .i64 x4.2.2.1, .string x4.2.2.2.1, .string x4.2.2.2.2.1]) fun _ =>
  HM.bind (α := ByteArray × Int × Int × ByteArray × ByteArray × Unit) (HM.loadN [.str, .int .i64, .int .i64, .str, .str] ⟨x5, 0, none⟩) fun x6 =>
  HM.bind (α := ByteArray × Bool × Unit) (HM.callN Tryz.prog [.one .str, .one .bool] 56 #[.agg #[.string x6.1, .int .i64 x6.2.1, .int .i64 x6.2.2.1, .string x6.2.2.2.1, .string x6.2.2.2.2.1], .string p1]) fun x7 =>
  HM.bind (α := Slc × Unit) (HM.ite x7.2.1 (
  HM.bind (α := Int) (HM.load1 (.int .i64) (Addr.add ⟨x5, 0, none⟩ 2)) fun x9 =>
  HM.bind (α := Nat) (HM.new (.cells #[.int .i64 x2.2.1, .string x7.1, .int .i64 (if x9 < (p2 : Int) then x9 else p2)] 112)) fun x10 =>
  HM.bind (α := Slc) (HM.append 112 3 32 #[.int .i64 0, .string (ByteArray.mk #[]), .int .i64 0] x2.1 1 (srcSlc 3 (⟨some ⟨x10, 0, none⟩, 1, 1⟩))) fun x11 =>
  HM.pure (x11, ())) (
  HM.pure (x2.1, ()))) fun x8 =>
  HM.pure (.inl (x8.1, IntKind.wrap .i64 (x2.2.1 + 1), ()))) (
  HM.pure (.inr (x2.1, x2.2.1, ())))) (⟨none, 0, 0⟩, 0, ())) fun x1 =>
  HM.pure (x1.1, ())
theorem remap_Route_den (p0 : Slc) (p1 : ByteArray) (p2 : Int) : denFn Tryz.prog [56] 38 [0, 1, 2, 6, 7, 8, 9, 10, 11, 12, 13, 14, 15, 25] [0, 1, 2, 7, 8, 9, 10, 11, 12, 13, 14, 15, 25] Tryz.f28.results.toList [.one .slc] (bodyOf Tryz.f28) [Kind.val (.one .slc) p0, Kind.val (.one .str) p1, Kind.val (.one (.int .i64)) p2] = remap_Route p0 p1 p2 := by kernel_rfl
theorem remap_Route_calls (p0 : Slc) (p1 : ByteArray) (p2 : Int) (h : Heap) (Q : Value → Heap → Prop) (hh : remap_Route p0 p1 p2 h fun x h' => Q (.slice x.1.a x.1.len x.1.cap) h') :
    HCalls Tryz.prog 28 #[.slice p0.a p0.len p0.cap, .string p1, .int .i64 p2] h Q :=
  calls_of_eq Tryz.func28 (by kernel_rfl) Tryz.ntmps28 (by kernel_rfl) (CC Tryz.call56 CN) orders (remap_Route_den p0 p1 p2) hh
def tags_Label_Text (p0 : Int × Int × Int × Int × Unit) : HM (ByteArray × Unit) :=
  HM.bind (α := Nat) (HM.new (.cells #[.int .i64 p0.1, .int .i64 p0.2.1, .int .i64 p0.2.2.1, .int .i64 p0.2.2.2.1] 49)) fun x1 =>
  HM.bind (α := Int × Int × Int × Int × Unit) (HM.loadN [.int .i64, .int .i64, .int .i64, .int .i64] ⟨x1, 0, none⟩) fun x2 =>
  HM.bind (α := Bool) (HM.call1 Tryz.prog (.one .bool) 57 #[.agg #[.int .i64 x2.1, .int .i64 x2.2.1, .int .i64 x2.2.2.1, .int .i64 x2.2.2.2.1]]) fun x3 =>
  HM.ite (!x3) (
  HM.pure (ByteArray.mk #[], ())) (
  HM.bind (α := Int) (HM.load1 (.int .i64) (Addr.add (Addr.add ⟨x1, 0, none⟩ 0) 0)) fun x4 =>
  HM.bind (α := Int) (HM.load1 (.int .i64) (Addr.add (Addr.add ⟨x1, 0, none⟩ 0) 1)) fun x5 =>
  HM.bind (α := Int) (HM.load1 (.int .i64) (Addr.add ⟨x1, 0, none⟩ 2)) fun x6 =>
  HM.bind (α := Int) (HM.load1 (.int .i64) (Addr.add ⟨x1, 0, none⟩ 3)) fun x7 =>
  HM.bind (α := ByteArray) (HM.call1 Tryz.prog (.one .str) 59 #[.int .i64 x4]) fun x8 =>
  HM.bind (α := Int) (HM.load1 (.int .i64) (Addr.add ⟨x1, 0, none⟩ 3)) fun x9 =>
  HM.req ((.int .i64 x9 : Value) = .int .i64 x7) <|
  HM.bind (α := Int) (HM.load1 (.int .i64) (Addr.add ⟨x1, 0, none⟩ 2)) fun x10 =>
  HM.req ((.int .i64 x10 : Value) = .int .i64 x6) <|
  HM.bind (α := Int) (HM.load1 (.int .i64) (Addr.add (Addr.add ⟨x1, 0, none⟩ 0) 1)) fun x11 =>
  HM.req ((.int .i64 x11 : Value) = .int .i64 x5) <|
  HM.bind (α := ByteArray) (HM.call1 Tryz.prog (.one .str) 60 #[.int .i64 x5, .int .i64 10]) fun x12 =>
  HM.bind (α := Int) (HM.load1 (.int .i64) (Addr.add ⟨x1, 0, none⟩ 3)) fun x13 =>
  HM.req ((.int .i64 x13 : Value) = .int .i64 x7) <|
  HM.bind (α := Int) (HM.load1 (.int .i64) (Addr.add ⟨x1, 0, none⟩ 2)) fun x14 =>
  HM.req ((.int .i64 x14 : Value) = .int .i64 x6) <|
  HM.bind (α := ByteArray) (HM.call1 Tryz.prog (.one .str) 59 #[.int .i64 x6]) fun x15 =>
  HM.bind (α := Int) (HM.load1 (.int .i64) (Addr.add ⟨x1, 0, none⟩ 3)) fun x16 =>
  HM.req ((.int .i64 x16 : Value) = .int .i64 x7) <|
  HM.bind (α := ByteArray) (HM.call1 Tryz.prog (.one .str) 59 #[.int .i64 x7]) fun x17 =>
  HM.bind (α := Nat) (HM.new (.cells #[.string x8, .string x12, .string x15, .string x17] 9)) fun x18 =>
  HM.bind (α := ByteArray) (HM.call1 Tryz.prog (.one .str) 58 #[.slice (some ⟨x18, 0, none⟩) 4 4, .string (ByteArray.mk #[46])]) fun x19 =>
  HM.pure (x19, ()))
theorem tags_Label_Text_den (p0 : Int × Int × Int × Int × Unit) : denFn Tryz.prog [57, 59, 60, 58] 22 [0, 1, 2, 5] [0, 1, 5] Tryz.f29.results.toList [.one .str] (bodyOf Tryz.f29) [Kind.val (.agg [.int .i64, .int .i64, .int .i64, .int .i64]) p0] = tags_Label_Text p0 := by kernel_rfl
theorem tags_Label_Text_calls (p0 : Int × Int × Int × Int × Unit) (h : Heap) (Q : Value → Heap → Prop) (hh : tags_Label_Text p0 h fun x h' => Q (.string x.1) h') :
    HCalls Tryz.prog 29 #[.agg #[.int .i64 p0.1, .int .i64 p0.2.1, .int .i64 p0.2.2.1, .int .i64 p0.2.2.2.1]] h Q :=
  calls_of_eq Tryz.func29 (by kernel_rfl) Tryz.ntmps29 (by kernel_rfl) (CC Tryz.call57 (CC Tryz.call59 (CC Tryz.call60 (CC Tryz.call58 CN)))) orders (tags_Label_Text_den p0) hh
def prop_Users (p0 : Slc) (p1 : ByteArray) : HM (Slc × Unit) :=
  HM.bind (α := Slc × Int × Unit) (HM.loop (σ := Slc × Int × Unit) (τ := Slc × Int × Unit) (fun x2 =>
  HM.ite (decide (x2.2.1 < (((p0.len : Nat) : Int) : Int))) (
  HM.bind (α := Addr) (HM.idx p0.a p0.len x2.2.1 4) fun x3 =>
  HM.bind (α := Int × Int × ByteArray × ByteArray × Unit) (HM.loadN [.int .i64, .int .i64, .str, .str] x3) fun x4 =>
  HM.bind (α := Nat) (HM.new (.cells #[.int .i64 0, .int .i64 0, .string (ByteArray.mk #[]), .string (ByteArray.mk #[])] 44)) fun x5 =>
  HM.bind (α := Unit) (HM.storeN ⟨x5, 0, none⟩ [.int .i64 x4.1, .int .i64 x4.2.1, .string x4.2.2.1, .string x4.2.2.2.1]) fun _ =>
  HM.bind (α := Bool × Unit) (HM.bind (α := Int) (HM.load1 (.int .i64) (Addr.add ⟨x5, 0, none⟩ 0)) fun x6 =>
  HM.ite (x6 == 38) (
  HM.bind (α := ByteArray) (HM.load1 .str (Addr.add ⟨x5, 0, none⟩ 2)) fun x7 =>
  HM.pure (decide (x7 = p1), ())) (
  HM.pure (false, ()))) fun x8 =>
  HM.bind (α := Slc × Unit) (HM.ite x8.1 (
  HM.bind (α := ByteArray) (HM.load1 .str (Addr.add ⟨x5, 0, none⟩ 3)) fun x10 =>
  HM.bind (α := Nat) (HM.new (.cells #[.string x10] 9)) fun x11 =>
  HM.bind (α := Slc) (HM.append 9 1 16 #[.string (ByteArray.mk #[])] x2.1 1 (srcSlc 1 (⟨some ⟨x11, 0, none⟩, 1, 1⟩))) fun x12 =>
  HM.pure (x12, ())) (
  HM.pure (x2.1, ()))) fun x9 =>
  HM.pure (.inl (x9.1, IntKind.wrap .i64 (x2.2.1 + 1), ()))) (
  HM.pure (.inr (x2.1, x2.2.1, ())))) (⟨none, 0, 0⟩, 0, ())) fun x1 =>
  HM.pure (x1.1, ())
theorem prop_Users_den (p0 : Slc) (p1 : ByteArray) : denFn Tryz.prog [] 30 [0, 1, 4, 5, 7, 8, 9, 10, 11, 22] [0, 1, 5, 7, 8, 9, 10, 11, 22] Tryz.f30.results.toList [.one .slc] (bodyOf Tryz.f30) [Kind.val (.one .slc) p0, Kind.val (.one .str) p1] = prop_Users p0 p1 := by kernel_rfl
theorem prop_Users_calls (p0 : Slc) (p1 : ByteArray) (h : Heap) (Q : Value → Heap → Prop) (hh : prop_Users p0 p1 h fun x h' => Q (.slice x.1.a x.1.len x.1.cap) h') :
    HCalls Tryz.prog 30 #[.slice p0.a p0.len p0.cap, .string p1] h Q :=
  calls_of_eq Tryz.func30 (by kernel_rfl) Tryz.ntmps30 (by kernel_rfl) CN orders (prop_Users_den p0 p1) hh
def tags_Parse (p0 : ByteArray) : HM ((Int × Int × Int × Int × Unit) × Bool × Unit) :=
  HM.bind (α := Nat) (HM.new (.cells #[.int .i64 0, .int .i64 0, .int .i64 0, .int .i64 0] 49)) fun x1 =>
  HM.bind (α := Slc) (HM.call1 Tryz.prog (.one .slc) 61 #[.string p0, .string (ByteArray.mk #[46])]) fun x2 =>
  HM.ite (!(((x2.len : Nat) : Int) == 4)) (
  HM.bind (α := Unit) (HM.storeN ⟨x1, 0, none⟩ [.int .i64 0, .int .i64 0, .int .i64 0, .int .i64 0]) fun _ =>
  HM.bind (α := Int × Int × Int × Int × Unit) (HM.loadN [.int .i64, .int .i64, .int .i64, .int .i64] ⟨x1, 0, none⟩) fun x3 =>
  HM.pure ((x3.1, x3.2.1, x3.2.2.1, x3.2.2.2.1, ()), false, ())) (
  HM.bind (α := Nat) (HM.new (.cells #[.int .i64 0, .int .i64 0, .int .i64 0, .int .i64 0] 165)) fun x4 =>
  HM.bind (α := Int × Unit) (HM.loop (σ := Int × Unit) (τ := Int × Unit) (fun x6 =>
  HM.ite (decide (x6.1 < (4 : Int))) (
  HM.bind (α := Addr) (HM.idx x2.a x2.len x6.1 1) fun x7 =>
  HM.bind (α := ByteArray) (HM.load1 .str x7) fun x8 =>
  HM.bind (α := Int × Value × Unit) (HM.callN Tryz.prog [.one (.int .i64), .one .any] 62 #[.string x8, .int .i64 10, .int .i64 64]) fun x9 =>
  HM.bind (α := Addr) (HM.idx (some ⟨x4, 0, none⟩) 4 x6.1 1) fun x10 =>
  HM.bind (α := Unit) (HM.store1 x10 (.int .i64 x9.1)) fun _ =>
  HM.pure (.inl (IntKind.wrap .i64 (x6.1 + 1), ()))) (
  HM.pure (.inr (x6.1, ())))) (0, ())) fun x5 =>
  HM.bind (α := Addr) (HM.idx (some ⟨x4, 0, none⟩) 4 0 1) fun x11 =>
  HM.bind (α := Int) (HM.load1 (.int .i64) x11) fun x12 =>
  HM.bind (α := Addr) (HM.idx (some ⟨x4, 0, none⟩) 4 1 1) fun x13 =>
  HM.bind (α := Int) (HM.load1 (.int .i64) x13) fun x14 =>
  HM.bind (α := Addr) (HM.idx (some ⟨x4, 0, none⟩) 4 2 1) fun x15 =>
  HM.bind (α := Int) (HM.load1 (.int .i64) x15) fun x16 =>
  HM.bind (α := Addr) (HM.idx (some ⟨x4, 0, none⟩) 4 3 1) fun x17 =>
  HM.bind (α := Int) (HM.load1 (.int .i64) x17) fun x18 =>
  HM.bind (α := Nat) (HM.new (.cells #[.int .i64 0, .int .i64 0, .int .i64 0, .int .i64 0] 49)) fun x19 =>
  HM.bind (α := Unit) (HM.storeN ⟨x19, 0, none⟩ [.int .i64 x12, .int .i64 x14, .int .i64 x16, .int .i64 x18]) fun _ =>
  HM.bind (α := Bool × Unit) (HM.bind (α := Int × Int × Int × Int × Unit) (HM.loadN [.int .i64, .int .i64, .int .i64, .int .i64] ⟨x19, 0, none⟩) fun x20 =>
  HM.bind (α := Bool) (HM.call1 Tryz.prog (.one .bool) 57 #[.agg #[.int .i64 x20.1, .int .i64 x20.2.1, .int .i64 x20.2.2.1, .int .i64 x20.2.2.2.1]]) fun x21 =>
  HM.ite (!x21) (
  HM.pure (true, ())) (
  HM.bind (α := Int × Int × Int × Int × Unit) (HM.loadN [.int .i64, .int .i64, .int .i64, .int .i64] ⟨x19, 0, none⟩) fun x22 =>
  HM.bind (α := ByteArray) (HM.call1 Tryz.prog (.one .str) 29 #[.agg #[.int .i64 x22.1, .int .i64 x22.2.1, .int .i64 x22.2.2.1, .int .i64 x22.2.2.2.1]]) fun x23 =>
  HM.pure (!(decide (x23 = p0)), ()))) fun x24 =>
  HM.ite x24.1 (
  HM.bind (α := Unit) (HM.storeN ⟨x1, 0, none⟩ [.int .i64 0, .int .i64 0, .int .i64 0, .int .i64 0]) fun _ =>
  HM.bind (α := Int × Int × Int × Int × Unit) (HM.loadN [.int .i64, .int .i64, .int .i64, .int .i64] ⟨x1, 0, none⟩) fun x25 =>
  HM.pure ((x25.1, x25.2.1, x25.2.2.1, x25.2.2.2.1, ()), false, ())) (
  HM.bind (α := Int × Int × Int × Int × Unit) (HM.loadN [.int .i64, .int .i64, .int .i64, .int .i64] ⟨x19, 0, none⟩) fun x26 =>
  HM.bind (α := Unit) (HM.storeN ⟨x1, 0, none⟩ [.int .i64 x26.1, .int .i64 x26.2.1, .int .i64 x26.2.2.1, .int .i64 x26.2.2.2.1]) fun _ =>
  HM.bind (α := Int × Int × Int × Int × Unit) (HM.loadN [.int .i64, .int .i64, .int .i64, .int .i64] ⟨x1, 0, none⟩) fun x27 =>
  HM.pure ((x27.1, x27.2.1, x27.2.2.1, x27.2.2.2.1, ()), true, ())))
theorem tags_Parse_den (p0 : ByteArray) : denFn Tryz.prog [61, 62, 57, 29] 49 [0, 2, 3, 4, 5, 6, 7, 12, 14, 15, 46] [0, 2, 4, 5, 6, 7, 12, 14, 15, 46] Tryz.f31.results.toList [.agg [.int .i64, .int .i64, .int .i64, .int .i64], .one .bool] (bodyOf Tryz.f31) [Kind.val (.one .str) p0] = tags_Parse p0 := by kernel_rfl
theorem tags_Parse_calls (p0 : ByteArray) (h : Heap) (Q : Value → Heap → Prop) (hh : tags_Parse p0 h fun x h' => Q (.tuple #[.agg #[.int .i64 x.1.1, .int .i64 x.1.2.1, .int .i64 x.1.2.2.1, .int .i64 x.1.2.2.2.1], .bool x.2.1]) h') :
    HCalls Tryz.prog 31 #[.string p0] h Q :=
  calls_of_eq Tryz.func31 (by kernel_rfl) Tryz.ntmps31 (by kernel_rfl) (CC Tryz.call61 (CC Tryz.call62 (CC Tryz.call57 (CC Tryz.call29 CN)))) orders (tags_Parse_den p0) hh
end Go.Proofs.YtfhalebbcbgbdaaGreatDoor
namespace Go.Proofs.YtfhalebbcbgbdaaGreatDoor
open Go.H Go.Proofs
set_option linter.unusedVariables false
set_option linter.unusedSimpArgs false
set_option maxRecDepth 100000
set_option maxHeartbeats 4000000
def bridge_Delay (p0 : Int) (p1 : Int) (p2 : Int) (p3 : Int) : HM (Int × Unit) :=
  HM.bind (α := Int × Int × Unit) (HM.loop (σ := Int × Int × Unit) (τ := Int × Int × Unit) (fun x2 =>
  HM.bind (α := Bool × Unit) (HM.ite (decide (0 < (x2.2.1 : Int))) (
  HM.pure (decide (x2.1 < ((if (if 1 < ((if 1048576 < (p1 : Int) then 1048576 else p1) : Int) then (if 1048576 < (p1 : Int) then 1048576 else p1) else 1) < ((if 1048576 < (p2 : Int) then 1048576 else p2) : Int) then (if 1048576 < (p2 : Int) then 1048576 else p2) else (if 1 < ((if 1048576 < (p1 : Int) then 1048576 else p1) : Int) then (if 1048576 < (p1 : Int) then 1048576 else p1) else 1)) : Int)), ())) (
  HM.pure (false, ()))) fun x3 =>
  HM.ite x3.1 (
  HM.pure (.inl (IntKind.wrap .i64 (x2.1 * 2), IntKind.wrap .i64 (x2.2.1 - 1), ()))) (
  HM.pure (.inr (x2.1, x2.2.1, ())))) (if 1 < ((if 1048576 < (p1 : Int) then 1048576 else p1) : Int) then (if 1048576 < (p1 : Int) then 1048576 else p1) else 1, p0, ())) fun x1 =>
  HM.req (2 ≠ (0 : Int)) <|
  HM.req ((IntKind.wrap .u64 (IntKind.wrap .i64 ((IntKind.wrap .i64 (Int.tdiv (if (if (if 1 < ((if 1048576 < (p1 : Int) then 1048576 else p1) : Int) then (if 1048576 < (p1 : Int) then 1048576 else p1) else 1) < ((if 1048576 < (p2 : Int) then 1048576 else p2) : Int) then (if 1048576 < (p2 : Int) then 1048576 else p2) else (if 1 < ((if 1048576 < (p1 : Int) then 1048576 else p1) : Int) then (if 1048576 < (p1 : Int) then 1048576 else p1) else 1)) < (x1.1 : Int) then (if (if 1 < ((if 1048576 < (p1 : Int) then 1048576 else p1) : Int) then (if 1048576 < (p1 : Int) then 1048576 else p1) else 1) < ((if 1048576 < (p2 : Int) then 1048576 else p2) : Int) then (if 1048576 < (p2 : Int) then 1048576 else p2) else (if 1 < ((if 1048576 < (p1 : Int) then 1048576 else p1) : Int) then (if 1048576 < (p1 : Int) then 1048576 else p1) else 1)) else x1.1) 2)) + 1))) ≠ (0 : Int)) <|
  HM.pure (IntKind.wrap .i64 ((if (if (if 1 < ((if 1048576 < (p1 : Int) then 1048576 else p1) : Int) then (if 1048576 < (p1 : Int) then 1048576 else p1) else 1) < ((if 1048576 < (p2 : Int) then 1048576 else p2) : Int) then (if 1048576 < (p2 : Int) then 1048576 else p2) else (if 1 < ((if 1048576 < (p1 : Int) then 1048576 else p1) : Int) then (if 1048576 < (p1 : Int) then 1048576 else p1) else 1)) < (x1.1 : Int) then (if (if 1 < ((if 1048576 < (p1 : Int) then 1048576 else p1) : Int) then (if 1048576 < (p1 : Int) then 1048576 else p1) else 1) < ((if 1048576 < (p2 : Int) then 1048576 else p2) : Int) then (if 1048576 < (p2 : Int) then 1048576 else p2) else (if 1 < ((if 1048576 < (p1 : Int) then 1048576 else p1) : Int) then (if 1048576 < (p1 : Int) then 1048576 else p1) else 1)) else x1.1) + (IntKind.wrap .i64 (Int.tmod p3 (IntKind.wrap .u64 (IntKind.wrap .i64 ((IntKind.wrap .i64 (Int.tdiv (if (if (if 1 < ((if 1048576 < (p1 : Int) then 1048576 else p1) : Int) then (if 1048576 < (p1 : Int) then 1048576 else p1) else 1) < ((if 1048576 < (p2 : Int) then 1048576 else p2) : Int) then (if 1048576 < (p2 : Int) then 1048576 else p2) else (if 1 < ((if 1048576 < (p1 : Int) then 1048576 else p1) : Int) then (if 1048576 < (p1 : Int) then 1048576 else p1) else 1)) < (x1.1 : Int) then (if (if 1 < ((if 1048576 < (p1 : Int) then 1048576 else p1) : Int) then (if 1048576 < (p1 : Int) then 1048576 else p1) else 1) < ((if 1048576 < (p2 : Int) then 1048576 else p2) : Int) then (if 1048576 < (p2 : Int) then 1048576 else p2) else (if 1 < ((if 1048576 < (p1 : Int) then 1048576 else p1) : Int) then (if 1048576 < (p1 : Int) then 1048576 else p1) else 1)) else x1.1) 2)) + 1)))))), ())
theorem bridge_Delay_den (p0 : Int) (p1 : Int) (p2 : Int) (p3 : Int) : denFn Tryz.prog [] 40 [0, 1, 2, 3, 8, 9, 23] [0, 1, 2, 3, 9, 23] Tryz.f34.results.toList [.one (.int .i64)] (bodyOf Tryz.f34) [Kind.val (.one (.int .i64)) p0, Kind.val (.one (.int .i64)) p1, Kind.val (.one (.int .i64)) p2, Kind.val (.one (.int .u64)) p3] = bridge_Delay p0 p1 p2 p3 := by kernel_rfl
theorem bridge_Delay_calls (p0 : Int) (p1 : Int) (p2 : Int) (p3 : Int) (h : Heap) (Q : Value → Heap → Prop) (hh : bridge_Delay p0 p1 p2 p3 h fun x h' => Q (.int .i64 x.1) h') :
    HCalls Tryz.prog 34 #[.int .i64 p0, .int .i64 p1, .int .i64 p2, .int .u64 p3] h Q :=
  calls_of_eq Tryz.func34 (by kernel_rfl) Tryz.ntmps34 (by kernel_rfl) CN orders (bridge_Delay_den p0 p1 p2 p3) hh
def law23_rule (p0 : ByteArray × Int × Int × ByteArray × ByteArray × Unit) : HM ((ByteArray × Int × Int × ByteArray × ByteArray × Unit) × (ByteArray × Int × Int × ByteArray × ByteArray × Unit) × Unit) :=
  HM.bind (α := Nat) (HM.new (.cells #[.string p0.1, .int .i64 p0.2.1, .int .i64 p0.2.2.1, .string p0.2.2.2.1, .string p0.2.2.2.2.1] 127)) fun x1 =>
  HM.bind (α := Nat) (HM.new (.cells #[.string (ByteArray.mk #[]), .int .i64 0, .int .i64 0, .string (ByteArray.mk #[]), .string (ByteArray.mk #[])] 123)) fun x2 =>
  HM.bind (α := Nat) (HM.new (.cells #[.string (ByteArray.mk #[]), .int .i64 0, .int .i64 0, .string (ByteArray.mk #[]), .string (ByteArray.mk #[])] 128)) fun x3 =>
  HM.bind (α := ByteArray) (HM.load1 .str (Addr.add ⟨x1, 0, none⟩ 0)) fun x4 =>
  HM.bind (α := Int) (HM.load1 (.int .i64) (Addr.add ⟨x1, 0, none⟩ 1)) fun x5 =>
  HM.bind (α := Int) (HM.load1 (.int .i64) (Addr.add ⟨x1, 0, none⟩ 2)) fun x6 =>
  HM.bind (α := ByteArray) (HM.load1 .str (Addr.add ⟨x1, 0, none⟩ 3)) fun x7 =>
  HM.bind (α := ByteArray) (HM.load1 .str (Addr.add ⟨x1, 0, none⟩ 4)) fun x8 =>
  HM.bind (α := ByteArray × Int × Int × ByteArray × ByteArray × Unit) (HM.loadN [.str, .int .i64, .int .i64, .str, .str] ⟨x1, 0, none⟩) fun x9 =>
  HM.bind (α := Unit) (HM.storeN ⟨x2, 0, none⟩ [.string x4, .int .i64 x5, .int .i64 x6, .string x7, .string x8]) fun _ =>
  HM.bind (α := ByteArray × Int × Int × ByteArray × ByteArray × Unit) (HM.loadN [.str, .int .i64, .int .i64, .str, .str] ⟨x1, 0, none⟩) fun x10 =>
  HM.req ((.agg #[.string x10.1, .int .i64 x10.2.1, .int .i64 x10.2.2.1, .string x10.2.2.2.1, .string x10.2.2.2.2.1] : Value) = .agg #[.string x9.1, .int .i64 x9.2.1, .int .i64 x9.2.2.1, .string x9.2.2.2.1, .string x9.2.2.2.2.1]) <|
  HM.bind (α := Unit) (HM.storeN ⟨x3, 0, none⟩ [.string x9.1, .int .i64 x9.2.1, .int .i64 x9.2.2.1, .string x9.2.2.2.1, .string x9.2.2.2.2.1]) fun _ =>
  HM.bind (α := ByteArray × Int × Int × ByteArray × ByteArray × Unit) (HM.loadN [.str, .int .i64, .int .i64, .str, .str] ⟨x2, 0, none⟩) fun x11 =>
  HM.bind (α := ByteArray × Int × Int × ByteArray × ByteArray × Unit) (HM.loadN [.str, .int .i64, .int .i64, .str, .str] ⟨x3, 0, none⟩) fun x12 =>
  HM.pure ((x11.1, x11.2.1, x11.2.2.1, x11.2.2.2.1, x11.2.2.2.2.1, ()), (x12.1, x12.2.1, x12.2.2.1, x12.2.2.2.1, x12.2.2.2.2.1, ()), ())
theorem law23_rule_den (p0 : ByteArray × Int × Int × ByteArray × ByteArray × Unit) : denFn Tryz.prog [] 16 [0, 1, 2, 3] [0, 1, 2, 3] Tryz.f35.results.toList [.agg [.str, .int .i64, .int .i64, .str, .str], .agg [.str, .int .i64, .int .i64, .str, .str]] (bodyOf Tryz.f35) [Kind.val (.agg [.str, .int .i64, .int .i64, .str, .str]) p0] = law23_rule p0 := by kernel_rfl
theorem law23_rule_calls (p0 : ByteArray × Int × Int × ByteArray × ByteArray × Unit) (h : Heap) (Q : Value → Heap → Prop) (hh : law23_rule p0 h fun x h' => Q (.tuple #[.agg #[.string x.1.1, .int .i64 x.1.2.1, .int .i64 x.1.2.2.1, .string x.1.2.2.2.1, .string x.1.2.2.2.2.1], .agg #[.string x.2.1.1, .int .i64 x.2.1.2.1, .int .i64 x.2.1.2.2.1, .string x.2.1.2.2.2.1, .string x.2.1.2.2.2.2.1]]) h') :
    HCalls Tryz.prog 35 #[.agg #[.string p0.1, .int .i64 p0.2.1, .int .i64 p0.2.2.1, .string p0.2.2.2.1, .string p0.2.2.2.2.1]] h Q :=
  calls_of_eq Tryz.func35 (by kernel_rfl) Tryz.ntmps35 (by kernel_rfl) CN orders (law23_rule_den p0) hh
def remap_Rule_Check (p0 : ByteArray × Int × Int × ByteArray × ByteArray × Unit) : HM (Int × Unit) :=
  HM.bind (α := Nat) (HM.new (.cells #[.string p0.1, .int .i64 p0.2.1, .int .i64 p0.2.2.1, .string p0.2.2.2.1, .string p0.2.2.2.2.1] 123)) fun x1 =>
  HM.bind (α := ByteArray) (HM.load1 .str (Addr.add ⟨x1, 0, none⟩ 0)) fun x2 =>
  HM.bind (α := Int) (HM.call1 Tryz.prog (.one (.int .u8)) 65 #[.string x2]) fun x3 =>
  HM.ite (!(x3 == 0)) (
  HM.pure (143, ())) (
  HM.bind (α := Bool × Unit) (HM.bind (α := ByteArray) (HM.load1 .str (Addr.add ⟨x1, 0, none⟩ 3)) fun x4 =>
  HM.bind (α := Bool) (HM.call1 Tryz.prog (.one .bool) 66 #[.string x4]) fun x5 =>
  HM.ite (!x5) (
  HM.pure (true, ())) (
  HM.bind (α := ByteArray) (HM.load1 .str (Addr.add ⟨x1, 0, none⟩ 4)) fun x6 =>
  HM.bind (α := Bool) (HM.call1 Tryz.prog (.one .bool) 66 #[.string x6]) fun x7 =>
  HM.pure (!x7, ()))) fun x8 =>
  HM.ite x8.1 (
  HM.pure (144, ())) (
  HM.bind (α := Bool × Unit) (HM.bind (α := Int) (HM.load1 (.int .i64) (Addr.add ⟨x1, 0, none⟩ 1)) fun x9 =>
  HM.ite (decide (x9 < (0 : Int))) (
  HM.pure (true, ())) (
  HM.bind (α := Int) (HM.load1 (.int .i64) (Addr.add ⟨x1, 0, none⟩ 1)) fun x10 =>
  HM.pure (decide (2 < (x10 : Int)), ()))) fun x11 =>
  HM.ite x11.1 (
  HM.pure (128, ())) (
  HM.bind (α := Bool × Unit) (HM.bind (α := Int) (HM.load1 (.int .i64) (Addr.add ⟨x1, 0, none⟩ 2)) fun x12 =>
  HM.ite (decide (x12 < (0 : Int))) (
  HM.pure (true, ())) (
  HM.bind (α := Int) (HM.load1 (.int .i64) (Addr.add ⟨x1, 0, none⟩ 2)) fun x13 =>
  HM.pure (decide (2 < (x13 : Int)), ()))) fun x14 =>
  HM.ite x14.1 (
  HM.pure (155, ())) (
  HM.pure (0, ())))))
theorem remap_Rule_Check_den (p0 : ByteArray × Int × Int × ByteArray × ByteArray × Unit) : denFn Tryz.prog [65, 66] 37 [0, 1, 2, 3, 8, 19, 28] [0, 1, 3, 8, 19, 28] Tryz.f36.results.toList [.one (.int .u8)] (bodyOf Tryz.f36) [Kind.val (.agg [.str, .int .i64, .int .i64, .str, .str]) p0] = remap_Rule_Check p0 := by kernel_rfl
theorem remap_Rule_Check_calls (p0 : ByteArray × Int × Int × ByteArray × ByteArray × Unit) (h : Heap) (Q : Value → Heap → Prop) (hh : remap_Rule_Check p0 h fun x h' => Q (.int .u8 x.1) h') :
    HCalls Tryz.prog 36 #[.agg #[.string p0.1, .int .i64 p0.2.1, .int .i64 p0.2.2.1, .string p0.2.2.2.1, .string p0.2.2.2.2.1]] h Q :=
  calls_of_eq Tryz.func36 (by kernel_rfl) Tryz.ntmps36 (by kernel_rfl) (CC Tryz.call65 (CC Tryz.call66 CN)) orders (remap_Rule_Check_den p0) hh
def slices_Clone_Rule (p0 : Slc) : HM (Slc × Unit) :=
  HM.ite (Option.isNone p0.a) (
  HM.pure (⟨none, 0, 0⟩, ())) (
  HM.bind (α := Nat) (HM.new (.cells #[] 123)) fun x1 =>
  HM.bind (α := Slc) (HM.append 123 5 64 #[.string (ByteArray.mk #[]), .int .i64 0, .int .i64 0, .string (ByteArray.mk #[]), .string (ByteArray.mk #[])] (⟨some ⟨x1, 0, none⟩, 0, 0⟩) p0.len (srcSlc 5 p0)) fun x2 =>
  HM.pure (x2, ()))
theorem slices_Clone_Rule_den (p0 : Slc) : denFn Tryz.prog [] 8 [0, 2, 4] [0, 4] Tryz.f37.results.toList [.one .slc] (bodyOf Tryz.f37) [Kind.val (.one .slc) p0] = slices_Clone_Rule p0 := by kernel_rfl
theorem slices_Clone_Rule_calls (p0 : Slc) (h : Heap) (Q : Value → Heap → Prop) (hh : slices_Clone_Rule p0 h fun x h' => Q (.slice x.1.a x.1.len x.1.cap) h') :
    HCalls Tryz.prog 37 #[.slice p0.a p0.len p0.cap] h Q :=
  calls_of_eq Tryz.func37 (by kernel_rfl) Tryz.ntmps37 (by kernel_rfl) CN orders (slices_Clone_Rule_den p0) hh
def outflow_New (p0 : Int) : HM (Option Addr × Unit) :=
  HM.bind (α := Option Addr) (HM.call1 Tryz.prog (.one .ptr) 67 #[.int .i64 64]) fun x1 =>
  HM.bind (α := Int) (HM.call1 Tryz.prog (.one (.int .i64)) 68 #[.int .i64 p0]) fun x2 =>
  HM.bind (α := Nat) (HM.new (.cells #[.pointer x1, .int .i64 x2, .bool false, .slice none 0 0, .slice none 0 0] 178)) fun x3 =>
  HM.pure (some ⟨x3, 0, none⟩, ())
theorem outflow_New_den (p0 : Int) : denFn Tryz.prog [67, 68] 8 [0, 2] [0] Tryz.f38.results.toList [.one .ptr] (bodyOf Tryz.f38) [Kind.val (.one (.int .i64)) p0] = outflow_New p0 := by kernel_rfl
theorem outflow_New_calls (p0 : Int) (h : Heap) (Q : Value → Heap → Prop) (hh : outflow_New p0 h fun x h' => Q (.pointer x.1) h') :
    HCalls Tryz.prog 38 #[.int .i64 p0] h Q :=
  calls_of_eq Tryz.func38 (by kernel_rfl) Tryz.ntmps38 (by kernel_rfl) (CC Tryz.call67 (CC Tryz.call68 CN)) orders (outflow_New_den p0) hh
def outflow_Flow_Begin (p0 : Option Addr) (p1 : Int) : HM (Slc × Unit) :=
  HM.ite (Option.isNone p0) (
  HM.pure (⟨none, 0, 0⟩, ())) (
  HM.bind (α := Int) (HM.call1 Tryz.prog (.one (.int .i64)) 68 #[.int .i64 p1]) fun x1 =>
  HM.bind (α := Addr) (HM.nonnil p0) fun x2 =>
  HM.bind (α := Unit) (HM.store1 (Addr.add x2 2) (.bool true)) fun _ =>
  HM.bind (α := Addr) (HM.nonnil p0) fun x3 =>
  HM.bind (α := Unit) (HM.store1 (Addr.add x3 1) (.int .i64 x1)) fun _ =>
  HM.bind (α := Addr) (HM.nonnil p0) fun x4 =>
  HM.bind (α := Slc) (HM.load1 .slc (Addr.add x4 3)) fun x5 =>
  HM.bind (α := Slc × Int × Unit) (HM.loop (σ := Slc × Int × Unit) (τ := Slc × Int × Unit) (fun x7 =>
  HM.ite (decide (x7.2.1 < (((x5.len : Nat) : Int) : Int))) (
  HM.bind (α := Addr) (HM.idx x5.a x5.len x7.2.1 7) fun x8 =>
  HM.bind (α := Int × ByteArray × ByteArray × Int × Bool × ByteArray × Bool × Unit) (HM.loadN [.int .i64, .str, .str, .int .i64, .bool, .str, .bool] x8) fun x9 =>
  HM.bind (α := Nat) (HM.new (.cells #[.int .i64 0, .string (ByteArray.mk #[]), .string (ByteArray.mk #[]), .int .i64 0, .bool false, .string (ByteArray.mk #[]), .bool false] 158)) fun x10 =>
  HM.bind (α := Unit) (HM.storeN ⟨x10, 0, none⟩ [.int .i64 x9.1, .string x9.2.1, .string x9.2.2.1, .int .i64 x9.2.2.2.1, .bool x9.2.2.2.2.1, .string x9.2.2.2.2.2.1, .bool x9.2.2.2.2.2.2.1]) fun _ =>
  HM.bind (α := Bool) (HM.load1 .bool (Addr.add ⟨x10, 0, none⟩ 6)) fun x11 =>
  HM.bind (α := Slc × Unit) (HM.ite x11 (
  HM.bind (α := Int) (HM.load1 (.int .i64) (Addr.add ⟨x10, 0, none⟩ 0)) fun x13 =>
  HM.bind (α := Nat) (HM.new (.cells #[.int .i64 6, .bool false, .bool false, .int .i64 0, .int .i64 x13, .string (ByteArray.mk #[]), .string (ByteArray.mk #[]), .int .u8 0, .slice none 0 0, .slice none 0 0, .string (ByteArray.mk #[]), .bool false, .int .i64 0, .bool false, .string (ByteArray.mk #[]), .string (ByteArray.mk #[]), .int .i64 0, .bool false, .slice none 0 0, .bool false, .bool false, .string (ByteArray.mk #[]), .string (ByteArray.mk #[]), .bool false, .slice none 0 0, .slice none 0 0] 34)) fun x14 =>
  HM.bind (α := Slc) (HM.append 34 26 328 #[.int .i64 0, .bool false, .bool false, .int .i64 0, .int .i64 0, .string (ByteArray.mk #[]), .string (ByteArray.mk #[]), .int .u8 0, .slice none 0 0, .slice none 0 0, .string (ByteArray.mk #[]), .bool false, .int .i64 0, .bool false, .string (ByteArray.mk #[]), .string (ByteArray.mk #[]), .int .i64 0, .bool false, .slice none 0 0, .bool false, .bool false, .string (ByteArray.mk #[]), .string (ByteArray.mk #[]), .bool false, .slice none 0 0, .slice none 0 0] x7.1 1 (srcSlc 26 (⟨some ⟨x14, 0, none⟩, 1, 1⟩))) fun x15 =>
  HM.pure (x15, ())) (
  HM.bind (α := ByteArray × ByteArray × Int × Bool × ByteArray × Unit) (HM.loadN [.str, .str, .int .i64, .bool, .str] (Addr.add ⟨x10, 0, none⟩ 1)) fun x16 =>
  HM.bind (α := Int) (HM.load1 (.int .i64) (Addr.add ⟨x10, 0, none⟩ 0)) fun x17 =>
  HM.bind (α := Int × Bool × Bool × Int × Int × ByteArray × ByteArray × Int × Slc × Slc × ByteArray × Bool × Int × Bool × ByteArray × ByteArray × Int × Bool × Slc × Bool × Bool × ByteArray × ByteArray × Bool × Slc × Slc × Unit) (HM.call1 Tryz.prog (.agg [.int .i64, .bool, .bool, .int .i64, .int .i64, .str, .str, .int .u8, .slc, .slc, .str, .bool, .int .i64, .bool, .str, .str, .int .i64, .bool, .slc, .bool, .bool, .str, .str, .bool, .slc, .slc]) 81 #[.agg #[.string x16.1, .string x16.2.1, .int .i64 x16.2.2.1, .bool x16.2.2.2.1, .string x16.2.2.2.2.1], .int .i64 x17, .bool true]) fun x18 =>
  HM.bind (α := Nat) (HM.new (.cells #[.int .i64 x18.1, .bool x18.2.1, .bool x18.2.2.1, .int .i64 x18.2.2.2.1, .int .i64 x18.2.2.2.2.1, .string x18.2.2.2.2.2.1, .string x18.2.2.2.2.2.2.1, .int .u8 x18.2.2.2.2.2.2.2.1, .slice x18.2.2.2.2.2.2.2.2.1.a x18.2.2.2.2.2.2.2.2.1.len x18.2.2.2.2.2.2.2.2.1.cap, .slice x18.2.2.2.2.2.2.2.2.2.1.a x18.2.2.2.2.2.2.2.2.2.1.len x18.2.2.2.2.2.2.2.2.2.1.cap, .string x18.2.2.2.2.2.2.2.2.2.2.1, .bool x18.2.2.2.2.2.2.2.2.2.2.2.1, .int .i64 x18.2.2.2.2.2.2.2.2.2.2.2.2.1, .bool x18.2.2.2.2.2.2.2.2.2.2.2.2.2.1, .string x18.2.2.2.2.2.2.2.2.2.2.2.2.2.2.1, .string x18.2.2.2.2.2.2.2.2.2.2.2.2.2.2.2.1, .int .i64 x18.2.2.2.2.2.2.2.2.2.2.2.2.2.2.2.2.1, .bool x18.2.2.2.2.2.2.2.2.2.2.2.2.2.2.2.2.2.1, .slice x18.2.2.2.2.2.2.2.2.2.2.2.2.2.2.2.2.2.2.1.a x18.2.2.2.2.2.2.2.2.2.2.2.2.2.2.2.2.2.2.1.len x18.2.2.2.2.2.2.2.2.2.2.2.2.2.2.2.2.2.2.1.cap, .bool x18.2.2.2.2.2.2.2.2.2.2.2.2.2.2.2.2.2.2.2.1, .bool x18.2.2.2.2.2.2.2.2.2.2.2.2.2.2.2.2.2.2.2.2.1, .string x18.2.2.2.2.2.2.2.2.2.2.2.2.2.2.2.2.2.2.2.2.2.1, .string x18.2.2.2.2.2.2.2.2.2.2.2.2.2.2.2.2.2.2.2.2.2.2.1, .bool x18.2.2.2.2.2.2.2.2.2.2.2.2.2.2.2.2.2.2.2.2.2.2.2.1, .slice x18.2.2.2.2.2.2.2.2.2.2.2.2.2.2.2.2.2.2.2.2.2.2.2.2.1.a x18.2.2.2.2.2.2.2.2.2.2.2.2.2.2.2.2.2.2.2.2.2.2.2.2.1.len x18.2.2.2.2.2.2.2.2.2.2.2.2.2.2.2.2.2.2.2.2.2.2.2.2.1.cap, .slice x18.2.2.2.2.2.2.2.2.2.2.2.2.2.2.2.2.2.2.2.2.2.2.2.2.2.1.a x18.2.2.2.2.2.2.2.2.2.2.2.2.2.2.2.2.2.2.2.2.2.2.2.2.2.1.len x18.2.2.2.2.2.2.2.2.2.2.2.2.2.2.2.2.2.2.2.2.2.2.2.2.2.1.cap] 34)) fun x19 =>
  HM.bind (α := Slc) (HM.append 34 26 328 #[.int .i64 0, .bool false, .bool false, .int .i64 0, .int .i64 0, .string (ByteArray.mk #[]), .string (ByteArray.mk #[]), .int .u8 0, .slice none 0 0, .slice none 0 0, .string (ByteArray.mk #[]), .bool false, .int .i64 0, .bool false, .string (ByteArray.mk #[]), .string (ByteArray.mk #[]), .int .i64 0, .bool false, .slice none 0 0, .bool false, .bool false, .string (ByteArray.mk #[]), .string (ByteArray.mk #[]), .bool false, .slice none 0 0, .slice none 0 0] x7.1 1 (srcSlc 26 (⟨some ⟨x19, 0, none⟩, 1, 1⟩))) fun x20 =>
  HM.pure (x20, ()))) fun x12 =>
  HM.pure (.inl (x12.1, IntKind.wrap .i64 (x7.2.1 + 1), ()))) (
  HM.pure (.inr (x7.1, x7.2.1, ())))) (⟨none, 0, 0⟩, 0, ())) fun x6 =>
  HM.bind (α := Slc) (HM.call1 Tryz.prog (.one .slc) 78 #[.pointer p0, .slice x6.1.a x6.1.len x6.1.cap]) fun x21 =>
  HM.pure (x21, ()))
theorem outflow_Flow_Begin_den (p0 : Option Addr) (p1 : Int) : denFn Tryz.prog [68, 81, 78] 47 [0, 1, 4, 5, 7, 9, 21, 22, 23, 24, 28] [0, 1, 5, 7, 9, 21, 22, 23, 24, 28] Tryz.f46.results.toList [.one .slc] (bodyOf Tryz.f46) [Kind.val (.one .ptr) p0, Kind.val (.one (.int .i64)) p1] = outflow_Flow_Begin p0 p1 := by kernel_rfl
theorem outflow_Flow_Begin_calls (p0 : Option Addr) (p1 : Int) (h : Heap) (Q : Value → Heap → Prop) (hh : outflow_Flow_Begin p0 p1 h fun x h' => Q (.slice x.1.a x.1.len x.1.cap) h') :
    HCalls Tryz.prog 46 #[.pointer p0, .int .i64 p1] h Q :=
  calls_of_eq Tryz.func46 (by kernel_rfl) Tryz.ntmps46 (by kernel_rfl) (CC Tryz.call68 (CC Tryz.call81 (CC Tryz.call78 CN))) orders (outflow_Flow_Begin_den p0 p1) hh
def packet_Put (p0 : Int × Bool × Bool × Int × Int × ByteArray × ByteArray × Int × Slc × Slc × ByteArray × Bool × Int × Bool × ByteArray × ByteArray × Int × Bool × Slc × Bool × Bool × ByteArray × ByteArray × Bool × Slc × Slc × Unit) : HM (ByteArray × Int × Unit) :=
  HM.bind (α := Nat) (HM.new (.cells #[.int .i64 p0.1, .bool p0.2.1, .bool p0.2.2.1, .int .i64 p0.2.2.2.1, .int .i64 p0.2.2.2.2.1, .string p0.2.2.2.2.2.1, .string p0.2.2.2.2.2.2.1, .int .u8 p0.2.2.2.2.2.2.2.1, .slice p0.2.2.2.2.2.2.2.2.1.a p0.2.2.2.2.2.2.2.2.1.len p0.2.2.2.2.2.2.2.2.1.cap, .slice p0.2.2.2.2.2.2.2.2.2.1.a p0.2.2.2.2.2.2.2.2.2.1.len p0.2.2.2.2.2.2.2.2.2.1.cap, .string p0.2.2.2.2.2.2.2.2.2.2.1, .bool p0.2.2.2.2.2.2.2.2.2.2.2.1, .int .i64 p0.2.2.2.2.2.2.2.2.2.2.2.2.1, .bool p0.2.2.2.2.2.2.2.2.2.2.2.2.2.1, .string p0.2.2.2.2.2.2.2.2.2.2.2.2.2.2.1, .string p0.2.2.2.2.2.2.2.2.2.2.2.2.2.2.2.1, .int .i64 p0.2.2.2.2.2.2.2.2.2.2.2.2.2.2.2.2.1, .bool p0.2.2.2.2.2.2.2.2.2.2.2.2.2.2.2.2.2.1, .slice p0.2.2.2.2.2.2.2.2.2.2.2.2.2.2.2.2.2.2.1.a p0.2.2.2.2.2.2.2.2.2.2.2.2.2.2.2.2.2.2.1.len p0.2.2.2.2.2.2.2.2.2.2.2.2.2.2.2.2.2.2.1.cap, .bool p0.2.2.2.2.2.2.2.2.2.2.2.2.2.2.2.2.2.2.2.1, .bool p0.2.2.2.2.2.2.2.2.2.2.2.2.2.2.2.2.2.2.2.2.1, .string p0.2.2.2.2.2.2.2.2.2.2.2.2.2.2.2.2.2.2.2.2.2.1, .string p0.2.2.2.2.2.2.2.2.2.2.2.2.2.2.2.2.2.2.2.2.2.2.1, .bool p0.2.2.2.2.2.2.2.2.2.2.2.2.2.2.2.2.2.2.2.2.2.2.2.1, .slice p0.2.2.2.2.2.2.2.2.2.2.2.2.2.2.2.2.2.2.2.2.2.2.2.2.1.a p0.2.2.2.2.2.2.2.2.2.2.2.2.2.2.2.2.2.2.2.2.2.2.2.2.1.len p0.2.2.2.2.2.2.2.2.2.2.2.2.2.2.2.2.2.2.2.2.2.2.2.2.1.cap, .slice p0.2.2.2.2.2.2.2.2.2.2.2.2.2.2.2.2.2.2.2.2.2.2.2.2.2.1.a p0.2.2.2.2.2.2.2.2.2.2.2.2.2.2.2.2.2.2.2.2.2.2.2.2.2.1.len p0.2.2.2.2.2.2.2.2.2.2.2.2.2.2.2.2.2.2.2.2.2.2.2.2.2.1.cap] 34)) fun x1 =>
  HM.bind (α := Int) (HM.load1 (.int .i64) (Addr.add ⟨x1, 0, none⟩ 0)) fun x2 =>
  HM.bind (α := Int) (HM.call1 Tryz.prog (.one (.int .i64)) 82 #[.int .i64 x2]) fun x3 =>
  HM.bind (α := Nat) (HM.new (.cells #[.pointer none, .slice none 0 0, .int .u8 0] 201)) fun x4 =>
  HM.bind (α := Bool × Unit) (HM.bind (α := Int) (HM.load1 (.int .i64) (Addr.add ⟨x1, 0, none⟩ 0)) fun x5 =>
  HM.ite (decide (x5 < (1 : Int))) (
  HM.pure (true, ())) (
  HM.bind (α := Int) (HM.load1 (.int .i64) (Addr.add ⟨x1, 0, none⟩ 0)) fun x6 =>
  HM.pure (decide (15 < (x6 : Int)), ()))) fun x7 =>
  HM.ite x7.1 (
  HM.pure (ByteArray.mk #[], 129, ())) (
  HM.bind (α := Int) (HM.load1 (.int .i64) (Addr.add ⟨x1, 0, none⟩ 0)) fun x8 =>
  HM.bind (α := Int × Unit) (HM.ite (x8 == 3) (
  HM.bind (α := Int) (HM.load1 (.int .i64) (Addr.add ⟨x1, 0, none⟩ 3)) fun x10 =>
  HM.bind (α := Unit) (HM.callN Tryz.prog [] 83 #[.pointer (some ⟨x4, 0, none⟩), .int .i64 x10]) fun x11 =>
  HM.bind (α := Bool × Unit) (HM.bind (α := Bool) (HM.load1 .bool (Addr.add ⟨x1, 0, none⟩ 1)) fun x12 =>
  HM.ite x12 (
  HM.bind (α := Int) (HM.load1 (.int .i64) (Addr.add ⟨x1, 0, none⟩ 3)) fun x13 =>
  HM.pure (x13 == 0, ())) (
  HM.pure (false, ()))) fun x14 =>
  HM.bind (α := Unit) (HM.ite x14.1 (
  HM.bind (α := Unit) (HM.callN Tryz.prog [] 84 #[.pointer (some ⟨x4, 0, none⟩), .int .u8 129]) fun x16 =>
  HM.pure ()) (
  HM.pure ())) fun x15 =>
  HM.bind (α := Bool) (HM.load1 .bool (Addr.add ⟨x1, 0, none⟩ 1)) fun x17 =>
  HM.bind (α := Int) (HM.load1 (.int .i64) (Addr.add ⟨x1, 0, none⟩ 3)) fun x18 =>
  HM.req ((0 : Int) ≤ 1) <|
  HM.bind (α := Bool) (HM.load1 .bool (Addr.add ⟨x1, 0, none⟩ 2)) fun x19 =>
  HM.bind (α := Int) (HM.call1 Tryz.prog (.one (.int .i64)) 85 #[.bool x17, .int .i64 8]) fun x20 =>
  HM.bind (α := Bool) (HM.load1 .bool (Addr.add ⟨x1, 0, none⟩ 2)) fun x21 =>
  HM.req ((.bool x21 : Value) = .bool x19) <|
  HM.bind (α := Int) (HM.load1 (.int .i64) (Addr.add ⟨x1, 0, none⟩ 3)) fun x22 =>
  HM.req ((.int .i64 x22 : Value) = .int .i64 x18) <|
  HM.bind (α := Int) (HM.call1 Tryz.prog (.one (.int .i64)) 85 #[.bool x19, .int .i64 1]) fun x23 =>
  HM.bind (α := Int) (HM.load1 (.int .i64) (Addr.add ⟨x1, 0, none⟩ 3)) fun x24 =>
  HM.req ((.int .i64 x24 : Value) = .int .i64 x18) <|
  HM.pure (IntKind.wrap .i64 ((IntKind.wrap .i64 (x20 + (IntKind.wrap .i64 ((bitOp .and .i64 x18 3) * 2 ^ (min (Int.toNat 1) (IntKind.bits .i64)))))) + x23), ())) (
  HM.pure (x3, ()))) fun x9 =>
  HM.bind (α := Int × Bool × Bool × Int × Int × ByteArray × ByteArray × Int × Slc × Slc × ByteArray × Bool × Int × Bool × ByteArray × ByteArray × Int × Bool × Slc × Bool × Bool × ByteArray × ByteArray × Bool × Slc × Slc × Unit) (HM.loadN [.int .i64, .bool, .bool, .int .i64, .int .i64, .str, .str, .int .u8, .slc, .slc, .str, .bool, .int .i64, .bool, .str, .str, .int .i64, .bool, .slc, .bool, .bool, .str, .str, .bool, .slc, .slc] ⟨x1, 0, none⟩) fun x25 =>
  HM.bind (α := Unit) (HM.callN Tryz.prog [] 86 #[.pointer (some ⟨x4, 0, none⟩), .agg #[.int .i64 x25.1, .bool x25.2.1, .bool x25.2.2.1, .int .i64 x25.2.2.2.1, .int .i64 x25.2.2.2.2.1, .string x25.2.2.2.2.2.1, .string x25.2.2.2.2.2.2.1, .int .u8 x25.2.2.2.2.2.2.2.1, .slice x25.2.2.2.2.2.2.2.2.1.a x25.2.2.2.2.2.2.2.2.1.len x25.2.2.2.2.2.2.2.2.1.cap, .slice x25.2.2.2.2.2.2.2.2.2.1.a x25.2.2.2.2.2.2.2.2.2.1.len x25.2.2.2.2.2.2.2.2.2.1.cap, .string x25.2.2.2.2.2.2.2.2.2.2.1, .bool x25.2.2.2.2.2.2.2.2.2.2.2.1, .int .i64 x25.2.2.2.2.2.2.2.2.2.2.2.2.1, .bool x25.2.2.2.2.2.2.2.2.2.2.2.2.2.1, .string x25.2.2.2.2.2.2.2.2.2.2.2.2.2.2.1, .string x25.2.2.2.2.2.2.2.2.2.2.2.2.2.2.2.1, .int .i64 x25.2.2.2.2.2.2.2.2.2.2.2.2.2.2.2.2.1, .bool x25.2.2.2.2.2.2.2.2.2.2.2.2.2.2.2.2.2.1, .slice x25.2.2.2.2.2.2.2.2.2.2.2.2.2.2.2.2.2.2.1.a x25.2.2.2.2.2.2.2.2.2.2.2.2.2.2.2.2.2.2.1.len x25.2.2.2.2.2.2.2.2.2.2.2.2.2.2.2.2.2.2.1.cap, .bool x25.2.2.2.2.2.2.2.2.2.2.2.2.2.2.2.2.2.2.2.1, .bool x25.2.2.2.2.2.2.2.2.2.2.2.2.2.2.2.2.2.2.2.2.1, .string x25.2.2.2.2.2.2.2.2.2.2.2.2.2.2.2.2.2.2.2.2.2.1, .string x25.2.2.2.2.2.2.2.2.2.2.2.2.2.2.2.2.2.2.2.2.2.2.1, .bool x25.2.2.2.2.2.2.2.2.2.2.2.2.2.2.2.2.2.2.2.2.2.2.2.1, .slice x25.2.2.2.2.2.2.2.2.2.2.2.2.2.2.2.2.2.2.2.2.2.2.2.2.1.a x25.2.2.2.2.2.2.2.2.2.2.2.2.2.2.2.2.2.2.2.2.2.2.2.2.1.len x25.2.2.2.2.2.2.2.2.2.2.2.2.2.2.2.2.2.2.2.2.2.2.2.2.1.cap, .slice x25.2.2.2.2.2.2.2.2.2.2.2.2.2.2.2.2.2.2.2.2.2.2.2.2.2.1.a x25.2.2.2.2.2.2.2.2.2.2.2.2.2.2.2.2.2.2.2.2.2.2.2.2.2.1.len x25.2.2.2.2.2.2.2.2.2.2.2.2.2.2.2.2.2.2.2.2.2.2.2.2.2.1.cap]]) fun x26 =>
  HM.bind (α := Addr) (HM.nonnil (some ⟨x4, 0, none⟩)) fun x27 =>
  HM.bind (α := Int) (HM.load1 (.int .u8) (Addr.add x27 2)) fun x28 =>
  HM.ite (!(x28 == 0)) (
  HM.bind (α := Addr) (HM.nonnil (some ⟨x4, 0, none⟩)) fun x29 =>
  HM.bind (α := Int) (HM.load1 (.int .u8) (Addr.add x29 2)) fun x30 =>
  HM.pure (ByteArray.mk #[], x30, ())) (
  HM.bind (α := Addr) (HM.nonnil (some ⟨x4, 0, none⟩)) fun x31 =>
  HM.bind (α := Int) (HM.call1 Tryz.prog (.one (.int .i64)) 87 #[.pointer (some (Addr.add x31 0))]) fun x32 =>
  HM.ite (decide (65536 < (x32 : Int))) (
  HM.pure (ByteArray.mk #[], 149, ())) (
  HM.bind (α := Int) (HM.load1 (.int .i64) (Addr.add ⟨x1, 0, none⟩ 0)) fun x33 =>
  HM.req ((0 : Int) ≤ 4) <|
  HM.bind (α := ByteArray × Int × Unit) (HM.callN Tryz.prog [.one .str, .one (.int .u8)] 88 #[.int .i64 1, .int .i64 (IntKind.wrap .i64 ((IntKind.wrap .i64 (x33 * 2 ^ (min (Int.toNat 4) (IntKind.bits .i64)))) + x9.1))]) fun x34 =>
  HM.bind (α := Addr) (HM.nonnil (some ⟨x4, 0, none⟩)) fun x35 =>
  HM.bind (α := Int) (HM.call1 Tryz.prog (.one (.int .i64)) 87 #[.pointer (some (Addr.add x35 0))]) fun x36 =>
  HM.bind (α := ByteArray × Int × Unit) (HM.callN Tryz.prog [.one .str, .one (.int .u8)] 89 #[.int .i64 x36]) fun x37 =>
  HM.req (ByteArray.size x34.1 + ByteArray.size x37.1 ≤ 9223372036854775807) <|
  HM.bind (α := Addr) (HM.nonnil (some ⟨x4, 0, none⟩)) fun x38 =>
  HM.bind (α := ByteArray) (HM.call1 Tryz.prog (.one .str) 90 #[.pointer (some (Addr.add x38 0))]) fun x39 =>
  HM.req (ByteArray.size (x34.1 ++ x37.1) + ByteArray.size x39 ≤ 9223372036854775807) <|
  HM.pure ((x34.1 ++ x37.1) ++ x39, 0, ()))))
theorem packet_Put_den (p0 : Int × Bool × Bool × Int × Int × ByteArray × ByteArray × Int × Slc × Slc × ByteArray × Bool × Int × Bool × ByteArray × ByteArray × Int × Bool × Slc × Bool × Bool × ByteArray × ByteArray × Bool × Slc × Slc × Unit) : denFn Tryz.prog [82, 83, 84, 85, 86, 87, 88, 89, 90] 97 [0, 1, 2, 3, 4, 5, 6, 8, 15, 24, 38, 56, 66] [0, 1, 4, 5, 6, 8, 15, 24, 38, 56, 66] Tryz.f50.results.toList [.one .str, .one (.int .u8)] (bodyOf Tryz.f50) [Kind.val (.agg [.int .i64, .bool, .bool, .int .i64, .int .i64, .str, .str, .int .u8, .slc, .slc, .str, .bool, .int .i64, .bool, .str, .str, .int .i64, .bool, .slc, .bool, .bool, .str, .str, .bool, .slc, .slc]) p0] = packet_Put p0 := by kernel_rfl
theorem packet_Put_calls (p0 : Int × Bool × Bool × Int × Int × ByteArray × ByteArray × Int × Slc × Slc × ByteArray × Bool × Int × Bool × ByteArray × ByteArray × Int × Bool × Slc × Bool × Bool × ByteArray × ByteArray × Bool × Slc × Slc × Unit) (h : Heap) (Q : Value → Heap → Prop) (hh : packet_Put p0 h fun x h' => Q (.tuple #[.string x.1, .int .u8 x.2.1]) h') :
    HCalls Tryz.prog 50 #[.agg #[.int .i64 p0.1, .bool p0.2.1, .bool p0.2.2.1, .int .i64 p0.2.2.2.1, .int .i64 p0.2.2.2.2.1, .string p0.2.2.2.2.2.1, .string p0.2.2.2.2.2.2.1, .int .u8 p0.2.2.2.2.2.2.2.1, .slice p0.2.2.2.2.2.2.2.2.1.a p0.2.2.2.2.2.2.2.2.1.len p0.2.2.2.2.2.2.2.2.1.cap, .slice p0.2.2.2.2.2.2.2.2.2.1.a p0.2.2.2.2.2.2.2.2.2.1.len p0.2.2.2.2.2.2.2.2.2.1.cap, .string p0.2.2.2.2.2.2.2.2.2.2.1, .bool p0.2.2.2.2.2.2.2.2.2.2.2.1, .int .i64 p0.2.2.2.2.2.2.2.2.2.2.2.2.1, .bool p0.2.2.2.2.2.2.2.2.2.2.2.2.2.1, .string p0.2.2.2.2.2.2.2.2.2.2.2.2.2.2.1, .string p0.2.2.2.2.2.2.2.2.2.2.2.2.2.2.2.1, .int .i64 p0.2.2.2.2.2.2.2.2.2.2.2.2.2.2.2.2.1, .bool p0.2.2.2.2.2.2.2.2.2.2.2.2.2.2.2.2.2.1, .slice p0.2.2.2.2.2.2.2.2.2.2.2.2.2.2.2.2.2.2.1.a p0.2.2.2.2.2.2.2.2.2.2.2.2.2.2.2.2.2.2.1.len p0.2.2.2.2.2.2.2.2.2.2.2.2.2.2.2.2.2.2.1.cap, .bool p0.2.2.2.2.2.2.2.2.2.2.2.2.2.2.2.2.2.2.2.1, .bool p0.2.2.2.2.2.2.2.2.2.2.2.2.2.2.2.2.2.2.2.2.1, .string p0.2.2.2.2.2.2.2.2.2.2.2.2.2.2.2.2.2.2.2.2.2.1, .string p0.2.2.2.2.2.2.2.2.2.2.2.2.2.2.2.2.2.2.2.2.2.2.1, .bool p0.2.2.2.2.2.2.2.2.2.2.2.2.2.2.2.2.2.2.2.2.2.2.2.1, .slice p0.2.2.2.2.2.2.2.2.2.2.2.2.2.2.2.2.2.2.2.2.2.2.2.2.1.a p0.2.2.2.2.2.2.2.2.2.2.2.2.2.2.2.2.2.2.2.2.2.2.2.2.1.len p0.2.2.2.2.2.2.2.2.2.2.2.2.2.2.2.2.2.2.2.2.2.2.2.2.1.cap, .slice p0.2.2.2.2.2.2.2.2.2.2.2.2.2.2.2.2.2.2.2.2.2.2.2.2.2.1.a p0.2.2.2.2.2.2.2.2.2.2.2.2.2.2.2.2.2.2.2.2.2.2.2.2.2.1.len p0.2.2.2.2.2.2.2.2.2.2.2.2.2.2.2.2.2.2.2.2.2.2.2.2.2.1.cap]] h Q :=
  calls_of_eq Tryz.func50 (by kernel_rfl) Tryz.ntmps50 (by kernel_rfl) (CC Tryz.call82 (CC Tryz.call83 (CC Tryz.call84 (CC Tryz.call85 (CC Tryz.call86 (CC Tryz.call87 (CC Tryz.call88 (CC Tryz.call89 (CC Tryz.call90 CN))))))))) orders (packet_Put_den p0) hh
def outflow_Flow_Send (p0 : Option Addr) (p1 : ByteArray × ByteArray × Int × Bool × ByteArray × Unit) : HM (Slc × Int × Unit) :=
  HM.bind (α := Nat) (HM.new (.cells #[.string p1.1, .string p1.2.1, .int .i64 p1.2.2.1, .bool p1.2.2.2.1, .string p1.2.2.2.2.1] 50)) fun x1 =>
  HM.ite (Option.isNone p0) (
  HM.pure (⟨none, 0, 0⟩, 128, ())) (
  HM.bind (α := Bool × Unit) (HM.bind (α := Int) (HM.load1 (.int .i64) (Addr.add ⟨x1, 0, none⟩ 2)) fun x2 =>
  HM.ite (decide (x2 < (0 : Int))) (
  HM.pure (true, ())) (
  HM.bind (α := Int) (HM.load1 (.int .i64) (Addr.add ⟨x1, 0, none⟩ 2)) fun x3 =>
  HM.pure (decide (2 < (x3 : Int)), ()))) fun x4 =>
  HM.ite x4.1 (
  HM.pure (⟨none, 0, 0⟩, 155, ())) (
  HM.bind (α := Bool × Unit) (HM.bind (α := Int) (HM.load1 (.int .i64) (Addr.add ⟨x1, 0, none⟩ 2)) fun x5 =>
  HM.ite (x5 == 0) (
  HM.bind (α := Addr) (HM.nonnil p0) fun x6 =>
  HM.bind (α := Bool) (HM.load1 .bool (Addr.add x6 2)) fun x7 =>
  HM.pure (!x7, ())) (
  HM.pure (false, ()))) fun x8 =>
  HM.ite x8.1 (
  HM.pure (⟨none, 0, 0⟩, 0, ())) (
  HM.bind (α := Addr) (HM.nonnil p0) fun x9 =>
  HM.bind (α := Slc) (HM.load1 .slc (Addr.add x9 4)) fun x10 =>
  HM.ite (decide (256 ≤ (((x10.len : Nat) : Int) : Int))) (
  HM.pure (⟨none, 0, 0⟩, 151, ())) (
  HM.bind (α := Addr) (HM.nonnil p0) fun x11 =>
  HM.bind (α := Slc) (HM.load1 .slc (Addr.add x11 4)) fun x12 =>
  HM.bind (α := ByteArray × ByteArray × Int × Bool × ByteArray × Unit) (HM.loadN [.str, .str, .int .i64, .bool, .str] ⟨x1, 0, none⟩) fun x13 =>
  HM.bind (α := Nat) (HM.new (.cells #[.string x13.1, .string x13.2.1, .int .i64 x13.2.2.1, .bool x13.2.2.2.1, .string x13.2.2.2.2.1] 50)) fun x14 =>
  HM.bind (α := Slc) (HM.load1 .slc (Addr.add x11 4)) fun x15 =>
  HM.req ((.slice x15.a x15.len x15.cap : Value) = .slice x12.a x12.len x12.cap) <|
  HM.bind (α := Slc) (HM.append 50 5 64 #[.string (ByteArray.mk #[]), .string (ByteArray.mk #[]), .int .i64 0, .bool false, .string (ByteArray.mk #[])] x12 1 (srcSlc 5 (⟨some ⟨x14, 0, none⟩, 1, 1⟩))) fun x16 =>
  HM.bind (α := Addr) (HM.nonnil p0) fun x17 =>
  HM.bind (α := Unit) (HM.store1 (Addr.add x17 4) (.slice x16.a x16.len x16.cap)) fun _ =>
  HM.bind (α := Slc) (HM.call1 Tryz.prog (.one .slc) 78 #[.pointer p0, .slice none 0 0]) fun x18 =>
  HM.pure (x18, 0, ())))))
theorem outflow_Flow_Send_den (p0 : Option Addr) (p1 : ByteArray × ByteArray × Int × Bool × ByteArray × Unit) : denFn Tryz.prog [78] 48 [0, 1, 3, 4, 5, 6, 9, 18, 29] [0, 1, 3, 6, 9, 18, 29] Tryz.f51.results.toList [.one .slc, .one (.int .u8)] (bodyOf Tryz.f51) [Kind.val (.one .ptr) p0, Kind.val (.agg [.str, .str, .int .i64, .bool, .str]) p1] = outflow_Flow_Send p0 p1 := by kernel_rfl
theorem outflow_Flow_Send_calls (p0 : Option Addr) (p1 : ByteArray × ByteArray × Int × Bool × ByteArray × Unit) (h : Heap) (Q : Value → Heap → Prop) (hh : outflow_Flow_Send p0 p1 h fun x h' => Q (.tuple #[.slice x.1.a x.1.len x.1.cap, .int .u8 x.2.1]) h') :
    HCalls Tryz.prog 51 #[.pointer p0, .agg #[.string p1.1, .string p1.2.1, .int .i64 p1.2.2.1, .bool p1.2.2.2.1, .string p1.2.2.2.2.1]] h Q :=
  calls_of_eq Tryz.func51 (by kernel_rfl) Tryz.ntmps51 (by kernel_rfl) (CC Tryz.call78 CN) orders (outflow_Flow_Send_den p0 p1) hh
def remap_Rule_ToRemote (p0 : ByteArray × Int × Int × ByteArray × ByteArray × Unit) (p1 : ByteArray) : HM (ByteArray × Bool × Unit) :=
  HM.bind (α := Nat) (HM.new (.cells #[.string p0.1, .int .i64 p0.2.1, .int .i64 p0.2.2.1, .string p0.2.2.2.1, .string p0.2.2.2.2.1] 123)) fun x1 =>
  HM.bind (α := Int) (HM.load1 (.int .i64) (Addr.add ⟨x1, 0, none⟩ 1)) fun x2 =>
  HM.ite (x2 == 1) (
  HM.pure (ByteArray.mk #[], false, ())) (
  HM.bind (α := ByteArray × Int × Int × ByteArray × ByteArray × Unit) (HM.loadN [.str, .int .i64, .int .i64, .str, .str] ⟨x1, 0, none⟩) fun x3 =>
  HM.bind (α := ByteArray) (HM.load1 .str (Addr.add ⟨x1, 0, none⟩ 3)) fun x4 =>
  HM.bind (α := ByteArray) (HM.load1 .str (Addr.add ⟨x1, 0, none⟩ 4)) fun x5 =>
  HM.bind (α := ByteArray × Bool × Unit) (HM.callN Tryz.prog [.one .str, .one .bool] 97 #[.agg #[.string x3.1, .int .i64 x3.2.1, .int .i64 x3.2.2.1, .string x3.2.2.2.1, .string x3.2.2.2.2.1], .string p1, .string x4, .string x5]) fun x6 =>
  HM.pure (x6.1, x6.2.1, ()))
theorem remap_Rule_ToRemote_den (p0 : ByteArray × Int × Int × ByteArray × ByteArray × Unit) (p1 : ByteArray) : denFn Tryz.prog [97] 18 [0, 1, 2, 4, 5, 8] [0, 1, 2, 8] Tryz.f56.results.toList [.one .str, .one .bool] (bodyOf Tryz.f56) [Kind.val (.agg [.str, .int .i64, .int .i64, .str, .str]) p0, Kind.val (.one .str) p1] = remap_Rule_ToRemote p0 p1 := by kernel_rfl
theorem remap_Rule_ToRemote_calls (p0 : ByteArray × Int × Int × ByteArray × ByteArray × Unit) (p1 : ByteArray) (h : Heap) (Q : Value → Heap → Prop) (hh : remap_Rule_ToRemote p0 p1 h fun x h' => Q (.tuple #[.string x.1, .bool x.2.1]) h') :
    HCalls Tryz.prog 56 #[.agg #[.string p0.1, .int .i64 p0.2.1, .int .i64 p0.2.2.1, .string p0.2.2.2.1, .string p0.2.2.2.2.1], .string p1] h Q :=
  calls_of_eq Tryz.func56 (by kernel_rfl) Tryz.ntmps56 (by kernel_rfl) (CC Tryz.call97 CN) orders (remap_Rule_ToRemote_den p0 p1) hh
def tags_Label_good (p0 : Int × Int × Int × Int × Unit) : HM (Bool × Unit) :=
  HM.bind (α := Nat) (HM.new (.cells #[.int .i64 p0.1, .int .i64 p0.2.1, .int .i64 p0.2.2.1, .int .i64 p0.2.2.2.1] 49)) fun x1 =>
  HM.bind (α := Bool × Unit) (HM.bind (α := Int × Int × Unit) (HM.loadN [.int .i64, .int .i64] (Addr.add ⟨x1, 0, none⟩ 0)) fun x2 =>
  HM.bind (α := Bool) (HM.call1 Tryz.prog (.one .bool) 98 #[.agg #[.int .i64 x2.1, .int .i64 x2.2.1]]) fun x3 =>
  HM.ite x3 (
  HM.bind (α := Int) (HM.load1 (.int .i64) (Addr.add ⟨x1, 0, none⟩ 2)) fun x4 =>
  HM.ite (decide (0 ≤ (x4 : Int))) (
  HM.bind (α := Int) (HM.load1 (.int .i64) (Addr.add ⟨x1, 0, none⟩ 2)) fun x5 =>
  HM.ite (decide (x5 ≤ (32 : Int))) (
  HM.bind (α := Int) (HM.load1 (.int .i64) (Addr.add ⟨x1, 0, none⟩ 3)) fun x6 =>
  HM.ite (decide (0 ≤ (x6 : Int))) (
  HM.bind (α := Int) (HM.load1 (.int .i64) (Addr.add ⟨x1, 0, none⟩ 3)) fun x7 =>
  HM.pure (decide (x7 ≤ (2 : Int)), ())) (
  HM.pure (false, ()))) (
  HM.pure (false, ()))) (
  HM.pure (false, ()))) (
  HM.pure (false, ()))) fun x8 =>
  HM.pure (x8.1, ())
theorem tags_Label_good_den (p0 : Int × Int × Int × Int × Unit) : denFn Tryz.prog [98] 26 [0, 1, 2] [0, 1] Tryz.f57.results.toList [.one .bool] (bodyOf Tryz.f57) [Kind.val (.agg [.int .i64, .int .i64, .int .i64, .int .i64]) p0] = tags_Label_good p0 := by kernel_rfl
theorem tags_Label_good_calls (p0 : Int × Int × Int × Int × Unit) (h : Heap) (Q : Value → Heap → Prop) (hh : tags_Label_good p0 h fun x h' => Q (.bool x.1) h') :
    HCalls Tryz.prog 57 #[.agg #[.int .i64 p0.1, .int .i64 p0.2.1, .int .i64 p0.2.2.1, .int .i64 p0.2.2.2.1]] h Q :=
  calls_of_eq Tryz.func57 (by kernel_rfl) Tryz.ntmps57 (by kernel_rfl) (CC Tryz.call98 CN) orders (tags_Label_good_den p0) hh
def topic_CheckFilter (p0 : ByteArray) : HM (Int × Unit) :=
  HM.bind (α := Bool) (HM.call1 Tryz.prog (.one .bool) 107 #[.string p0]) fun x1 =>
  HM.ite (!x1) (
  HM.pure (143, ())) (
  HM.bind (α := Slc) (HM.call1 Tryz.prog (.one .slc) 108 #[.string p0]) fun x2 =>
  HM.bind (α := (Int × Unit) ⊕ (Int × Unit)) (HM.loop (σ := Int × Unit) (τ := (Int × Unit) ⊕ (Int × Unit)) (fun x4 =>
  HM.ite (decide (x4.1 < (((x2.len : Nat) : Int) : Int))) (
  HM.bind (α := Addr) (HM.idx x2.a x2.len x4.1 1) fun x5 =>
  HM.bind (α := ByteArray) (HM.load1 .str x5) fun x6 =>
  HM.bind (α := (Unit) ⊕ ((Int × Unit) ⊕ ((Int × Unit) ⊕ (Int × Unit)))) (HM.bind (α := (Unit) ⊕ ((Unit) ⊕ ((Int × Unit) ⊕ ((Int × Unit) ⊕ (Int × Unit))))) (HM.bind (α := (Unit) ⊕ ((Unit) ⊕ ((Unit) ⊕ ((Int × Unit) ⊕ ((Int × Unit) ⊕ (Int × Unit)))))) (HM.bind (α := Bool) (HM.call1 Tryz.prog (.one .bool) 109 #[.string x6, .string (ByteArray.mk #[35])]) fun x10 =>
  HM.ite x10 (
  HM.pure (.inl ())) (
  HM.bind (α := Bool) (HM.call1 Tryz.prog (.one .bool) 109 #[.string x6, .string (ByteArray.mk #[43])]) fun x11 =>
  HM.ite x11 (
  HM.pure (.inr (.inl ()))) (
  HM.pure (.inr (.inr (.inl ())))))) (Sum.elim (fun x9 =>
  HM.ite (decide (x4.1 < ((IntKind.wrap .i64 (((x2.len : Nat) : Int) - 1)) : Int))) (
  HM.pure (.inr (.inr (.inr (.inr (143, ())))))) (
  HM.pure (.inl ()))) HM.pure)) (Sum.elim (fun x8 =>
  HM.ite (decide (1 < (((ByteArray.size x6 : Nat) : Int) : Int))) (
  HM.pure (.inr (.inr (.inr (143, ()))))) (
  HM.pure (.inl ()))) HM.pure)) (Sum.elim (fun x7 =>
  HM.pure (.inl (IntKind.wrap .i64 (x4.1 + 1), ()))) HM.pure)) (
  HM.pure (.inr (.inl (x4.1, ()))))) (0, ())) (Sum.elim (fun x3 =>
  HM.pure (0, ())) HM.pure))
theorem topic_CheckFilter_den (p0 : ByteArray) : denFn Tryz.prog [107, 108, 109] 33 [0, 2, 3, 4, 5, 8, 11, 12, 13, 14, 18, 21, 28, 31] [0, 3, 4, 5, 8, 11, 12, 13, 14, 18, 21, 28, 31] Tryz.f65.results.toList [.one (.int .u8)] (bodyOf Tryz.f65) [Kind.val (.one .str) p0] = topic_CheckFilter p0 := by kernel_rfl
theorem topic_CheckFilter_calls (p0 : ByteArray) (h : Heap) (Q : Value → Heap → Prop) (hh : topic_CheckFilter p0 h fun x h' => Q (.int .u8 x.1) h') :
    HCalls Tryz.prog 65 #[.string p0] h Q :=
  calls_of_eq Tryz.func65 (by kernel_rfl) Tryz.ntmps65 (by kernel_rfl) (CC Tryz.call107 (CC Tryz.call108 (CC Tryz.call109 CN))) orders (topic_CheckFilter_den p0) hh
def remap_prefix (p0 : ByteArray) : HM (Bool × Unit) :=
  HM.bind (α := Bool × Unit) (HM.ite (decide (p0 = (ByteArray.mk #[]))) (
  HM.pure (true, ())) (
  HM.bind (α := Int) (HM.call1 Tryz.prog (.one (.int .u8)) 110 #[.string p0]) fun x1 =>
  HM.pure (x1 == 0, ()))) fun x2 =>
  HM.pure (x2.1, ())
theorem remap_prefix_den (p0 : ByteArray) : denFn Tryz.prog [110] 10 [0, 2] [0] Tryz.f66.results.toList [.one .bool] (bodyOf Tryz.f66) [Kind.val (.one .str) p0] = remap_prefix p0 := by kernel_rfl
theorem remap_prefix_calls (p0 : ByteArray) (h : Heap) (Q : Value → Heap → Prop) (hh : remap_prefix p0 h fun x h' => Q (.bool x.1) h') :
    HCalls Tryz.prog 66 #[.string p0] h Q :=
  calls_of_eq Tryz.func66 (by kernel_rfl) Tryz.ntmps66 (by kernel_rfl) (CC Tryz.call110 CN) orders (remap_prefix_den p0) hh
def ids_New (p0 : Int) : HM (Option Addr × Unit) :=
  HM.bind (α := Nat) (HM.new (.map #[] 0)) fun x1 =>
  HM.bind (α := Nat) (HM.new (.cells #[.int .i64 (if 1 < ((if 64 < (p0 : Int) then 64 else p0) : Int) then (if 64 < (p0 : Int) then 64 else p0) else 1), .int .i64 0, .map (some x1)] 226)) fun x2 =>
  HM.pure (some ⟨x2, 0, none⟩, ())
theorem ids_New_den (p0 : Int) : denFn Tryz.prog [] 9 [0, 2] [0] Tryz.f67.results.toList [.one .ptr] (bodyOf Tryz.f67) [Kind.val (.one (.int .i64)) p0] = ids_New p0 := by kernel_rfl
theorem ids_New_calls (p0 : Int) (h : Heap) (Q : Value → Heap → Prop) (hh : ids_New p0 h fun x h' => Q (.pointer x.1) h') :
    HCalls Tryz.prog 67 #[.int .i64 p0] h Q :=
  calls_of_eq Tryz.func67 (by kernel_rfl) Tryz.ntmps67 (by kernel_rfl) CN orders (ids_New_den p0) hh
def outflow_bounded (p0 : Int) : HM (Int × Unit) :=
  HM.pure (if 1 < ((if 64 < (p0 : Int) then 64 else p0) : Int) then (if 64 < (p0 : Int) then 64 else p0) else 1, ())
theorem outflow_bounded_den (p0 : Int) : denFn Tryz.prog [] 6 [0, 2] [0] Tryz.f68.results.toList [.one (.int .i64)] (bodyOf Tryz.f68) [Kind.val (.one (.int .i64)) p0] = outflow_bounded p0 := by kernel_rfl
theorem outflow_bounded_calls (p0 : Int) (h : Heap) (Q : Value → Heap → Prop) (hh : outflow_bounded p0 h fun x h' => Q (.int .i64 x.1) h') :
    HCalls Tryz.prog 68 #[.int .i64 p0] h Q :=
  calls_of_eq Tryz.func68 (by kernel_rfl) Tryz.ntmps68 (by kernel_rfl) CN orders (outflow_bounded_den p0) hh
def outflow_Flow_goOn (p0 : Option Addr) (p1 : Slc) : HM (Slc × Unit) :=
  HM.bind (α := Slc × Unit) (HM.loop (σ := Slc × Unit) (τ := Slc × Unit) (fun x2 =>
  HM.bind (α := Bool × Unit) (HM.bind (α := Addr) (HM.nonnil p0) fun x3 =>
  HM.bind (α := Bool) (HM.load1 .bool (Addr.add x3 2)) fun x4 =>
  HM.ite x4 (
  HM.bind (α := Addr) (HM.nonnil p0) fun x5 =>
  HM.bind (α := Slc) (HM.load1 .slc (Addr.add x5 4)) fun x6 =>
  HM.pure (decide (0 < (((x6.len : Nat) : Int) : Int)), ())) (
  HM.pure (false, ()))) fun x7 =>
  HM.ite x7.1 (
  HM.bind (α := Addr) (HM.nonnil p0) fun x8 =>
  HM.bind (α := Slc) (HM.load1 .slc (Addr.add x8 4)) fun x9 =>
  HM.bind (α := Addr) (HM.idx x9.a x9.len 0 5) fun x10 =>
  HM.bind (α := ByteArray × ByteArray × Int × Bool × ByteArray × Unit) (HM.loadN [.str, .str, .int .i64, .bool, .str] x10) fun x11 =>
  HM.bind (α := Nat) (HM.new (.cells #[.string (ByteArray.mk #[]), .string (ByteArray.mk #[]), .int .i64 0, .bool false, .string (ByteArray.mk #[])] 50)) fun x12 =>
  HM.bind (α := Unit) (HM.storeN ⟨x12, 0, none⟩ [.string x11.1, .string x11.2.1, .int .i64 x11.2.2.1, .bool x11.2.2.2.1, .string x11.2.2.2.2.1]) fun _ =>
  HM.bind (α := Bool × Unit) (HM.bind (α := Int) (HM.load1 (.int .i64) (Addr.add ⟨x12, 0, none⟩ 2)) fun x13 =>
  HM.ite (decide (0 < (x13 : Int))) (
  HM.bind (α := Addr) (HM.nonnil p0) fun x14 =>
  HM.bind (α := Slc) (HM.load1 .slc (Addr.add x14 3)) fun x15 =>
  HM.bind (α := Addr) (HM.nonnil p0) fun x16 =>
  HM.bind (α := Int) (HM.load1 (.int .i64) (Addr.add x16 1)) fun x17 =>
  HM.pure (decide (x17 ≤ (((x15.len : Nat) : Int) : Int)), ())) (
  HM.pure (false, ()))) fun x18 =>
  HM.ite x18.1 (
  HM.pure (.inr (x2.1, ()))) (
  HM.bind (α := Addr) (HM.nonnil p0) fun x19 =>
  HM.bind (α := Slc) (HM.load1 .slc (Addr.add x19 4)) fun x20 =>
  HM.bind (α := Slc) (HM.slice x20 (some 1) none none 5) fun x21 =>
  HM.bind (α := Addr) (HM.nonnil p0) fun x22 =>
  HM.bind (α := Unit) (HM.store1 (Addr.add x22 4) (.slice x21.a x21.len x21.cap)) fun _ =>
  HM.bind (α := Int) (HM.load1 (.int .i64) (Addr.add ⟨x12, 0, none⟩ 2)) fun x23 =>
  HM.bind (α := Int × Unit) (HM.ite (decide (0 < (x23 : Int))) (
  HM.bind (α := Addr) (HM.nonnil p0) fun x25 =>
  HM.bind (α := Option Addr) (HM.load1 .ptr (Addr.add x25 0)) fun x26 =>
  HM.bind (α := Int × Int × Unit) (HM.callN Tryz.prog [.one (.int .i64), .one (.int .u8)] 117 #[.pointer x26]) fun x27 =>
  HM.bind (α := Addr) (HM.nonnil p0) fun x28 =>
  HM.bind (α := Slc) (HM.load1 .slc (Addr.add x28 3)) fun x29 =>
  HM.bind (α := ByteArray × ByteArray × Int × Bool × ByteArray × Unit) (HM.loadN [.str, .str, .int .i64, .bool, .str] ⟨x12, 0, none⟩) fun x30 =>
  HM.bind (α := Nat) (HM.new (.cells #[.int .i64 x27.1, .string x30.1, .string x30.2.1, .int .i64 x30.2.2.1, .bool x30.2.2.2.1, .string x30.2.2.2.2.1, .bool false] 158)) fun x31 =>
  HM.bind (α := Slc) (HM.load1 .slc (Addr.add x28 3)) fun x32 =>
  HM.req ((.slice x32.a x32.len x32.cap : Value) = .slice x29.a x29.len x29.cap) <|
  HM.bind (α := Slc) (HM.append 158 7 80 #[.int .i64 0, .string (ByteArray.mk #[]), .string (ByteArray.mk #[]), .int .i64 0, .bool false, .string (ByteArray.mk #[]), .bool false] x29 1 (srcSlc 7 (⟨some ⟨x31, 0, none⟩, 1, 1⟩))) fun x33 =>
  HM.bind (α := Addr) (HM.nonnil p0) fun x34 =>
  HM.bind (α := Unit) (HM.store1 (Addr.add x34 3) (.slice x33.a x33.len x33.cap)) fun _ =>
  HM.pure (x27.1, ())) (
  HM.pure (0, ()))) fun x24 =>
  HM.bind (α := ByteArray × ByteArray × Int × Bool × ByteArray × Unit) (HM.loadN [.str, .str, .int .i64, .bool, .str] ⟨x12, 0, none⟩) fun x35 =>
  HM.bind (α := Int × Bool × Bool × Int × Int × ByteArray × ByteArray × Int × Slc × Slc × ByteArray × Bool × Int × Bool × ByteArray × ByteArray × Int × Bool × Slc × Bool × Bool × ByteArray × ByteArray × Bool × Slc × Slc × Unit) (HM.call1 Tryz.prog (.agg [.int .i64, .bool, .bool, .int .i64, .int .i64, .str, .str, .int .u8, .slc, .slc, .str, .bool, .int .i64, .bool, .str, .str, .int .i64, .bool, .slc, .bool, .bool, .str, .str, .bool, .slc, .slc]) 81 #[.agg #[.string x35.1, .string x35.2.1, .int .i64 x35.2.2.1, .bool x35.2.2.2.1, .string x35.2.2.2.2.1], .int .i64 x24.1, .bool false]) fun x36 =>
  HM.bind (α := Nat) (HM.new (.cells #[.int .i64 x36.1, .bool x36.2.1, .bool x36.2.2.1, .int .i64 x36.2.2.2.1, .int .i64 x36.2.2.2.2.1, .string x36.2.2.2.2.2.1, .string x36.2.2.2.2.2.2.1, .int .u8 x36.2.2.2.2.2.2.2.1, .slice x36.2.2.2.2.2.2.2.2.1.a x36.2.2.2.2.2.2.2.2.1.len x36.2.2.2.2.2.2.2.2.1.cap, .slice x36.2.2.2.2.2.2.2.2.2.1.a x36.2.2.2.2.2.2.2.2.2.1.len x36.2.2.2.2.2.2.2.2.2.1.cap, .string x36.2.2.2.2.2.2.2.2.2.2.1, .bool x36.2.2.2.2.2.2.2.2.2.2.2.1, .int .i64 x36.2.2.2.2.2.2.2.2.2.2.2.2.1, .bool x36.2.2.2.2.2.2.2.2.2.2.2.2.2.1, .string x36.2.2.2.2.2.2.2.2.2.2.2.2.2.2.1, .string x36.2.2.2.2.2.2.2.2.2.2.2.2.2.2.2.1, .int .i64 x36.2.2.2.2.2.2.2.2.2.2.2.2.2.2.2.2.1, .bool x36.2.2.2.2.2.2.2.2.2.2.2.2.2.2.2.2.2.1, .slice x36.2.2.2.2.2.2.2.2.2.2.2.2.2.2.2.2.2.2.1.a x36.2.2.2.2.2.2.2.2.2.2.2.2.2.2.2.2.2.2.1.len x36.2.2.2.2.2.2.2.2.2.2.2.2.2.2.2.2.2.2.1.cap, .bool x36.2.2.2.2.2.2.2.2.2.2.2.2.2.2.2.2.2.2.2.1, .bool x36.2.2.2.2.2.2.2.2.2.2.2.2.2.2.2.2.2.2.2.2.1, .string x36.2.2.2.2.2.2.2.2.2.2.2.2.2.2.2.2.2.2.2.2.2.1, .string x36.2.2.2.2.2.2.2.2.2.2.2.2.2.2.2.2.2.2.2.2.2.2.1, .bool x36.2.2.2.2.2.2.2.2.2.2.2.2.2.2.2.2.2.2.2.2.2.2.2.1, .slice x36.2.2.2.2.2.2.2.2.2.2.2.2.2.2.2.2.2.2.2.2.2.2.2.2.1.a x36.2.2.2.2.2.2.2.2.2.2.2.2.2.2.2.2.2.2.2.2.2.2.2.2.1.len x36.2.2.2.2.2.2.2.2.2.2.2.2.2.2.2.2.2.2.2.2.2.2.2.2.1.cap, .slice x36.2.2.2.2.2.2.2.2.2.2.2.2.2.2.2.2.2.2.2.2.2.2.2.2.2.1.a x36.2.2.2.2.2.2.2.2.2.2.2.2.2.2.2.2.2.2.2.2.2.2.2.2.2.1.len x36.2.2.2.2.2.2.2.2.2.2.2.2.2.2.2.2.2.2.2.2.2.2.2.2.2.1.cap] 34)) fun x37 =>
  HM.bind (α := Slc) (HM.append 34 26 328 #[.int .i64 0, .bool false, .bool false, .int .i64 0, .int .i64 0, .string (ByteArray.mk #[]), .string (ByteArray.mk #[]), .int .u8 0, .slice none 0 0, .slice none 0 0, .string (ByteArray.mk #[]), .bool false, .int .i64 0, .bool false, .string (ByteArray.mk #[]), .string (ByteArray.mk #[]), .int .i64 0, .bool false, .slice none 0 0, .bool false, .bool false, .string (ByteArray.mk #[]), .string (ByteArray.mk #[]), .bool false, .slice none 0 0, .slice none 0 0] x2.1 1 (srcSlc 26 (⟨some ⟨x37, 0, none⟩, 1, 1⟩))) fun x38 =>
  HM.pure (.inl (x38, ())))) (
  HM.pure (.inr (x2.1, ())))) (p1, ())) fun x1 =>
  HM.pure (x1.1, ())
theorem outflow_Flow_goOn_den (p0 : Option Addr) (p1 : Slc) : denFn Tryz.prog [117, 81] 78 [0, 1, 4, 5, 6, 18, 39, 50] [0, 1, 5, 6, 18, 39, 50] Tryz.f78.results.toList [.one .slc] (bodyOf Tryz.f78) [Kind.val (.one .ptr) p0, Kind.val (.one .slc) p1] = outflow_Flow_goOn p0 p1 := by kernel_rfl
theorem outflow_Flow_goOn_calls (p0 : Option Addr) (p1 : Slc) (h : Heap) (Q : Value → Heap → Prop) (hh : outflow_Flow_goOn p0 p1 h fun x h' => Q (.slice x.1.a x.1.len x.1.cap) h') :
    HCalls Tryz.prog 78 #[.pointer p0, .slice p1.a p1.len p1.cap] h Q :=
  calls_of_eq Tryz.func78 (by kernel_rfl) Tryz.ntmps78 (by kernel_rfl) (CC Tryz.call117 (CC Tryz.call81 CN)) orders (outflow_Flow_goOn_den p0 p1) hh
def outflow_Message_packet (p0 : ByteArray × ByteArray × Int × Bool × ByteArray × Unit) (p1 : Int) (p2 : Bool) : HM ((Int × Bool × Bool × Int × Int × ByteArray × ByteArray × Int × Slc × Slc × ByteArray × Bool × Int × Bool × ByteArray × ByteArray × Int × Bool × Slc × Bool × Bool × ByteArray × ByteArray × Bool × Slc × Slc × Unit) × Unit) :=
  HM.bind (α := Nat) (HM.new (.cells #[.string p0.1, .string p0.2.1, .int .i64 p0.2.2.1, .bool p0.2.2.2.1, .string p0.2.2.2.2.1] 50)) fun x1 =>
  HM.bind (α := Nat) (HM.new (.cells #[.int .i64 0, .bool false, .bool false, .int .i64 0, .int .i64 0, .string (ByteArray.mk #[]), .string (ByteArray.mk #[]), .int .u8 0, .slice none 0 0, .slice none 0 0, .string (ByteArray.mk #[]), .bool false, .int .i64 0, .bool false, .string (ByteArray.mk #[]), .string (ByteArray.mk #[]), .int .i64 0, .bool false, .slice none 0 0, .bool false, .bool false, .string (ByteArray.mk #[]), .string (ByteArray.mk #[]), .bool false, .slice none 0 0, .slice none 0 0] 34)) fun x2 =>
  HM.bind (α := Int) (HM.load1 (.int .i64) (Addr.add ⟨x1, 0, none⟩ 2)) fun x3 =>
  HM.bind (α := Bool) (HM.load1 .bool (Addr.add ⟨x1, 0, none⟩ 3)) fun x4 =>
  HM.bind (α := ByteArray) (HM.load1 .str (Addr.add ⟨x1, 0, none⟩ 0)) fun x5 =>
  HM.bind (α := ByteArray) (HM.load1 .str (Addr.add ⟨x1, 0, none⟩ 1)) fun x6 =>
  HM.bind (α := Nat) (HM.new (.cells #[.int .i64 0, .bool false, .bool false, .int .i64 0, .int .i64 0, .string (ByteArray.mk #[]), .string (ByteArray.mk #[]), .int .u8 0, .slice none 0 0, .slice none 0 0, .string (ByteArray.mk #[]), .bool false, .int .i64 0, .bool false, .string (ByteArray.mk #[]), .string (ByteArray.mk #[]), .int .i64 0, .bool false, .slice none 0 0, .bool false, .bool false, .string (ByteArray.mk #[]), .string (ByteArray.mk #[]), .bool false, .slice none 0 0, .slice none 0 0] 34)) fun x7 =>
  HM.bind (α := Unit) (HM.storeN ⟨x7, 0, none⟩ [.int .i64 3, .bool p2, .bool x4, .int .i64 x3, .int .i64 p1, .string x5, .string x6, .int .u8 0, .slice none 0 0, .slice none 0 0, .string (ByteArray.mk #[]), .bool false, .int .i64 0, .bool false, .string (ByteArray.mk #[]), .string (ByteArray.mk #[]), .int .i64 0, .bool false, .slice none 0 0, .bool false, .bool false, .string (ByteArray.mk #[]), .string (ByteArray.mk #[]), .bool false, .slice none 0 0, .slice none 0 0]) fun _ =>
  HM.bind (α := ByteArray) (HM.load1 .str (Addr.add ⟨x1, 0, none⟩ 4)) fun x8 =>
  HM.bind (α := Unit) (HM.ite (!(decide (x8 = (ByteArray.mk #[])))) (
  HM.bind (α := ByteArray) (HM.load1 .str (Addr.add ⟨x1, 0, none⟩ 4)) fun x10 =>
  HM.bind (α := Nat) (HM.new (.cells #[.int .i64 38, .int .i64 0, .string (ByteArray.mk #[116, 97, 103]), .string x10] 44)) fun x11 =>
  HM.bind (α := Unit) (HM.store1 (Addr.add ⟨x7, 0, none⟩ 9) (.slice (some ⟨x11, 0, none⟩) 1 1)) fun _ =>
  HM.pure ()) (
  HM.pure ())) fun x9 =>
  HM.bind (α := Int × Bool × Bool × Int × Int × ByteArray × ByteArray × Int × Slc × Slc × ByteArray × Bool × Int × Bool × ByteArray × ByteArray × Int × Bool × Slc × Bool × Bool × ByteArray × ByteArray × Bool × Slc × Slc × Unit) (HM.loadN [.int .i64, .bool, .bool, .int .i64, .int .i64, .str, .str, .int .u8, .slc, .slc, .str, .bool, .int .i64, .bool, .str, .str, .int .i64, .bool, .slc, .bool, .bool, .str, .str, .bool, .slc, .slc] ⟨x7, 0, none⟩) fun x12 =>
  HM.bind (α := Unit) (HM.storeN ⟨x2, 0, none⟩ [.int .i64 x12.1, .bool x12.2.1, .bool x12.2.2.1, .int .i64 x12.2.2.2.1, .int .i64 x12.2.2.2.2.1, .string x12.2.2.2.2.2.1, .string x12.2.2.2.2.2.2.1, .int .u8 x12.2.2.2.2.2.2.2.1, .slice x12.2.2.2.2.2.2.2.2.1.a x12.2.2.2.2.2.2.2.2.1.len x12.2.2.2.2.2.2.2.2.1.cap, .slice x12.2.2.2.2.2.2.2.2.2.1.a x12.2.2.2.2.2.2.2.2.2.1.len x12.2.2.2.2.2.2.2.2.2.1.cap, .string x12.2.2.2.2.2.2.2.2.2.2.1, .bool x12.2.2.2.2.2.2.2.2.2.2.2.1, .int .i64 x12.2.2.2.2.2.2.2.2.2.2.2.2.1, .bool x12.2.2.2.2.2.2.2.2.2.2.2.2.2.1, .string x12.2.2.2.2.2.2.2.2.2.2.2.2.2.2.1, .string x12.2.2.2.2.2.2.2.2.2.2.2.2.2.2.2.1, .int .i64 x12.2.2.2.2.2.2.2.2.2.2.2.2.2.2.2.2.1, .bool x12.2.2.2.2.2.2.2.2.2.2.2.2.2.2.2.2.2.1, .slice x12.2.2.2.2.2.2.2.2.2.2.2.2.2.2.2.2.2.2.1.a x12.2.2.2.2.2.2.2.2.2.2.2.2.2.2.2.2.2.2.1.len x12.2.2.2.2.2.2.2.2.2.2.2.2.2.2.2.2.2.2.1.cap, .bool x12.2.2.2.2.2.2.2.2.2.2.2.2.2.2.2.2.2.2.2.1, .bool x12.2.2.2.2.2.2.2.2.2.2.2.2.2.2.2.2.2.2.2.2.1, .string x12.2.2.2.2.2.2.2.2.2.2.2.2.2.2.2.2.2.2.2.2.2.1, .string x12.2.2.2.2.2.2.2.2.2.2.2.2.2.2.2.2.2.2.2.2.2.2.1, .bool x12.2.2.2.2.2.2.2.2.2.2.2.2.2.2.2.2.2.2.2.2.2.2.2.1, .slice x12.2.2.2.2.2.2.2.2.2.2.2.2.2.2.2.2.2.2.2.2.2.2.2.2.1.a x12.2.2.2.2.2.2.2.2.2.2.2.2.2.2.2.2.2.2.2.2.2.2.2.2.1.len x12.2.2.2.2.2.2.2.2.2.2.2.2.2.2.2.2.2.2.2.2.2.2.2.2.1.cap, .slice x12.2.2.2.2.2.2.2.2.2.2.2.2.2.2.2.2.2.2.2.2.2.2.2.2.2.1.a x12.2.2.2.2.2.2.2.2.2.2.2.2.2.2.2.2.2.2.2.2.2.2.2.2.2.1.len x12.2.2.2.2.2.2.2.2.2.2.2.2.2.2.2.2.2.2.2.2.2.2.2.2.2.1.cap]) fun _ =>
  HM.bind (α := Int × Bool × Bool × Int × Int × ByteArray × ByteArray × Int × Slc × Slc × ByteArray × Bool × Int × Bool × ByteArray × ByteArray × Int × Bool × Slc × Bool × Bool × ByteArray × ByteArray × Bool × Slc × Slc × Unit) (HM.loadN [.int .i64, .bool, .bool, .int .i64, .int .i64, .str, .str, .int .u8, .slc, .slc, .str, .bool, .int .i64, .bool, .str, .str, .int .i64, .bool, .slc, .bool, .bool, .str, .str, .bool, .slc, .slc] ⟨x2, 0, none⟩) fun x13 =>
  HM.pure ((x13.1, x13.2.1, x13.2.2.1, x13.2.2.2.1, x13.2.2.2.2.1, x13.2.2.2.2.2.1, x13.2.2.2.2.2.2.1, x13.2.2.2.2.2.2.2.1, x13.2.2.2.2.2.2.2.2.1, x13.2.2.2.2.2.2.2.2.2.1, x13.2.2.2.2.2.2.2.2.2.2.1, x13.2.2.2.2.2.2.2.2.2.2.2.1, x13.2.2.2.2.2.2.2.2.2.2.2.2.1, x13.2.2.2.2.2.2.2.2.2.2.2.2.2.1, x13.2.2.2.2.2.2.2.2.2.2.2.2.2.2.1, x13.2.2.2.2.2.2.2.2.2.2.2.2.2.2.2.1, x13.2.2.2.2.2.2.2.2.2.2.2.2.2.2.2.2.1, x13.2.2.2.2.2.2.2.2.2.2.2.2.2.2.2.2.2.1, x13.2.2.2.2.2.2.2.2.2.2.2.2.2.2.2.2.2.2.1, x13.2.2.2.2.2.2.2.2.2.2.2.2.2.2.2.2.2.2.2.1, x13.2.2.2.2.2.2.2.2.2.2.2.2.2.2.2.2.2.2.2.2.1, x13.2.2.2.2.2.2.2.2.2.2.2.2.2.2.2.2.2.2.2.2.2.1, x13.2.2.2.2.2.2.2.2.2.2.2.2.2.2.2.2.2.2.2.2.2.2.1, x13.2.2.2.2.2.2.2.2.2.2.2.2.2.2.2.2.2.2.2.2.2.2.2.1, x13.2.2.2.2.2.2.2.2.2.2.2.2.2.2.2.2.2.2.2.2.2.2.2.2.1, x13.2.2.2.2.2.2.2.2.2.2.2.2.2.2.2.2.2.2.2.2.2.2.2.2.2.1, ()), ())
theorem outflow_Message_packet_den (p0 : ByteArray × ByteArray × Int × Bool × ByteArray × Unit) (p1 : Int) (p2 : Bool) : denFn Tryz.prog [] 28 [0, 1, 2, 3, 6, 7, 21] [0, 1, 2, 3, 6, 7, 21] Tryz.f81.results.toList [.agg [.int .i64, .bool, .bool, .int .i64, .int .i64, .str, .str, .int .u8, .slc, .slc, .str, .bool, .int .i64, .bool, .str, .str, .int .i64, .bool, .slc, .bool, .bool, .str, .str, .bool, .slc, .slc]] (bodyOf Tryz.f81) [Kind.val (.agg [.str, .str, .int .i64, .bool, .str]) p0, Kind.val (.one (.int .i64)) p1, Kind.val (.one .bool) p2] = outflow_Message_packet p0 p1 p2 := by kernel_rfl
theorem outflow_Message_packet_calls (p0 : ByteArray × ByteArray × Int × Bool × ByteArray × Unit) (p1 : Int) (p2 : Bool) (h : Heap) (Q : Value → Heap → Prop) (hh : outflow_Message_packet p0 p1 p2 h fun x h' => Q (.agg #[.int .i64 x.1.1, .bool x.1.2.1, .bool x.1.2.2.1, .int .i64 x.1.2.2.2.1, .int .i64 x.1.2.2.2.2.1, .string x.1.2.2.2.2.2.1, .string x.1.2.2.2.2.2.2.1, .int .u8 x.1.2.2.2.2.2.2.2.1, .slice x.1.2.2.2.2.2.2.2.2.1.a x.1.2.2.2.2.2.2.2.2.1.len x.1.2.2.2.2.2.2.2.2.1.cap, .slice x.1.2.2.2.2.2.2.2.2.2.1.a x.1.2.2.2.2.2.2.2.2.2.1.len x.1.2.2.2.2.2.2.2.2.2.1.cap, .string x.1.2.2.2.2.2.2.2.2.2.2.1, .bool x.1.2.2.2.2.2.2.2.2.2.2.2.1, .int .i64 x.1.2.2.2.2.2.2.2.2.2.2.2.2.1, .bool x.1.2.2.2.2.2.2.2.2.2.2.2.2.2.1, .string x.1.2.2.2.2.2.2.2.2.2.2.2.2.2.2.1, .string x.1.2.2.2.2.2.2.2.2.2.2.2.2.2.2.2.1, .int .i64 x.1.2.2.2.2.2.2.2.2.2.2.2.2.2.2.2.2.1, .bool x.1.2.2.2.2.2.2.2.2.2.2.2.2.2.2.2.2.2.1, .slice x.1.2.2.2.2.2.2.2.2.2.2.2.2.2.2.2.2.2.2.1.a x.1.2.2.2.2.2.2.2.2.2.2.2.2.2.2.2.2.2.2.1.len x.1.2.2.2.2.2.2.2.2.2.2.2.2.2.2.2.2.2.2.1.cap, .bool x.1.2.2.2.2.2.2.2.2.2.2.2.2.2.2.2.2.2.2.2.1, .bool x.1.2.2.2.2.2.2.2.2.2.2.2.2.2.2.2.2.2.2.2.2.1, .string x.1.2.2.2.2.2.2.2.2.2.2.2.2.2.2.2.2.2.2.2.2.2.1, .string x.1.2.2.2.2.2.2.2.2.2.2.2.2.2.2.2.2.2.2.2.2.2.2.1, .bool x.1.2.2.2.2.2.2.2.2.2.2.2.2.2.2.2.2.2.2.2.2.2.2.2.1, .slice x.1.2.2.2.2.2.2.2.2.2.2.2.2.2.2.2.2.2.2.2.2.2.2.2.2.1.a x.1.2.2.2.2.2.2.2.2.2.2.2.2.2.2.2.2.2.2.2.2.2.2.2.2.1.len x.1.2.2.2.2.2.2.2.2.2.2.2.2.2.2.2.2.2.2.2.2.2.2.2.2.1.cap, .slice x.1.2.2.2.2.2.2.2.2.2.2.2.2.2.2.2.2.2.2.2.2.2.2.2.2.2.1.a x.1.2.2.2.2.2.2.2.2.2.2.2.2.2.2.2.2.2.2.2.2.2.2.2.2.2.1.len x.1.2.2.2.2.2.2.2.2.2.2.2.2.2.2.2.2.2.2.2.2.2.2.2.2.2.1.cap]) h') :
    HCalls Tryz.prog 81 #[.agg #[.string p0.1, .string p0.2.1, .int .i64 p0.2.2.1, .bool p0.2.2.2.1, .string p0.2.2.2.2.1], .int .i64 p1, .bool p2] h Q :=
  calls_of_eq Tryz.func81 (by kernel_rfl) Tryz.ntmps81 (by kernel_rfl) CN orders (outflow_Message_packet_den p0 p1 p2) hh
def packet_Kind_flags (p0 : Int) : HM (Int × Unit) :=
  HM.bind (α := Bool × Unit) (HM.ite (p0 == 6) (
  HM.pure (p0 == 6, ())) (
  HM.bind (α := Bool × Unit) (HM.ite (p0 == 8) (
  HM.pure (p0 == 8, ())) (
  HM.pure (p0 == 10, ()))) fun x2 =>
  HM.pure (x2.1, ()))) fun x1 =>
  HM.ite x1.1 (
  HM.pure (2, ())) (
  HM.pure (0, ()))
theorem packet_Kind_flags_den (p0 : Int) : denFn Tryz.prog [] 8 [0, 2, 3, 4] [0, 3, 4] Tryz.f82.results.toList [.one (.int .i64)] (bodyOf Tryz.f82) [Kind.val (.one (.int .i64)) p0] = packet_Kind_flags p0 := by kernel_rfl
theorem packet_Kind_flags_calls (p0 : Int) (h : Heap) (Q : Value → Heap → Prop) (hh : packet_Kind_flags p0 h fun x h' => Q (.int .i64 x.1) h') :
    HCalls Tryz.prog 82 #[.int .i64 p0] h Q :=
  calls_of_eq Tryz.func82 (by kernel_rfl) Tryz.ntmps82 (by kernel_rfl) CN orders (packet_Kind_flags_den p0) hh
def packet_writer_qos (p0 : Option Addr) (p1 : Int) : HM (Unit) :=
  HM.bind (α := Bool × Unit) (HM.ite (decide (p1 < (0 : Int))) (
  HM.pure (true, ())) (
  HM.pure (decide (2 < (p1 : Int)), ()))) fun x1 =>
  HM.bind (α := Unit) (HM.ite x1.1 (
  HM.bind (α := Unit) (HM.callN Tryz.prog [] 84 #[.pointer p0, .int .u8 129]) fun x3 =>
  HM.pure ()) (
  HM.pure ())) fun x2 =>
  HM.pure ()
theorem packet_writer_qos_den (p0 : Option Addr) (p1 : Int) : denFn Tryz.prog [84] 12 [0, 1, 9] [0, 1, 9] Tryz.f83.results.toList [] (bodyOf Tryz.f83) [Kind.val (.one .ptr) p0, Kind.val (.one (.int .i64)) p1] = packet_writer_qos p0 p1 := by kernel_rfl
theorem packet_writer_qos_calls (p0 : Option Addr) (p1 : Int) (h : Heap) (Q : Value → Heap → Prop) (hh : packet_writer_qos p0 p1 h fun x h' => Q (.tuple #[]) h') :
    HCalls Tryz.prog 83 #[.pointer p0, .int .i64 p1] h Q :=
  calls_of_eq Tryz.func83 (by kernel_rfl) Tryz.ntmps83 (by kernel_rfl) (CC Tryz.call84 CN) orders (packet_writer_qos_den p0 p1) hh
def packet_writer_fail (p0 : Option Addr) (p1 : Int) : HM (Unit) :=
  HM.bind (α := Addr) (HM.nonnil p0) fun x1 =>
  HM.bind (α := Int) (HM.load1 (.int .u8) (Addr.add x1 2)) fun x2 =>
  HM.bind (α := Unit) (HM.ite (x2 == 0) (
  HM.bind (α := Addr) (HM.nonnil p0) fun x4 =>
  HM.bind (α := Unit) (HM.store1 (Addr.add x4 2) (.int .u8 p1)) fun _ =>
  HM.pure ()) (
  HM.pure ())) fun x3 =>
  HM.pure ()
theorem packet_writer_fail_den (p0 : Option Addr) (p1 : Int) : denFn Tryz.prog [] 13 [0, 1, 8] [0, 1, 8] Tryz.f84.results.toList [] (bodyOf Tryz.f84) [Kind.val (.one .ptr) p0, Kind.val (.one (.int .u8)) p1] = packet_writer_fail p0 p1 := by kernel_rfl
theorem packet_writer_fail_calls (p0 : Option Addr) (p1 : Int) (h : Heap) (Q : Value → Heap → Prop) (hh : packet_writer_fail p0 p1 h fun x h' => Q (.tuple #[]) h') :
    HCalls Tryz.prog 84 #[.pointer p0, .int .u8 p1] h Q :=
  calls_of_eq Tryz.func84 (by kernel_rfl) Tryz.ntmps84 (by kernel_rfl) CN orders (packet_writer_fail_den p0 p1) hh
def packet_bit (p0 : Bool) (p1 : Int) : HM (Int × Unit) :=
  HM.ite p0 (
  HM.pure (p1, ())) (
  HM.pure (0, ()))
theorem packet_bit_den (p0 : Bool) (p1 : Int) : denFn Tryz.prog [] 7 [0, 1, 4, 5] [0, 1, 5] Tryz.f85.results.toList [.one (.int .i64)] (bodyOf Tryz.f85) [Kind.val (.one .bool) p0, Kind.val (.one (.int .i64)) p1] = packet_bit p0 p1 := by kernel_rfl
theorem packet_bit_calls (p0 : Bool) (p1 : Int) (h : Heap) (Q : Value → Heap → Prop) (hh : packet_bit p0 p1 h fun x h' => Q (.int .i64 x.1) h') :
    HCalls Tryz.prog 85 #[.bool p0, .int .i64 p1] h Q :=
  calls_of_eq Tryz.func85 (by kernel_rfl) Tryz.ntmps85 (by kernel_rfl) CN orders (packet_bit_den p0 p1) hh
def packet_writer_body (p0 : Option Addr) (p1 : Int × Bool × Bool × Int × Int × ByteArray × ByteArray × Int × Slc × Slc × ByteArray × Bool × Int × Bool × ByteArray × ByteArray × Int × Bool × Slc × Bool × Bool × ByteArray × ByteArray × Bool × Slc × Slc × Unit) : HM (Unit) :=
  HM.bind (α := Nat) (HM.new (.cells #[.int .i64 p1.1, .bool p1.2.1, .bool p1.2.2.1, .int .i64 p1.2.2.2.1, .int .i64 p1.2.2.2.2.1, .string p1.2.2.2.2.2.1, .string p1.2.2.2.2.2.2.1, .int .u8 p1.2.2.2.2.2.2.2.1, .slice p1.2.2.2.2.2.2.2.2.1.a p1.2.2.2.2.2.2.2.2.1.len p1.2.2.2.2.2.2.2.2.1.cap, .slice p1.2.2.2.2.2.2.2.2.2.1.a p1.2.2.2.2.2.2.2.2.2.1.len p1.2.2.2.2.2.2.2.2.2.1.cap, .string p1.2.2.2.2.2.2.2.2.2.2.1, .bool p1.2.2.2.2.2.2.2.2.2.2.2.1, .int .i64 p1.2.2.2.2.2.2.2.2.2.2.2.2.1, .bool p1.2.2.2.2.2.2.2.2.2.2.2.2.2.1, .string p1.2.2.2.2.2.2.2.2.2.2.2.2.2.2.1, .string p1.2.2.2.2.2.2.2.2.2.2.2.2.2.2.2.1, .int .i64 p1.2.2.2.2.2.2.2.2.2.2.2.2.2.2.2.2.1, .bool p1.2.2.2.2.2.2.2.2.2.2.2.2.2.2.2.2.2.1, .slice p1.2.2.2.2.2.2.2.2.2.2.2.2.2.2.2.2.2.2.1.a p1.2.2.2.2.2.2.2.2.2.2.2.2.2.2.2.2.2.2.1.len p1.2.2.2.2.2.2.2.2.2.2.2.2.2.2.2.2.2.2.1.cap, .bool p1.2.2.2.2.2.2.2.2.2.2.2.2.2.2.2.2.2.2.2.1, .bool p1.2.2.2.2.2.2.2.2.2.2.2.2.2.2.2.2.2.2.2.2.1, .string p1.2.2.2.2.2.2.2.2.2.2.2.2.2.2.2.2.2.2.2.2.2.1, .string p1.2.2.2.2.2.2.2.2.2.2.2.2.2.2.2.2.2.2.2.2.2.2.1, .bool p1.2.2.2.2.2.2.2.2.2.2.2.2.2.2.2.2.2.2.2.2.2.2.2.1, .slice p1.2.2.2.2.2.2.2.2.2.2.2.2.2.2.2.2.2.2.2.2.2.2.2.2.1.a p1.2.2.2.2.2.2.2.2.2.2.2.2.2.2.2.2.2.2.2.2.2.2.2.2.1.len p1.2.2.2.2.2.2.2.2.2.2.2.2.2.2.2.2.2.2.2.2.2.2.2.2.1.cap, .slice p1.2.2.2.2.2.2.2.2.2.2.2.2.2.2.2.2.2.2.2.2.2.2.2.2.2.1.a p1.2.2.2.2.2.2.2.2.2.2.2.2.2.2.2.2.2.2.2.2.2.2.2.2.2.1.len p1.2.2.2.2.2.2.2.2.2.2.2.2.2.2.2.2.2.2.2.2.2.2.2.2.2.1.cap] 34)) fun x1 =>
  HM.bind (α := Int) (HM.load1 (.int .i64) (Addr.add ⟨x1, 0, none⟩ 0)) fun x2 =>
  HM.bind (α := Unit) (HM.bind (α := (Unit) ⊕ Unit) (HM.bind (α := (Unit) ⊕ ((Unit) ⊕ Unit)) (HM.bind (α := (Unit) ⊕ ((Unit) ⊕ ((Unit) ⊕ Unit))) (HM.bind (α := (Unit) ⊕ ((Unit) ⊕ ((Unit) ⊕ ((Unit) ⊕ Unit)))) (HM.bind (α := (Unit) ⊕ ((Unit) ⊕ ((Unit) ⊕ ((Unit) ⊕ ((Unit) ⊕ Unit))))) (HM.bind (α := (Unit) ⊕ ((Unit) ⊕ ((Unit) ⊕ ((Unit) ⊕ ((Unit) ⊕ ((Unit) ⊕ Unit)))))) (HM.ite (x2 == 1) (
  HM.pure (.inl ())) (
  HM.ite (x2 == 2) (
  HM.pure (.inr (.inl ()))) (
  HM.ite (x2 == 3) (
  HM.pure (.inr (.inr (.inl ())))) (
  HM.bind (α := Bool × Unit) (HM.ite (x2 == 4) (
  HM.pure (x2 == 4, ())) (
  HM.bind (α := Bool × Unit) (HM.ite (x2 == 5) (
  HM.pure (x2 == 5, ())) (
  HM.bind (α := Bool × Unit) (HM.ite (x2 == 6) (
  HM.pure (x2 == 6, ())) (
  HM.pure (x2 == 7, ()))) fun x12 =>
  HM.pure (x12.1, ()))) fun x11 =>
  HM.pure (x11.1, ()))) fun x10 =>
  HM.ite x10.1 (
  HM.pure (.inr (.inr (.inr (.inl ()))))) (
  HM.bind (α := Bool × Unit) (HM.ite (x2 == 14) (
  HM.pure (x2 == 14, ())) (
  HM.pure (x2 == 15, ()))) fun x13 =>
  HM.ite x13.1 (
  HM.pure (.inr (.inr (.inr (.inr (.inl ())))))) (
  HM.bind (α := Bool × Unit) (HM.ite (x2 == 8) (
  HM.pure (x2 == 8, ())) (
  HM.bind (α := Bool × Unit) (HM.ite (x2 == 9) (
  HM.pure (x2 == 9, ())) (
  HM.bind (α := Bool × Unit) (HM.ite (x2 == 10) (
  HM.pure (x2 == 10, ())) (
  HM.pure (x2 == 11, ()))) fun x16 =>
  HM.pure (x16.1, ()))) fun x15 =>
  HM.pure (x15.1, ()))) fun x14 =>
  HM.ite x14.1 (
  HM.pure (.inr (.inr (.inr (.inr (.inr (.inl ()))))))) (
  HM.pure (.inr (.inr (.inr (.inr (.inr (.inr ()))))))))))))) (Sum.elim (fun x9 =>
  HM.bind (α := Int × Bool × Bool × Int × Int × ByteArray × ByteArray × Int × Slc × Slc × ByteArray × Bool × Int × Bool × ByteArray × ByteArray × Int × Bool × Slc × Bool × Bool × ByteArray × ByteArray × Bool × Slc × Slc × Unit) (HM.loadN [.int .i64, .bool, .bool, .int .i64, .int .i64, .str, .str, .int .u8, .slc, .slc, .str, .bool, .int .i64, .bool, .str, .str, .int .i64, .bool, .slc, .bool, .bool, .str, .str, .bool, .slc, .slc] ⟨x1, 0, none⟩) fun x17 =>
  HM.bind (α := Unit) (HM.callN Tryz.prog [] 120 #[.pointer p0, .agg #[.int .i64 x17.1, .bool x17.2.1, .bool x17.2.2.1, .int .i64 x17.2.2.2.1, .int .i64 x17.2.2.2.2.1, .string x17.2.2.2.2.2.1, .string x17.2.2.2.2.2.2.1, .int .u8 x17.2.2.2.2.2.2.2.1, .slice x17.2.2.2.2.2.2.2.2.1.a x17.2.2.2.2.2.2.2.2.1.len x17.2.2.2.2.2.2.2.2.1.cap, .slice x17.2.2.2.2.2.2.2.2.2.1.a x17.2.2.2.2.2.2.2.2.2.1.len x17.2.2.2.2.2.2.2.2.2.1.cap, .string x17.2.2.2.2.2.2.2.2.2.2.1, .bool x17.2.2.2.2.2.2.2.2.2.2.2.1, .int .i64 x17.2.2.2.2.2.2.2.2.2.2.2.2.1, .bool x17.2.2.2.2.2.2.2.2.2.2.2.2.2.1, .string x17.2.2.2.2.2.2.2.2.2.2.2.2.2.2.1, .string x17.2.2.2.2.2.2.2.2.2.2.2.2.2.2.2.1, .int .i64 x17.2.2.2.2.2.2.2.2.2.2.2.2.2.2.2.2.1, .bool x17.2.2.2.2.2.2.2.2.2.2.2.2.2.2.2.2.2.1, .slice x17.2.2.2.2.2.2.2.2.2.2.2.2.2.2.2.2.2.2.1.a x17.2.2.2.2.2.2.2.2.2.2.2.2.2.2.2.2.2.2.1.len x17.2.2.2.2.2.2.2.2.2.2.2.2.2.2.2.2.2.2.1.cap, .bool x17.2.2.2.2.2.2.2.2.2.2.2.2.2.2.2.2.2.2.2.1, .bool x17.2.2.2.2.2.2.2.2.2.2.2.2.2.2.2.2.2.2.2.2.1, .string x17.2.2.2.2.2.2.2.2.2.2.2.2.2.2.2.2.2.2.2.2.2.1, .string x17.2.2.2.2.2.2.2.2.2.2.2.2.2.2.2.2.2.2.2.2.2.2.1, .bool x17.2.2.2.2.2.2.2.2.2.2.2.2.2.2.2.2.2.2.2.2.2.2.2.1, .slice x17.2.2.2.2.2.2.2.2.2.2.2.2.2.2.2.2.2.2.2.2.2.2.2.2.1.a x17.2.2.2.2.2.2.2.2.2.2.2.2.2.2.2.2.2.2.2.2.2.2.2.2.1.len x17.2.2.2.2.2.2.2.2.2.2.2.2.2.2.2.2.2.2.2.2.2.2.2.2.1.cap, .slice x17.2.2.2.2.2.2.2.2.2.2.2.2.2.2.2.2.2.2.2.2.2.2.2.2.2.1.a x17.2.2.2.2.2.2.2.2.2.2.2.2.2.2.2.2.2.2.2.2.2.2.2.2.2.1.len x17.2.2.2.2.2.2.2.2.2.2.2.2.2.2.2.2.2.2.2.2.2.2.2.2.2.1.cap]]) fun x18 =>
  HM.pure (.inr (.inr (.inr (.inr (.inr ())))))) HM.pure)) (Sum.elim (fun x8 =>
  HM.bind (α := Bool) (HM.load1 .bool (Addr.add ⟨x1, 0, none⟩ 23)) fun x19 =>
  HM.bind (α := Int) (HM.call1 Tryz.prog (.one (.int .i64)) 85 #[.bool x19, .int .i64 1]) fun x20 =>
  HM.bind (α := Unit) (HM.callN Tryz.prog [] 121 #[.pointer p0, .int .i64 x20]) fun x21 =>
  HM.bind (α := Int) (HM.load1 (.int .u8) (Addr.add ⟨x1, 0, none⟩ 7)) fun x22 =>
  HM.bind (α := Unit) (HM.callN Tryz.prog [] 121 #[.pointer p0, .int .i64 (IntKind.wrap .i64 x22)]) fun x23 =>
  HM.bind (α := Slc) (HM.load1 .slc (Addr.add ⟨x1, 0, none⟩ 9)) fun x24 =>
  HM.bind (α := Unit) (HM.callN Tryz.prog [] 122 #[.pointer p0, .int .i64 2, .slice x24.a x24.len x24.cap]) fun x25 =>
  HM.pure (.inr (.inr (.inr (.inr ()))))) HM.pure)) (Sum.elim (fun x7 =>
  HM.bind (α := Int × Bool × Bool × Int × Int × ByteArray × ByteArray × Int × Slc × Slc × ByteArray × Bool × Int × Bool × ByteArray × ByteArray × Int × Bool × Slc × Bool × Bool × ByteArray × ByteArray × Bool × Slc × Slc × Unit) (HM.loadN [.int .i64, .bool, .bool, .int .i64, .int .i64, .str, .str, .int .u8, .slc, .slc, .str, .bool, .int .i64, .bool, .str, .str, .int .i64, .bool, .slc, .bool, .bool, .str, .str, .bool, .slc, .slc] ⟨x1, 0, none⟩) fun x26 =>
  HM.bind (α := Unit) (HM.callN Tryz.prog [] 123 #[.pointer p0, .agg #[.int .i64 x26.1, .bool x26.2.1, .bool x26.2.2.1, .int .i64 x26.2.2.2.1, .int .i64 x26.2.2.2.2.1, .string x26.2.2.2.2.2.1, .string x26.2.2.2.2.2.2.1, .int .u8 x26.2.2.2.2.2.2.2.1, .slice x26.2.2.2.2.2.2.2.2.1.a x26.2.2.2.2.2.2.2.2.1.len x26.2.2.2.2.2.2.2.2.1.cap, .slice x26.2.2.2.2.2.2.2.2.2.1.a x26.2.2.2.2.2.2.2.2.2.1.len x26.2.2.2.2.2.2.2.2.2.1.cap, .string x26.2.2.2.2.2.2.2.2.2.2.1, .bool x26.2.2.2.2.2.2.2.2.2.2.2.1, .int .i64 x26.2.2.2.2.2.2.2.2.2.2.2.2.1, .bool x26.2.2.2.2.2.2.2.2.2.2.2.2.2.1, .string x26.2.2.2.2.2.2.2.2.2.2.2.2.2.2.1, .string x26.2.2.2.2.2.2.2.2.2.2.2.2.2.2.2.1, .int .i64 x26.2.2.2.2.2.2.2.2.2.2.2.2.2.2.2.2.1, .bool x26.2.2.2.2.2.2.2.2.2.2.2.2.2.2.2.2.2.1, .slice x26.2.2.2.2.2.2.2.2.2.2.2.2.2.2.2.2.2.2.1.a x26.2.2.2.2.2.2.2.2.2.2.2.2.2.2.2.2.2.2.1.len x26.2.2.2.2.2.2.2.2.2.2.2.2.2.2.2.2.2.2.1.cap, .bool x26.2.2.2.2.2.2.2.2.2.2.2.2.2.2.2.2.2.2.2.1, .bool x26.2.2.2.2.2.2.2.2.2.2.2.2.2.2.2.2.2.2.2.2.1, .string x26.2.2.2.2.2.2.2.2.2.2.2.2.2.2.2.2.2.2.2.2.2.1, .string x26.2.2.2.2.2.2.2.2.2.2.2.2.2.2.2.2.2.2.2.2.2.2.1, .bool x26.2.2.2.2.2.2.2.2.2.2.2.2.2.2.2.2.2.2.2.2.2.2.2.1, .slice x26.2.2.2.2.2.2.2.2.2.2.2.2.2.2.2.2.2.2.2.2.2.2.2.2.1.a x26.2.2.2.2.2.2.2.2.2.2.2.2.2.2.2.2.2.2.2.2.2.2.2.2.1.len x26.2.2.2.2.2.2.2.2.2.2.2.2.2.2.2.2.2.2.2.2.2.2.2.2.1.cap, .slice x26.2.2.2.2.2.2.2.2.2.2.2.2.2.2.2.2.2.2.2.2.2.2.2.2.2.1.a x26.2.2.2.2.2.2.2.2.2.2.2.2.2.2.2.2.2.2.2.2.2.2.2.2.2.1.len x26.2.2.2.2.2.2.2.2.2.2.2.2.2.2.2.2.2.2.2.2.2.2.2.2.2.1.cap]]) fun x27 =>
  HM.pure (.inr (.inr (.inr ())))) HM.pure)) (Sum.elim (fun x6 =>
  HM.bind (α := Int) (HM.load1 (.int .i64) (Addr.add ⟨x1, 0, none⟩ 4)) fun x28 =>
  HM.bind (α := Unit) (HM.callN Tryz.prog [] 124 #[.pointer p0, .int .i64 x28]) fun x29 =>
  HM.pure (.inl ())) HM.pure)) (Sum.elim (fun x5 =>
  HM.bind (α := Int × Bool × Bool × Int × Int × ByteArray × ByteArray × Int × Slc × Slc × ByteArray × Bool × Int × Bool × ByteArray × ByteArray × Int × Bool × Slc × Bool × Bool × ByteArray × ByteArray × Bool × Slc × Slc × Unit) (HM.loadN [.int .i64, .bool, .bool, .int .i64, .int .i64, .str, .str, .int .u8, .slc, .slc, .str, .bool, .int .i64, .bool, .str, .str, .int .i64, .bool, .slc, .bool, .bool, .str, .str, .bool, .slc, .slc] ⟨x1, 0, none⟩) fun x30 =>
  HM.bind (α := Unit) (HM.callN Tryz.prog [] 125 #[.pointer p0, .agg #[.int .i64 x30.1, .bool x30.2.1, .bool x30.2.2.1, .int .i64 x30.2.2.2.1, .int .i64 x30.2.2.2.2.1, .string x30.2.2.2.2.2.1, .string x30.2.2.2.2.2.2.1, .int .u8 x30.2.2.2.2.2.2.2.1, .slice x30.2.2.2.2.2.2.2.2.1.a x30.2.2.2.2.2.2.2.2.1.len x30.2.2.2.2.2.2.2.2.1.cap, .slice x30.2.2.2.2.2.2.2.2.2.1.a x30.2.2.2.2.2.2.2.2.2.1.len x30.2.2.2.2.2.2.2.2.2.1.cap, .string x30.2.2.2.2.2.2.2.2.2.2.1, .bool x30.2.2.2.2.2.2.2.2.2.2.2.1, .int .i64 x30.2.2.2.2.2.2.2.2.2.2.2.2.1, .bool x30.2.2.2.2.2.2.2.2.2.2.2.2.2.1, .string x30.2.2.2.2.2.2.2.2.2.2.2.2.2.2.1, .string x30.2.2.2.2.2.2.2.2.2.2.2.2.2.2.2.1, .int .i64 x30.2.2.2.2.2.2.2.2.2.2.2.2.2.2.2.2.1, .bool x30.2.2.2.2.2.2.2.2.2.2.2.2.2.2.2.2.2.1, .slice x30.2.2.2.2.2.2.2.2.2.2.2.2.2.2.2.2.2.2.1.a x30.2.2.2.2.2.2.2.2.2.2.2.2.2.2.2.2.2.2.1.len x30.2.2.2.2.2.2.2.2.2.2.2.2.2.2.2.2.2.2.1.cap, .bool x30.2.2.2.2.2.2.2.2.2.2.2.2.2.2.2.2.2.2.2.1, .bool x30.2.2.2.2.2.2.2.2.2.2.2.2.2.2.2.2.2.2.2.2.1, .string x30.2.2.2.2.2.2.2.2.2.2.2.2.2.2.2.2.2.2.2.2.2.1, .string x30.2.2.2.2.2.2.2.2.2.2.2.2.2.2.2.2.2.2.2.2.2.2.1, .bool x30.2.2.2.2.2.2.2.2.2.2.2.2.2.2.2.2.2.2.2.2.2.2.2.1, .slice x30.2.2.2.2.2.2.2.2.2.2.2.2.2.2.2.2.2.2.2.2.2.2.2.2.1.a x30.2.2.2.2.2.2.2.2.2.2.2.2.2.2.2.2.2.2.2.2.2.2.2.2.1.len x30.2.2.2.2.2.2.2.2.2.2.2.2.2.2.2.2.2.2.2.2.2.2.2.2.1.cap, .slice x30.2.2.2.2.2.2.2.2.2.2.2.2.2.2.2.2.2.2.2.2.2.2.2.2.2.1.a x30.2.2.2.2.2.2.2.2.2.2.2.2.2.2.2.2.2.2.2.2.2.2.2.2.2.1.len x30.2.2.2.2.2.2.2.2.2.2.2.2.2.2.2.2.2.2.2.2.2.2.2.2.2.1.cap]]) fun x31 =>
  HM.pure (.inr ())) HM.pure)) (Sum.elim (fun x4 =>
  HM.bind (α := Int × Bool × Bool × Int × Int × ByteArray × ByteArray × Int × Slc × Slc × ByteArray × Bool × Int × Bool × ByteArray × ByteArray × Int × Bool × Slc × Bool × Bool × ByteArray × ByteArray × Bool × Slc × Slc × Unit) (HM.loadN [.int .i64, .bool, .bool, .int .i64, .int .i64, .str, .str, .int .u8, .slc, .slc, .str, .bool, .int .i64, .bool, .str, .str, .int .i64, .bool, .slc, .bool, .bool, .str, .str, .bool, .slc, .slc] ⟨x1, 0, none⟩) fun x32 =>
  HM.bind (α := Unit) (HM.callN Tryz.prog [] 126 #[.pointer p0, .agg #[.int .i64 x32.1, .bool x32.2.1, .bool x32.2.2.1, .int .i64 x32.2.2.2.1, .int .i64 x32.2.2.2.2.1, .string x32.2.2.2.2.2.1, .string x32.2.2.2.2.2.2.1, .int .u8 x32.2.2.2.2.2.2.2.1, .slice x32.2.2.2.2.2.2.2.2.1.a x32.2.2.2.2.2.2.2.2.1.len x32.2.2.2.2.2.2.2.2.1.cap, .slice x32.2.2.2.2.2.2.2.2.2.1.a x32.2.2.2.2.2.2.2.2.2.1.len x32.2.2.2.2.2.2.2.2.2.1.cap, .string x32.2.2.2.2.2.2.2.2.2.2.1, .bool x32.2.2.2.2.2.2.2.2.2.2.2.1, .int .i64 x32.2.2.2.2.2.2.2.2.2.2.2.2.1, .bool x32.2.2.2.2.2.2.2.2.2.2.2.2.2.1, .string x32.2.2.2.2.2.2.2.2.2.2.2.2.2.2.1, .string x32.2.2.2.2.2.2.2.2.2.2.2.2.2.2.2.1, .int .i64 x32.2.2.2.2.2.2.2.2.2.2.2.2.2.2.2.2.1, .bool x32.2.2.2.2.2.2.2.2.2.2.2.2.2.2.2.2.2.1, .slice x32.2.2.2.2.2.2.2.2.2.2.2.2.2.2.2.2.2.2.1.a x32.2.2.2.2.2.2.2.2.2.2.2.2.2.2.2.2.2.2.1.len x32.2.2.2.2.2.2.2.2.2.2.2.2.2.2.2.2.2.2.1.cap, .bool x32.2.2.2.2.2.2.2.2.2.2.2.2.2.2.2.2.2.2.2.1, .bool x32.2.2.2.2.2.2.2.2.2.2.2.2.2.2.2.2.2.2.2.2.1, .string x32.2.2.2.2.2.2.2.2.2.2.2.2.2.2.2.2.2.2.2.2.2.1, .string x32.2.2.2.2.2.2.2.2.2.2.2.2.2.2.2.2.2.2.2.2.2.2.1, .bool x32.2.2.2.2.2.2.2.2.2.2.2.2.2.2.2.2.2.2.2.2.2.2.2.1, .slice x32.2.2.2.2.2.2.2.2.2.2.2.2.2.2.2.2.2.2.2.2.2.2.2.2.1.a x32.2.2.2.2.2.2.2.2.2.2.2.2.2.2.2.2.2.2.2.2.2.2.2.2.1.len x32.2.2.2.2.2.2.2.2.2.2.2.2.2.2.2.2.2.2.2.2.2.2.2.2.1.cap, .slice x32.2.2.2.2.2.2.2.2.2.2.2.2.2.2.2.2.2.2.2.2.2.2.2.2.2.1.a x32.2.2.2.2.2.2.2.2.2.2.2.2.2.2.2.2.2.2.2.2.2.2.2.2.2.1.len x32.2.2.2.2.2.2.2.2.2.2.2.2.2.2.2.2.2.2.2.2.2.2.2.2.2.1.cap]]) fun x33 =>
  HM.pure ()) HM.pure)) fun x3 =>
  HM.pure ()
theorem packet_writer_body_den (p0 : Option Addr) (p1 : Int × Bool × Bool × Int × Int × ByteArray × ByteArray × Int × Slc × Slc × ByteArray × Bool × Int × Bool × ByteArray × ByteArray × Int × Bool × Slc × Bool × Bool × ByteArray × ByteArray × Bool × Slc × Slc × Unit) : denFn Tryz.prog [120, 85, 121, 122, 123, 124, 125, 126] 55 [0, 1, 3, 5, 6, 8, 10, 12, 17, 20] [0, 1, 3, 5, 6, 8, 10, 12, 17, 20] Tryz.f86.results.toList [] (bodyOf Tryz.f86) [Kind.val (.one .ptr) p0, Kind.val (.agg [.int .i64, .bool, .bool, .int .i64, .int .i64, .str, .str, .int .u8, .slc, .slc, .str, .bool, .int .i64, .bool, .str, .str, .int .i64, .bool, .slc, .bool, .bool, .str, .str, .bool, .slc, .slc]) p1] = packet_writer_body p0 p1 := by kernel_rfl
theorem packet_writer_body_calls (p0 : Option Addr) (p1 : Int × Bool × Bool × Int × Int × ByteArray × ByteArray × Int × Slc × Slc × ByteArray × Bool × Int × Bool × ByteArray × ByteArray × Int × Bool × Slc × Bool × Bool × ByteArray × ByteArray × Bool × Slc × Slc × Unit) (h : Heap) (Q : Value → Heap → Prop) (hh : packet_writer_body p0 p1 h fun x h' => Q (.tuple #[]) h') :
    HCalls Tryz.prog 86 #[.pointer p0, .agg #[.int .i64 p1.1, .bool p1.2.1, .bool p1.2.2.1, .int .i64 p1.2.2.2.1, .int .i64 p1.2.2.2.2.1, .string p1.2.2.2.2.2.1, .string p1.2.2.2.2.2.2.1, .int .u8 p1.2.2.2.2.2.2.2.1, .slice p1.2.2.2.2.2.2.2.2.1.a p1.2.2.2.2.2.2.2.2.1.len p1.2.2.2.2.2.2.2.2.1.cap, .slice p1.2.2.2.2.2.2.2.2.2.1.a p1.2.2.2.2.2.2.2.2.2.1.len p1.2.2.2.2.2.2.2.2.2.1.cap, .string p1.2.2.2.2.2.2.2.2.2.2.1, .bool p1.2.2.2.2.2.2.2.2.2.2.2.1, .int .i64 p1.2.2.2.2.2.2.2.2.2.2.2.2.1, .bool p1.2.2.2.2.2.2.2.2.2.2.2.2.2.1, .string p1.2.2.2.2.2.2.2.2.2.2.2.2.2.2.1, .string p1.2.2.2.2.2.2.2.2.2.2.2.2.2.2.2.1, .int .i64 p1.2.2.2.2.2.2.2.2.2.2.2.2.2.2.2.2.1, .bool p1.2.2.2.2.2.2.2.2.2.2.2.2.2.2.2.2.2.1, .slice p1.2.2.2.2.2.2.2.2.2.2.2.2.2.2.2.2.2.2.1.a p1.2.2.2.2.2.2.2.2.2.2.2.2.2.2.2.2.2.2.1.len p1.2.2.2.2.2.2.2.2.2.2.2.2.2.2.2.2.2.2.1.cap, .bool p1.2.2.2.2.2.2.2.2.2.2.2.2.2.2.2.2.2.2.2.1, .bool p1.2.2.2.2.2.2.2.2.2.2.2.2.2.2.2.2.2.2.2.2.1, .string p1.2.2.2.2.2.2.2.2.2.2.2.2.2.2.2.2.2.2.2.2.2.1, .string p1.2.2.2.2.2.2.2.2.2.2.2.2.2.2.2.2.2.2.2.2.2.2.1, .bool p1.2.2.2.2.2.2.2.2.2.2.2.2.2.2.2.2.2.2.2.2.2.2.2.1, .slice p1.2.2.2.2.2.2.2.2.2.2.2.2.2.2.2.2.2.2.2.2.2.2.2.2.1.a p1.2.2.2.2.2.2.2.2.2.2.2.2.2.2.2.2.2.2.2.2.2.2.2.2.1.len p1.2.2.2.2.2.2.2.2.2.2.2.2.2.2.2.2.2.2.2.2.2.2.2.2.1.cap, .slice p1.2.2.2.2.2.2.2.2.2.2.2.2.2.2.2.2.2.2.2.2.2.2.2.2.2.1.a p1.2.2.2.2.2.2.2.2.2.2.2.2.2.2.2.2.2.2.2.2.2.2.2.2.2.1.len p1.2.2.2.2.2.2.2.2.2.2.2.2.2.2.2.2.2.2.2.2.2.2.2.2.2.1.cap]] h Q :=
  calls_of_eq Tryz.func86 (by kernel_rfl) Tryz.ntmps86 (by kernel_rfl) (CC Tryz.call120 (CC Tryz.call85 (CC Tryz.call121 (CC Tryz.call122 (CC Tryz.call123 (CC Tryz.call124 (CC Tryz.call125 (CC Tryz.call126 CN)))))))) orders (packet_writer_body_den p0 p1) hh
def varint_Fixed (p0 : Int) (p1 : Int) : HM (ByteArray × Int × Unit) :=
  HM.bind (α := Bool) (HM.call1 Tryz.prog (.one .bool) 127 #[.int .i64 p0]) fun x1 =>
  HM.ite (!x1) (
  HM.pure (ByteArray.mk #[], 128, ())) (
  HM.bind (α := Bool × Unit) (HM.ite (decide (p1 < (0 : Int))) (
  HM.pure (true, ())) (
  HM.req ((0 : Int) ≤ (IntKind.wrap .i64 (8 * p0))) <|
  HM.pure (decide ((IntKind.wrap .i64 (1 * 2 ^ (min (Int.toNat (IntKind.wrap .i64 (8 * p0))) (IntKind.bits .i64)))) ≤ (p1 : Int)), ()))) fun x2 =>
  HM.ite x2.1 (
  HM.pure (ByteArray.mk #[], 129, ())) (
  HM.bind (α := Slc × Int × Unit) (HM.loop (σ := Slc × Int × Unit) (τ := Slc × Int × Unit) (fun x4 =>
  HM.ite (decide (0 ≤ (x4.2.1 : Int))) (
  HM.req ((0 : Int) ≤ (IntKind.wrap .i64 (8 * x4.2.1))) <|
  HM.bind (α := Nat) (HM.new (.cells #[.int .u8 (IntKind.wrap .u8 (Int.fdiv p1 (2 ^ (min (Int.toNat (IntKind.wrap .i64 (8 * x4.2.1))) (IntKind.bits .i64)))))] 5)) fun x5 =>
  HM.bind (α := Slc) (HM.append 5 1 1 #[.int .u8 0] x4.1 1 (srcSlc 1 (⟨some ⟨x5, 0, none⟩, 1, 1⟩))) fun x6 =>
  HM.pure (.inl (x6, IntKind.wrap .i64 (x4.2.1 - 1), ()))) (
  HM.pure (.inr (x4.1, x4.2.1, ())))) (⟨none, 0, 0⟩, IntKind.wrap .i64 (p0 - 1), ())) fun x3 =>
  HM.bind (α := ByteArray) (HM.strOf x3.1) fun x7 =>
  HM.pure (x7, 0, ())))
theorem varint_Fixed_den (p0 : Int) (p1 : Int) : denFn Tryz.prog [127] 38 [0, 1, 4, 5, 6, 7, 8, 12, 25] [0, 1, 6, 7, 8, 12, 25] Tryz.f88.results.toList [.one .str, .one (.int .u8)] (bodyOf Tryz.f88) [Kind.val (.one (.int .i64)) p0, Kind.val (.one (.int .i64)) p1] = varint_Fixed p0 p1 := by kernel_rfl
theorem varint_Fixed_calls (p0 : Int) (p1 : Int) (h : Heap) (Q : Value → Heap → Prop) (hh : varint_Fixed p0 p1 h fun x h' => Q (.tuple #[.string x.1, .int .u8 x.2.1]) h') :
    HCalls Tryz.prog 88 #[.int .i64 p0, .int .i64 p1] h Q :=
  calls_of_eq Tryz.func88 (by kernel_rfl) Tryz.ntmps88 (by kernel_rfl) (CC Tryz.call127 CN) orders (varint_Fixed_den p0 p1) hh
def varint_Put (p0 : Int) : HM (ByteArray × Int × Unit) :=
  HM.bind (α := Int) (HM.call1 Tryz.prog (.one (.int .i64)) 128 #[.int .i64 p0]) fun x1 =>
  HM.ite (x1 == 0) (
  HM.pure (ByteArray.mk #[], 129, ())) (
  HM.bind (α := Slc × Int × Unit) (HM.loop (σ := Slc × Int × Unit) (τ := Slc × Int × Unit) (fun x3 =>
  HM.ite (decide (x3.2.1 < (x1 : Int))) (
  HM.req ((0 : Int) ≤ (IntKind.wrap .i64 (7 * x3.2.1))) <|
  HM.bind (α := Int × Unit) (HM.ite (decide (x3.2.1 < ((IntKind.wrap .i64 (x1 - 1)) : Int))) (
  HM.pure (bitOp .or .u8 (IntKind.wrap .u8 (bitOp .and .i64 (Int.fdiv p0 (2 ^ (min (Int.toNat (IntKind.wrap .i64 (7 * x3.2.1))) (IntKind.bits .i64)))) 127)) 128, ())) (
  HM.pure (IntKind.wrap .u8 (bitOp .and .i64 (Int.fdiv p0 (2 ^ (min (Int.toNat (IntKind.wrap .i64 (7 * x3.2.1))) (IntKind.bits .i64)))) 127), ()))) fun x4 =>
  HM.bind (α := Nat) (HM.new (.cells #[.int .u8 x4.1] 5)) fun x5 =>
  HM.bind (α := Slc) (HM.append 5 1 1 #[.int .u8 0] x3.1 1 (srcSlc 1 (⟨some ⟨x5, 0, none⟩, 1, 1⟩))) fun x6 =>
  HM.pure (.inl (x6, IntKind.wrap .i64 (x3.2.1 + 1), ()))) (
  HM.pure (.inr (x3.1, x3.2.1, ())))) (⟨none, 0, 0⟩, 0, ())) fun x2 =>
  HM.bind (α := ByteArray) (HM.strOf x2.1) fun x7 =>
  HM.pure (x7, 0, ()))
theorem varint_Put_den (p0 : Int) : denFn Tryz.prog [128] 35 [0, 2, 3, 4, 5, 6, 7, 11, 12, 13, 14, 25] [0, 4, 5, 6, 7, 11, 12, 13, 14, 25] Tryz.f89.results.toList [.one .str, .one (.int .u8)] (bodyOf Tryz.f89) [Kind.val (.one (.int .i64)) p0] = varint_Put p0 := by kernel_rfl
theorem varint_Put_calls (p0 : Int) (h : Heap) (Q : Value → Heap → Prop) (hh : varint_Put p0 h fun x h' => Q (.tuple #[.string x.1, .int .u8 x.2.1]) h') :
    HCalls Tryz.prog 89 #[.int .i64 p0] h Q :=
  calls_of_eq Tryz.func89 (by kernel_rfl) Tryz.ntmps89 (by kernel_rfl) (CC Tryz.call128 CN) orders (varint_Put_den p0) hh
def remap_Rule_turned (p0 : ByteArray × Int × Int × ByteArray × ByteArray × Unit) (p1 : ByteArray) (p2 : ByteArray) (p3 : ByteArray) : HM (ByteArray × Bool × Unit) :=
  HM.bind (α := Nat) (HM.new (.cells #[.string p0.1, .int .i64 p0.2.1, .int .i64 p0.2.2.1, .string p0.2.2.2.1, .string p0.2.2.2.2.1] 123)) fun x1 =>
  HM.bind (α := ByteArray × Bool × Unit) (HM.callN Tryz.prog [.one .str, .one .bool] 141 #[.string p1, .string p2]) fun x2 =>
  HM.bind (α := Bool × Unit) (HM.ite (!x2.2.1) (
  HM.pure (true, ())) (
  HM.bind (α := ByteArray × Int × Int × ByteArray × ByteArray × Unit) (HM.loadN [.str, .int .i64, .int .i64, .str, .str] ⟨x1, 0, none⟩) fun x3 =>
  HM.bind (α := Int) (HM.call1 Tryz.prog (.one (.int .u8)) 36 #[.agg #[.string x3.1, .int .i64 x3.2.1, .int .i64 x3.2.2.1, .string x3.2.2.2.1, .string x3.2.2.2.2.1]]) fun x4 =>
  HM.ite (!(x4 == 0)) (
  HM.pure (true, ())) (
  HM.bind (α := ByteArray) (HM.load1 .str (Addr.add ⟨x1, 0, none⟩ 0)) fun x5 =>
  HM.bind (α := Bool) (HM.call1 Tryz.prog (.one .bool) 142 #[.string x5, .string x2.1]) fun x6 =>
  HM.ite (!x6) (
  HM.pure (true, ())) (
  HM.bind (α := Int) (HM.call1 Tryz.prog (.one (.int .u8)) 110 #[.string p1]) fun x7 =>
  HM.ite (!(x7 == 0)) (
  HM.pure (true, ())) (
  HM.req (ByteArray.size p3 + ByteArray.size x2.1 ≤ 9223372036854775807) <|
  HM.bind (α := Int) (HM.call1 Tryz.prog (.one (.int .u8)) 110 #[.string (p3 ++ x2.1)]) fun x8 =>
  HM.pure (!(x8 == 0), ())))))) fun x9 =>
  HM.ite x9.1 (
  HM.pure (ByteArray.mk #[], false, ())) (
  HM.req (ByteArray.size p3 + ByteArray.size x2.1 ≤ 9223372036854775807) <|
  HM.pure (p3 ++ x2.1, true, ()))
theorem remap_Rule_turned_den (p0 : ByteArray × Int × Int × ByteArray × ByteArray × Unit) (p1 : ByteArray) (p2 : ByteArray) (p3 : ByteArray) : denFn Tryz.prog [141, 36, 142, 110] 47 [0, 1, 2, 3, 4, 8, 9, 10, 11, 43] [0, 1, 2, 3, 4, 10, 11, 43] Tryz.f97.results.toList [.one .str, .one .bool] (bodyOf Tryz.f97) [Kind.val (.agg [.str, .int .i64, .int .i64, .str, .str]) p0, Kind.val (.one .str) p1, Kind.val (.one .str) p2, Kind.val (.one .str) p3] = remap_Rule_turned p0 p1 p2 p3 := by kernel_rfl
theorem remap_Rule_turned_calls (p0 : ByteArray × Int × Int × ByteArray × ByteArray × Unit) (p1 : ByteArray) (p2 : ByteArray) (p3 : ByteArray) (h : Heap) (Q : Value → Heap → Prop) (hh : remap_Rule_turned p0 p1 p2 p3 h fun x h' => Q (.tuple #[.string x.1, .bool x.2.1]) h') :
    HCalls Tryz.prog 97 #[.agg #[.string p0.1, .int .i64 p0.2.1, .int .i64 p0.2.2.1, .string p0.2.2.2.1, .string p0.2.2.2.2.1], .string p1, .string p2, .string p3] h Q :=
  calls_of_eq Tryz.func97 (by kernel_rfl) Tryz.ntmps97 (by kernel_rfl) (CC Tryz.call141 (CC Tryz.call36 (CC Tryz.call142 (CC Tryz.call110 CN)))) orders (remap_Rule_turned_den p0 p1 p2 p3) hh
def tags_Tag_good (p0 : Int × Int × Unit) : HM (Bool × Unit) :=
  HM.bind (α := Nat) (HM.new (.cells #[.int .i64 p0.1, .int .i64 p0.2.1] 47)) fun x1 =>
  HM.bind (α := Bool × Unit) (HM.bind (α := Int) (HM.load1 (.int .i64) (Addr.add ⟨x1, 0, none⟩ 0)) fun x2 =>
  HM.ite (decide (0 ≤ (x2 : Int))) (
  HM.bind (α := Int) (HM.load1 (.int .i64) (Addr.add ⟨x1, 0, none⟩ 0)) fun x3 =>
  HM.ite (decide (x3 < (8 : Int))) (
  HM.bind (α := Int) (HM.load1 (.int .i64) (Addr.add ⟨x1, 0, none⟩ 1)) fun x4 =>
  HM.ite (decide (1 ≤ (x4 : Int))) (
  HM.bind (α := Int) (HM.load1 (.int .i64) (Addr.add ⟨x1, 0, none⟩ 1)) fun x5 =>
  HM.pure (decide (x5 ≤ (9007199254740992 : Int)), ())) (
  HM.pure (false, ()))) (
  HM.pure (false, ()))) (
  HM.pure (false, ()))) fun x6 =>
  HM.pure (x6.1, ())
theorem tags_Tag_good_den (p0 : Int × Int × Unit) : denFn Tryz.prog [] 21 [0, 1, 2] [0, 1] Tryz.f98.results.toList [.one .bool] (bodyOf Tryz.f98) [Kind.val (.agg [.int .i64, .int .i64]) p0] = tags_Tag_good p0 := by kernel_rfl
theorem tags_Tag_good_calls (p0 : Int × Int × Unit) (h : Heap) (Q : Value → Heap → Prop) (hh : tags_Tag_good p0 h fun x h' => Q (.bool x.1) h') :
    HCalls Tryz.prog 98 #[.agg #[.int .i64 p0.1, .int .i64 p0.2.1]] h Q :=
  calls_of_eq Tryz.func98 (by kernel_rfl) Tryz.ntmps98 (by kernel_rfl) CN orders (tags_Tag_good_den p0) hh
def topic_sized (p0 : ByteArray) : HM (Bool × Unit) :=
  HM.bind (α := Int × Bool × Unit) (HM.callN Tryz.prog [.one (.int .i64), .one .bool] 157 #[.string p0]) fun x1 =>
  HM.bind (α := Bool × Unit) (HM.ite (!x1.2.1) (
  HM.ite (!(decide (p0 = (ByteArray.mk #[])))) (
  HM.ite (decide (((ByteArray.size p0 : Nat) : Int) ≤ (256 : Int))) (
  HM.bind (α := Int) (HM.call1 Tryz.prog (.one (.int .i64)) 150 #[.string p0, .string (ByteArray.mk #[47])]) fun x2 =>
  HM.pure (decide (x2 < (32 : Int)), ())) (
  HM.pure (false, ()))) (
  HM.pure (false, ()))) (
  HM.pure (false, ()))) fun x3 =>
  HM.pure (x3.1, ())
theorem topic_sized_den (p0 : ByteArray) : denFn Tryz.prog [157, 150] 26 [0, 2, 4] [0, 4] Tryz.f107.results.toList [.one .bool] (bodyOf Tryz.f107) [Kind.val (.one .str) p0] = topic_sized p0 := by kernel_rfl
theorem topic_sized_calls (p0 : ByteArray) (h : Heap) (Q : Value → Heap → Prop) (hh : topic_sized p0 h fun x h' => Q (.bool x.1) h') :
    HCalls Tryz.prog 107 #[.string p0] h Q :=
  calls_of_eq Tryz.func107 (by kernel_rfl) Tryz.ntmps107 (by kernel_rfl) (CC Tryz.call157 (CC Tryz.call150 CN)) orders (topic_sized_den p0) hh
def topic_Levels (p0 : ByteArray) : HM (Slc × Unit) :=
  HM.bind (α := Slc) (HM.call1 Tryz.prog (.one .slc) 61 #[.string p0, .string (ByteArray.mk #[47])]) fun x1 =>
  HM.pure (x1, ())
theorem topic_Levels_den (p0 : ByteArray) : denFn Tryz.prog [61] 5 [0, 2] [0] Tryz.f108.results.toList [.one .slc] (bodyOf Tryz.f108) [Kind.val (.one .str) p0] = topic_Levels p0 := by kernel_rfl
theorem topic_Levels_calls (p0 : ByteArray) (h : Heap) (Q : Value → Heap → Prop) (hh : topic_Levels p0 h fun x h' => Q (.slice x.1.a x.1.len x.1.cap) h') :
    HCalls Tryz.prog 108 #[.string p0] h Q :=
  calls_of_eq Tryz.func108 (by kernel_rfl) Tryz.ntmps108 (by kernel_rfl) (CC Tryz.call61 CN) orders (topic_Levels_den p0) hh
def topic_CheckName (p0 : ByteArray) : HM (Int × Unit) :=
  HM.bind (α := Bool × Unit) (HM.bind (α := Bool) (HM.call1 Tryz.prog (.one .bool) 107 #[.string p0]) fun x1 =>
  HM.ite (!x1) (
  HM.pure (true, ())) (
  HM.bind (α := Bool) (HM.call1 Tryz.prog (.one .bool) 109 #[.string p0, .string (ByteArray.mk #[43])]) fun x2 =>
  HM.ite x2 (
  HM.pure (true, ())) (
  HM.bind (α := Bool) (HM.call1 Tryz.prog (.one .bool) 109 #[.string p0, .string (ByteArray.mk #[35])]) fun x3 =>
  HM.pure (x3, ())))) fun x4 =>
  HM.ite x4.1 (
  HM.pure (144, ())) (
  HM.pure (0, ()))
theorem topic_CheckName_den (p0 : ByteArray) : denFn Tryz.prog [107, 109] 14 [0, 2, 13] [0, 13] Tryz.f110.results.toList [.one (.int .u8)] (bodyOf Tryz.f110) [Kind.val (.one .str) p0] = topic_CheckName p0 := by kernel_rfl
theorem topic_CheckName_calls (p0 : ByteArray) (h : Heap) (Q : Value → Heap → Prop) (hh : topic_CheckName p0 h fun x h' => Q (.int .u8 x.1) h') :
    HCalls Tryz.prog 110 #[.string p0] h Q :=
  calls_of_eq Tryz.func110 (by kernel_rfl) Tryz.ntmps110 (by kernel_rfl) (CC Tryz.call107 (CC Tryz.call109 CN)) orders (topic_CheckName_den p0) hh
def ids_Pool_Take (p0 : Option Addr) : HM (Int × Int × Unit) :=
  HM.ite (Option.isNone p0) (
  HM.pure (0, 128, ())) (
  HM.bind (α := Int) (HM.call1 Tryz.prog (.one (.int .i64)) 160 #[.pointer p0]) fun x1 =>
  HM.ite (x1 == 0) (
  HM.pure (0, 147, ())) (
  HM.bind (α := Unit) (HM.loop (σ := Unit) (τ := Unit) (fun x3 =>
  HM.bind (α := Addr) (HM.nonnil p0) fun x4 =>
  HM.bind (α := Int) (HM.load1 (.int .i64) (Addr.add x4 1)) fun x5 =>
  HM.req (65535 ≠ (0 : Int)) <|
  HM.bind (α := Addr) (HM.nonnil p0) fun x6 =>
  HM.bind (α := Unit) (HM.store1 (Addr.add x6 1) (.int .i64 (IntKind.wrap .i64 ((Int.tmod x5 65535) + 1)))) fun _ =>
  HM.bind (α := Addr) (HM.nonnil p0) fun x7 =>
  HM.bind (α := Option Nat) (HM.load1 .map (Addr.add x7 2)) fun x8 =>
  HM.bind (α := Addr) (HM.nonnil p0) fun x9 =>
  HM.bind (α := Int) (HM.load1 (.int .i64) (Addr.add x9 1)) fun x10 =>
  HM.bind (α := Bool × Bool) (HM.lookup (Instr.sameNow (.int .i64)) (.bool false) (.one .bool) x8 (.int .i64 x10)) fun x11 =>
  HM.ite (!x11.1) (
  HM.pure (.inr ())) (
  HM.pure (.inl ()))) ()) fun x2 =>
  HM.bind (α := Addr) (HM.nonnil p0) fun x12 =>
  HM.bind (α := Option Nat) (HM.load1 .map (Addr.add x12 2)) fun x13 =>
  HM.bind (α := Addr) (HM.nonnil p0) fun x14 =>
  HM.bind (α := Int) (HM.load1 (.int .i64) (Addr.add x14 1)) fun x15 =>
  HM.bind (α := Unit) (HM.mapSet (Instr.sameNow (.int .i64)) x13 (.int .i64 x15) (.bool true)) fun _ =>
  HM.bind (α := Addr) (HM.nonnil p0) fun x16 =>
  HM.bind (α := Int) (HM.load1 (.int .i64) (Addr.add x16 1)) fun x17 =>
  HM.pure (x17, 0, ())))
theorem ids_Pool_Take_den (p0 : Option Addr) : denFn Tryz.prog [160] 42 [0, 2, 3, 4, 7, 29] [0, 4, 7, 29] Tryz.f117.results.toList [.one (.int .i64), .one (.int .u8)] (bodyOf Tryz.f117) [Kind.val (.one .ptr) p0] = ids_Pool_Take p0 := by kernel_rfl
theorem ids_Pool_Take_calls (p0 : Option Addr) (h : Heap) (Q : Value → Heap → Prop) (hh : ids_Pool_Take p0 h fun x h' => Q (.tuple #[.int .i64 x.1, .int .u8 x.2.1]) h') :
    HCalls Tryz.prog 117 #[.pointer p0] h Q :=
  calls_of_eq Tryz.func117 (by kernel_rfl) Tryz.ntmps117 (by kernel_rfl) (CC Tryz.call160 CN) orders (ids_Pool_Take_den p0) hh
end Go.Proofs.YtfhalebbcbgbdaaGreatDoor
