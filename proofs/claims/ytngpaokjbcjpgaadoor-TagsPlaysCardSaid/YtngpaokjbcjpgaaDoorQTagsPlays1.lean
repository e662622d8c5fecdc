/-
  QTagsPlays1: what the proof TagsPlaysProof reaches of our texts: HB, Hrd, Sf, Cids, Hx, Ctag, Kitoa, Kjoin, Ctxt, Hk, Kkt, Kku, Kkv, Kot, Hsrt, Cst, Hlp, Hwp, Hwm, L16p, D16.
-/
import Derived.Test.YtngpaokjbcjpgaaDoorQTagsPlays0
import Derived.MapKept
import Derived.Below
import Derived.Laws.Append
import Derived.ChangeArms
import Derived.DataReads
import Derived.SizedLaws
import Derived.Handed
import Derived.OpenShut
import Derived.Test.YtngpaokjbcjpgaaDoorProg
import Derived.KernelRfl
import Derived.Shelf.Strconv.Itoa4
import Derived.Shelf.Strings.OnBuilder
import Derived.Shelf.SlIterI.Nil
import Derived.Shelf.SortM.Plain
import Derived.Shelf.SortM.SortNone
import Derived.Shelf.SlIter.Collect
import Derived.RangeFuncGives
import Derived.Maps.AppendAt
import Derived.Sort.MapsRangeIn
import Derived.WalkKit
import Derived.StillTailTactics
import Derived.Deep.QuietTactic
import Derived.Shelf.SlicesG.Cmp
import Derived.Shelf.Small.Strs
import Derived.Sort.Row
import Derived.Sort.Grow
import Derived.Shelf.SlSortCmp.NoneTotal
import Derived.Test.YtngpaokjbcjpgaaDoorRows
import Derived.Test.YtngpaokjbcjpgaaDoorChecked
import Derived.ProofKit
import Derived.LaidMore
import Derived.LaidHandle
import Derived.Stop.Joined
namespace Go.H
set_option linter.unusedSimpArgs false
set_option linter.unusedVariables false
open Go.MapKept (Stamped)
abbrev PH := Nat → Option Obj
def PH.sub (m : PH) (h : Heap) : Prop := ∀ k o, m k = some o → h[k]? = some o
def PH.disj (a b : PH) : Prop := ∀ k, a k = none ∨ b k = none
def PH.join (a b : PH) : PH := fun k => match a k with | some o => some o | none => b k
abbrev Asn := PH → Prop
def star (A B : Asn) : Asn := fun m => ∃ a b, a.disj b ∧ m = a.join b ∧ A a ∧ B b
def stars : List Asn → Asn
  | [] => fun _ => True
  | A :: L => star A (stars L)
def exA {α : Type} (f : α → Asn) : Asn := fun m => ∃ x, f x m
def pr (p : Prop) : Asn := fun _ => p
def blk (b : Nat) (o : Obj) : Asn := fun m => m b = some o
def cells (b : Nat) (cs : Array Value) : Asn := exA fun T => blk b (.cells cs T (0, 0))
def old (h0 : Heap) : Asn := fun m => ∀ (k : Nat) (o : Obj), h0[k]? = some o → m k = some o
def sat (h : Heap) (L : List Asn) : Prop := ∃ m, PH.sub m h ∧ stars L m
theorem join_none {a b : PH} {k : Nat} (h : a k = none) : a.join b k = b k := by simp [PH.join, h]
theorem join_left {a b : PH} {k : Nat} {o : Obj} (h : a k = some o) : a.join b k = some o := by simp [PH.join, h]
theorem join_right {a b : PH} {k : Nat} {o : Obj} (hd : a.disj b) (h : b k = some o) : a.join b k = some o := by
  rcases hd k with h1 | h1
  · rw [join_none h1]; exact h
  · rw [h] at h1; cases h1
theorem join_sub {a b : PH} {h : Heap} (hs : PH.sub (a.join b) h) (hd : a.disj b) : PH.sub a h ∧ PH.sub b h :=
  ⟨fun k o ho => hs k o (join_left ho), fun k o ho => hs k o (join_right hd ho)⟩
theorem sub_join {a b : PH} {h : Heap} (ha : PH.sub a h) (hb : PH.sub b h) : PH.sub (a.join b) h := by
  intro k o ho
  cases hk : a k with
  | some o' => rw [join_left hk] at ho; cases ho; exact ha k _ hk
  | none => rw [join_none hk] at ho; exact hb k o ho
theorem join_assoc (a b c : PH) : (a.join b).join c = a.join (b.join c) := by
  funext k; simp only [PH.join]; cases a k <;> rfl
theorem join_comm {a b : PH} (h : a.disj b) : a.join b = b.join a := by
  funext k; simp only [PH.join]
  rcases h k with h1 | h1
  · rw [h1]; cases b k <;> rfl
  · rw [h1]; cases a k <;> rfl
theorem disj_comm {a b : PH} (h : a.disj b) : b.disj a := fun k => (h k).symm
theorem disj_join {a b c : PH} (h1 : a.disj c) (h2 : b.disj c) : (a.join b).disj c := by
  intro k
  rcases h1 k with h | h
  · rw [join_none h]; exact h2 k
  · exact .inr h
theorem disj_of_join {a b c : PH} (h : (a.join b).disj c) (hd : a.disj b) : a.disj c ∧ b.disj c := by
  refine ⟨fun k => ?_, fun k => ?_⟩
  · rcases h k with h1 | h1
    · cases hk : a k with
      | none => exact .inl rfl
      | some o => rw [join_left hk] at h1; cases h1
    · exact .inr h1
  · rcases h k with h1 | h1
    · cases hk : b k with
      | none => exact .inl rfl
      | some o => rw [join_right hd hk] at h1; cases h1
    · exact .inr h1
theorem star_assoc {A B C : Asn} {m : PH} (h : star (star A B) C m) : star A (star B C) m := by
  obtain ⟨ab, c, hd, rfl, ⟨a, b, hd', rfl, ha, hb⟩, hc⟩ := h
  obtain ⟨h1, h2⟩ := disj_of_join hd hd'
  exact ⟨a, b.join c, disj_comm (disj_join (disj_comm hd') (disj_comm h1)), join_assoc a b c, ha, b, c, h2, rfl, hb, hc⟩
theorem star_assoc' {A B C : Asn} {m : PH} (h : star A (star B C) m) : star (star A B) C m := by
  obtain ⟨a, bc, hd, rfl, ha, b, c, hd', rfl, hb, hc⟩ := h
  obtain ⟨h1, h2⟩ := disj_of_join (disj_comm hd) hd'
  exact ⟨a.join b, c, disj_join (disj_comm h2) hd', (join_assoc a b c).symm, ⟨a, b, disj_comm h1, rfl, ha, hb⟩, hc⟩
theorem star_comm {A B : Asn} {m : PH} (h : star A B m) : star B A m := by
  obtain ⟨a, b, hd, rfl, ha, hb⟩ := h
  exact ⟨b, a, disj_comm hd, join_comm hd, hb, ha⟩
theorem star_mono {A A' B B' : Asn} (ha : ∀ m, A m → A' m) (hb : ∀ m, B m → B' m) {m : PH} (h : star A B m) : star A' B' m := by
  obtain ⟨a, b, hd, rfl, h1, h2⟩ := h
  exact ⟨a, b, hd, rfl, ha _ h1, hb _ h2⟩
section
variable {h : Heap} {A B C D E F G : Asn} {R : List Asn}
theorem sat.imp (hs : sat h (A :: R)) (ha : ∀ m, A m → B m) : sat h (B :: R) := by
  obtain ⟨m, h1, h2⟩ := hs
  exact ⟨m, h1, star_mono ha (fun _ h => h) h2⟩
theorem stars_swap {m : PH} (h : stars (A :: B :: R) m) : stars (B :: A :: R) m :=
  star_assoc (star_mono (fun _ h => star_comm h) (fun _ h => h) (star_assoc' h))
theorem sat.p1 (hs : sat h (A :: B :: R)) : sat h (B :: A :: R) := let ⟨m, h1, h2⟩ := hs; ⟨m, h1, stars_swap h2⟩
theorem sat.drop (hs : sat h (A :: R)) : sat h R := by
  obtain ⟨m, h1, a, r, hd, rfl, ha, hr⟩ := hs
  exact ⟨r, (join_sub h1 hd).2, hr⟩
theorem sat.star_iff : sat h (star A B :: R) ↔ sat h (A :: B :: R) :=
  ⟨fun ⟨m, h1, h2⟩ => ⟨m, h1, star_assoc h2⟩, fun ⟨m, h1, h2⟩ => ⟨m, h1, star_assoc' h2⟩⟩
theorem sat.ex_iff {α : Type} {f : α → Asn} : sat h (exA f :: R) ↔ ∃ x, sat h (f x :: R) := by
  constructor
  · rintro ⟨m, h1, a, r, hd, rfl, ⟨x, ha⟩, hr⟩
    exact ⟨x, _, h1, a, r, hd, rfl, ha, hr⟩
  · rintro ⟨x, m, h1, a, r, hd, rfl, ha, hr⟩
    exact ⟨_, h1, a, r, hd, rfl, ⟨x, ha⟩, hr⟩
theorem sat.pr_iff {p : Prop} : sat h (pr p :: R) ↔ p ∧ sat h R := by
  constructor
  · intro hs
    refine ⟨?_, hs.drop⟩
    obtain ⟨m, h1, a, r, hd, rfl, ha, hr⟩ := hs
    exact ha
  · rintro ⟨hp, m, h1, h2⟩
    refine ⟨m, h1, fun _ => none, m, fun k => .inl rfl, ?_, hp, h2⟩
    funext k; rfl
theorem stars_append : ∀ (L R : List Asn) {m : PH}, star (stars L) (stars R) m ↔ stars (L ++ R) m
  | [], R, m => by
    constructor
    · rintro ⟨a, b, hd, rfl, -, hb⟩
      exact up R (a.join b) b (fun k o ho => join_right hd ho) hb
    · intro hr
      exact ⟨fun _ => none, m, fun k => .inl rfl, by funext k; rfl, trivial, hr⟩
  | A :: L, R, m => by
    constructor
    · intro hm
      exact star_mono (fun _ h => h) (fun _ h => (stars_append L R).1 h) (star_assoc hm)
    · intro hm
      exact star_assoc' (star_mono (fun _ h => h) (fun _ h => (stars_append L R).2 h) hm)
where
  up : ∀ (R : List Asn) (m m' : PH), (∀ k o, m' k = some o → m k = some o) → stars R m' → stars R m
    | [], _, _, _, _ => trivial
    | A :: R, m, m', hsub, ⟨a, b, hd, he, ha, hb⟩ => by
      subst he
      refine ⟨a, fun k => match a k with | some _ => none | none => m k, fun k => ?_, ?_, ha, ?_⟩
      · cases hk : a k with
        | none => exact .inl rfl
        | some o => exact .inr (by simp only [hk])
      · funext k
        cases hk : a k with
        | none => rw [join_none hk]; simp [hk]
        | some o => rw [join_left hk]; exact hsub k o (join_left hk)
      · refine up R _ b (fun k o ho => ?_) hb
        have hak : a k = none := by
          rcases hd k with h1 | h1
          · exact h1
          · rw [ho] at h1; cases h1
        simp only [hak]
        exact hsub k o (by rw [join_none hak]; exact ho)
theorem sat.get {b : Nat} {o : Obj} (hs : sat h (blk b o :: R)) : h[b]? = some o := by
  obtain ⟨m, h1, a, r, hd, rfl, ha, hr⟩ := hs
  exact h1 b o (join_left ha)
theorem sat.lt {b : Nat} {o : Obj} (hs : sat h (blk b o :: R)) : b < h.size := (Array.getElem?_eq_some_iff.1 hs.get).1
theorem sat.turn {b : Nat} {o o' : Obj} {h' : Heap} (hs : sat h (blk b o :: R)) (hb : h'[b]? = some o') (hk : ∀ k, k ≠ b → h'[k]? = h[k]?) : sat h' (blk b o' :: R) := by
  obtain ⟨m, h1, a, r, hd, rfl, ha, hr⟩ := hs
  have hrb : r b = none := by
    rcases hd b with h2 | h2
    · rw [ha] at h2; cases h2
    · exact h2
  refine ⟨PH.join (fun k => if k = b then some o' else none) r, ?_, _, r, fun k => ?_, rfl, by simp [blk], hr⟩
  · refine sub_join (fun k x hx => ?_) (fun k x hx => ?_)
    · have hx' : (if k = b then some o' else none) = some x := hx
      split at hx'
      · rename_i e; subst e; cases hx'; exact hb
      · cases hx'
    · rw [hk k (fun e => by subst e; rw [hrb] at hx; cases hx)]
      exact (join_sub h1 hd).2 k x hx
  · by_cases e : k = b
    · subst e; exact .inr hrb
    · exact .inl (by simp [e])
theorem sat.push {o : Obj} (hs : sat h R) : sat (h.push o) (blk h.size o :: R) := by
  obtain ⟨m, h1, hr⟩ := hs
  have hm : m h.size = none := by
    cases hh : m h.size with
    | none => rfl
    | some x =>
      have := h1 _ _ hh
      rw [Array.getElem?_eq_none (by omega)] at this
      cases this
  refine ⟨PH.join (fun k => if k = h.size then some o else none) m, ?_, _, m, fun k => ?_, rfl, by simp [blk], hr⟩
  · refine sub_join (fun k x hx => ?_) (fun k x hx => ?_)
    · have hx' : (if k = h.size then some o else none) = some x := hx
      split at hx'
      · rename_i e; subst e; cases hx'; simp
      · cases hx'
    · have := h1 k x hx
      have hlt := (Array.getElem?_eq_some_iff.1 this).1
      rw [Array.getElem?_push, if_neg (by omega)]
      exact this
  · by_cases e : k = h.size
    · subst e; exact .inr hm
    · exact .inl (by simp [e])
theorem sat.old_get {h0 : Heap} {k : Nat} {o : Obj} (hs : sat h (old h0 :: R)) (hk : h0[k]? = some o) : h[k]? = some o := by
  obtain ⟨m, h1, a, r, hd, rfl, ha, hr⟩ := hs
  exact h1 k o (join_left (ha k o hk))
theorem sat_old (h0 : Heap) : sat h0 [old h0] := by
  refine ⟨fun k => h0[k]?, fun k o ho => ho, fun k => h0[k]?, fun _ => none, fun k => .inr rfl, ?_, fun k o ho => ho, trivial⟩
  funext k
  simp only [PH.join]
  cases h0[k]? <;> rfl
theorem sat.old_cell {h0 : Heap} {a : Addr} {v : Value} (hs : sat h (old h0 :: R)) (hc : cellH h0 a = some v) : cellH h a = some v := by
  unfold cellH at hc ⊢
  cases hb : h0[a.block]? with
  | none => simp [hb] at hc
  | some o => rw [hs.old_get hb]; rw [hb] at hc; exact hc
theorem cells_iff {b : Nat} {cs : Array Value} : sat h (cells b cs :: R) ↔ ∃ T, sat h (blk b (.cells cs T (0, 0)) :: R) := sat.ex_iff
theorem sat.cell {b : Nat} {cs : Array Value} (hs : sat h (cells b cs :: R)) (i : Nat) : cellH h ⟨b, i, none⟩ = cs[i]? := by
  obtain ⟨T, hs⟩ := cells_iff.1 hs
  simp [cellH, hs.get]
theorem sat.free {b : Nat} {cs : Array Value} (hs : sat h (cells b cs :: R)) (i : Nat) : frozenH h ⟨b, i, none⟩ = false := by
  obtain ⟨T, hs⟩ := cells_iff.1 hs
  simp [frozenH, hs.get]
theorem sat.cells_lt {b : Nat} {cs : Array Value} (hs : sat h (cells b cs :: R)) : b < h.size := by
  obtain ⟨T, hs⟩ := cells_iff.1 hs
  exact hs.lt
theorem sat.set {b : Nat} {cs : Array Value} (hs : sat h (cells b cs :: R)) (i : Nat) (v : Value) : sat (setCellH h ⟨b, i, none⟩ v) (cells b (cs.setIfInBounds i v) :: R) := by
  obtain ⟨T, hs⟩ := cells_iff.1 hs
  refine cells_iff.2 ⟨T, hs.turn ?_ ?_⟩
  · simp [setCellH, Array.getElem?_modify, hs.get]
  · intro k hk
    simp only [setCellH, Array.getElem?_modify]
    rw [if_neg (fun e => hk e.symm)]
theorem sat.push_cells {T : TypeId} {cs : Array Value} (hs : sat h R) : sat (h.push (.cells cs T)) (cells h.size cs :: R) := cells_iff.2 ⟨T, hs.push⟩
end
section
variable {α β : Type} {h : Heap} {Q : α → Heap → Prop} {R : List Asn}
@[simp] theorem HM.pure_apply (a : α) : HM.pure a h Q = Q a h := rfl
@[simp] theorem HM.bind_apply (m : HM β) (f : β → HM α) : HM.bind m f h Q = m h (fun b h' => f b h' Q) := rfl
@[simp] theorem HM.ite_apply (b : Bool) (x y : HM α) : HM.ite b x y h Q = if b = true then x h Q else y h Q := rfl
@[simp] theorem HM.both_apply (x y : HM α) : HM.both x y h Q = (x h Q ∧ y h Q) := rfl
@[simp] theorem HM.req_apply (p : Prop) (m : HM α) : HM.req p m h Q = (p ∧ m h Q) := rfl
@[simp] theorem HM.fail_apply : (HM.fail : HM α) h Q = False := rfl
@[simp] theorem HM.nonnil_some (a : Addr) (Q : Addr → Heap → Prop) : HM.nonnil (some a) h Q = Q a h := by simp [HM.nonnil]
theorem HM.load1_of {t : Tag} {a : Addr} {x : t.ty} {Q : t.ty → Heap → Prop} (hc : cellH h a = some (t.val x)) (hq : Q x h) : HM.load1 t a h Q := ⟨x, hc, hq⟩
@[simp] theorem Addr.add_at (b o n : Nat) : Addr.add ⟨b, o, none⟩ n = ⟨b, o + n, none⟩ := by
  cases n <;> simp [Addr.add]
@[simp] theorem load1_int (k : IntKind) (a : Addr) (Q : Int → Heap → Prop) : HM.load1 (.int k) a h Q = ∃ x, cellH h a = some (.int k x) ∧ Q x h := rfl
@[simp] theorem load1_bool (a : Addr) (Q : Bool → Heap → Prop) : HM.load1 .bool a h Q = ∃ x, cellH h a = some (.bool x) ∧ Q x h := rfl
@[simp] theorem load1_str (a : Addr) (Q : ByteArray → Heap → Prop) : HM.load1 .str a h Q = ∃ x, cellH h a = some (.string x) ∧ Q x h := rfl
@[simp] theorem load1_ptr (a : Addr) (Q : Option Addr → Heap → Prop) : HM.load1 .ptr a h Q = ∃ x, cellH h a = some (.pointer x) ∧ Q x h := rfl
@[simp] theorem load1_map (a : Addr) (Q : Option Nat → Heap → Prop) : HM.load1 .map a h Q = ∃ x, cellH h a = some (.map x) ∧ Q x h := rfl
@[simp] theorem load1_any (a : Addr) (Q : Value → Heap → Prop) : HM.load1 .any a h Q = ∃ x, cellH h a = some x ∧ Q x h := rfl
def slcOf : Option Value → Option Slc
  | some (.slice p n c) => some ⟨p, n, c⟩
  | _ => none
@[simp] theorem slcOf_slice (p : Option Addr) (n c : Nat) : slcOf (some (.slice p n c)) = some ⟨p, n, c⟩ := rfl
@[simp] theorem Slc.eta (s : Slc) : (⟨s.a, s.len, s.cap⟩ : Slc) = s := rfl
@[simp] theorem load1_slc (a : Addr) (Q : Slc → Heap → Prop) : HM.load1 .slc a h Q = ∃ x, slcOf (cellH h a) = some x ∧ Q x h := by
  refine propext ⟨fun ⟨x, h1, h2⟩ => ⟨x, by rw [h1]; rfl, h2⟩, fun ⟨x, h1, h2⟩ => ⟨x, ?_, h2⟩⟩
  unfold slcOf at h1
  split at h1
  · rename_i e; rw [e]; cases h1; rfl
  · cases h1
theorem store1_cells {b : Nat} {cs : Array Value} {i : Nat} {v : Value} {Q : Unit → Heap → Prop} (hs : sat h (cells b cs :: R)) (hi : i < cs.size) (hv : v.oneCell' = true)
    (hq : ∀ h', sat h' (cells b (cs.setIfInBounds i v) :: R) → Q () h') : HM.store1 ⟨b, i, none⟩ v h Q :=
  ⟨by rw [hs.cell i]; simp [hi], hs.free i, hv, hq _ (hs.set i v)⟩
theorem new_cells {cs : Array Value} {T : TypeId} {Q : Nat → Heap → Prop} (hs : sat h R) (hq : ∀ b h', sat h' (cells b cs :: R) → Q b h') : HM.new (.cells cs T) h Q := hq _ _ hs.push_cells
theorem new_blk {o : Obj} {Q : Nat → Heap → Prop} (hs : sat h R) (hq : ∀ b h', sat h' (blk b o :: R) → Q b h') : HM.new o h Q := hq _ _ hs.push
def Kind.un (k : Kind) (Q : k.ty → Heap → Prop) (v : Value) (h : Heap) : Prop := ∃ x, v = k.val x ∧ Q x h
def KTup.un (ks : List Kind) (Q : KTup ks → Heap → Prop) (v : Value) (h : Heap) : Prop := ∃ x, v = .tuple (KTup.vals ks x).toArray ∧ Q x h
@[simp] theorem HM.call1_apply (P : Program) (k : Kind) (f : FuncId) (args : Array Value) (Q : k.ty → Heap → Prop) : HM.call1 P k f args h Q = HCalls P f args h (k.un Q) := rfl
@[simp] theorem HM.callN_apply (P : Program) (ks : List Kind) (f : FuncId) (args : Array Value) (Q : KTup ks → Heap → Prop) : HM.callN P ks f args h Q = HCalls P f args h (KTup.un ks Q) := rfl
@[simp] theorem un_int (k : IntKind) (Q : Int → Heap → Prop) (n : Int) : Kind.un (.one (.int k)) Q (.int k n) h = Q n h := by simp [Kind.un, Kind.val, Tag.val]
@[simp] theorem un_bool (Q : Bool → Heap → Prop) (b : Bool) : Kind.un (.one .bool) Q (.bool b) h = Q b h := by
  simp only [Kind.un, Kind.val, Tag.val, Value.bool.injEq]
  exact propext ⟨fun ⟨x, h1, h2⟩ => h1 ▸ h2, fun h => ⟨b, rfl, h⟩⟩
@[simp] theorem un_str (Q : ByteArray → Heap → Prop) (b : ByteArray) : Kind.un (.one .str) Q (.string b) h = Q b h := by simp [Kind.un, Kind.val, Tag.val]
@[simp] theorem un_ptr (Q : Option Addr → Heap → Prop) (b : Option Addr) : Kind.un (.one .ptr) Q (.pointer b) h = Q b h := by simp [Kind.un, Kind.val, Tag.val]
@[simp] theorem un_map (Q : Option Nat → Heap → Prop) (b : Option Nat) : Kind.un (.one .map) Q (.map b) h = Q b h := by simp [Kind.un, Kind.val, Tag.val]
@[simp] theorem un_any (Q : Value → Heap → Prop) (b : Value) : Kind.un (.one .any) Q b h = Q b h := by simp [Kind.un, Kind.val, Tag.val]
@[simp] theorem un_slc (Q : Slc → Heap → Prop) (a : Option Addr) (n c : Nat) : Kind.un (.one .slc) Q (.slice a n c) h = Q ⟨a, n, c⟩ h := by
  refine propext ⟨?_, fun hq => ⟨⟨a, n, c⟩, rfl, hq⟩⟩
  rintro ⟨x, h1, h2⟩
  cases h1
  exact h2
theorem bind_call1 {β : Type} {P : Program} {k : Kind} {f : FuncId} {args : Array Value} {g : k.ty → HM β} {h : Heap} {Q : β → Heap → Prop} (hc : HCalls P f args h (k.un fun x h' => g x h' Q)) : (HM.bind (HM.call1 P k f args) g) h Q := hc
theorem bind_callN {β : Type} {P : Program} {ks : List Kind} {f : FuncId} {args : Array Value} {g : KTup ks → HM β} {h : Heap} {Q : β → Heap → Prop} (hc : HCalls P f args h (KTup.un ks fun x h' => g x h' Q)) : (HM.bind (HM.callN P ks f args) g) h Q := hc
@[simp] theorem un2 (k l : Kind) (Q : KTup [k, l] → Heap → Prop) (v w : Value) : KTup.un [k, l] Q (.tuple #[v, w]) h = k.un (fun x _ => l.un (fun y h => Q (x, y, ()) h) w h) v h := by
  refine propext ⟨?_, ?_⟩
  · rintro ⟨⟨x, y, u⟩, h1, h2⟩
    have h1 : #[v, w] = [k.val x, l.val y].toArray := Value.tuple.inj h1
    have h1 := congrArg Array.toList h1
    simp at h1
    exact ⟨x, h1.1, y, h1.2, h2⟩
  · rintro ⟨x, h1, y, h2, h3⟩
    exact ⟨(x, y, ()), by rw [h1, h2]; rfl, h3⟩
@[simp] theorem un3 (k l m : Kind) (Q : KTup [k, l, m] → Heap → Prop) (v w z : Value) : KTup.un [k, l, m] Q (.tuple #[v, w, z]) h = k.un (fun x _ => l.un (fun y _ => m.un (fun t h => Q (x, y, t, ()) h) z h) w h) v h := by
  refine propext ⟨?_, ?_⟩
  · rintro ⟨⟨x, y, t, u⟩, h1, h2⟩
    have h1 : #[v, w, z] = [k.val x, l.val y, m.val t].toArray := Value.tuple.inj h1
    have h1 := congrArg Array.toList h1
    simp at h1
    exact ⟨x, h1.1, y, h1.2.1, t, h1.2.2, h2⟩
  · rintro ⟨x, h1, y, h2, t, h3, h4⟩
    exact ⟨(x, y, t, ()), by rw [h1, h2, h3]; rfl, h4⟩
@[simp] theorem un0 (Q : KTup [] → Heap → Prop) : KTup.un [] Q (.tuple #[]) h = Q () h := by
  refine propext ⟨fun ⟨x, _, h2⟩ => h2, fun h => ⟨(), rfl, h⟩⟩
@[simp] theorem packed0 (x : Unit) : packed [] x = .tuple #[] := rfl
@[simp] theorem packed1 (k : Kind) (x : k.ty) : packed [k] (x, ()) = k.val x := rfl
@[simp] theorem packed2 (k l : Kind) (x : k.ty) (y : l.ty) : packed [k, l] (x, y, ()) = .tuple #[k.val x, l.val y] := rfl
@[simp] theorem packed3 (k l m : Kind) (x : k.ty) (y : l.ty) (z : m.ty) : packed [k, l, m] (x, y, z, ()) = .tuple #[k.val x, l.val y, m.val z] := rfl
@[simp] theorem val_one (t : Tag) (x : t.ty) : Kind.val (.one t) x = t.val x := rfl
@[simp] theorem val_int (k : IntKind) (x : Int) : Tag.val (.int k) x = .int k x := rfl
@[simp] theorem val_bool (x : Bool) : Tag.val .bool x = .bool x := rfl
@[simp] theorem val_str (x : ByteArray) : Tag.val .str x = .string x := rfl
@[simp] theorem val_ptr (x : Option Addr) : Tag.val .ptr x = .pointer x := rfl
@[simp] theorem val_map (x : Option Nat) : Tag.val .map x = .map x := rfl
@[simp] theorem val_any (x : Value) : Tag.val .any x = x := rfl
@[simp] theorem val_slc (x : Slc) : Tag.val .slc x = .slice x.a x.len x.cap := rfl
@[simp] theorem ex_int {k : IntKind} {n : Int} {Q : Int → Prop} : (∃ x : Int, Value.int k n = .int k x ∧ Q x) = Q n := by simp
theorem loop_of {σ τ : Type} {body : σ → HM (σ ⊕ τ)} {s : σ} {Q : τ → Heap → Prop} (I : σ → Heap → Prop) (μ : σ → Heap → Nat) (h0 : I s h) (hr : ∀ s h, I s h → body s h fun r h' => match r with
      | .inl s' => I s' h' ∧ μ s' h' < μ s h
      | .inr t => Q t h') : HM.loop body s h Q := ⟨I, μ, h0, hr⟩
end
section
variable {K V : Type} [DecidableEq K]
def mget (l : List (K × V)) (k : K) : Option V := (l.find? (fun p => decide (p.1 = k))).map (·.2)
def mset : List (K × V) → K → V → List (K × V)
  | [], k, v => [(k, v)]
  | (a, b) :: l, k, v => if a = k then (k, v) :: l else (a, b) :: mset l k v
@[simp] theorem mget_nil (k : K) : mget ([] : List (K × V)) k = none := rfl
theorem mget_cons (a : K) (b : V) (l : List (K × V)) (k : K) : mget ((a, b) :: l) k = if a = k then some b else mget l k := by
  by_cases h : a = k <;> simp [mget, List.find?, h]
def Ents (ek : K → Value) (ev : V → Value) (l : List (K × V)) (es : List MapEntry) : Prop := es.map (fun e => (e.key, e.val)) = l.map (fun p => (ek p.1, ev p.2))
structure KeyLaw (kd : SameK) (ek : K → Value) : Prop where
  same : ∀ a b, kd (ek a) (ek b) = some (decide (a = b))
  bits : ∀ a, Instr.sameBits 10000 (ek a) (ek a) = true
theorem place_of {kd : SameK} {ek : K → Value} (hk : KeyLaw kd ek) {ev : V → Value} (k : K) : ∀ (l : List (K × V)) (es : List MapEntry) (i : Nat), Ents ek ev l es →
    (mget l k = none ∧ placeAt kd (ek k) es i = some none) ∨ ∃ v j e, mget l k = some v ∧ placeAt kd (ek k) es i = some (some (i + j, ev v)) ∧ es[j]? = some e ∧ e.key = ek k
  | [], [], i, _ => .inl ⟨rfl, rfl⟩
  | [], _ :: _, i, h => by simp [Ents] at h
  | _ :: _, [], i, h => by simp [Ents] at h
  | (a, b) :: l, e :: es, i, h => by
    simp only [Ents, List.map_cons, List.cons.injEq, Prod.mk.injEq] at h
    obtain ⟨⟨h1, h2⟩, h3⟩ := h
    simp only [placeAt, h1, hk.same, mget_cons]
    by_cases hka : k = a
    · subst hka
      right
      exact ⟨b, 0, e, by simp, by simp [h2], rfl, h1⟩
    · have hak : ¬ a = k := fun hh => hka hh.symm
      simp only [hka, hak, decide_false, if_false]
      rcases place_of hk k l es (i + 1) h3 with ⟨h4, h5⟩ | ⟨v, j, e', h4, h5, h6, h7⟩
      · exact .inl ⟨h4, h5⟩
      · exact .inr ⟨v, j + 1, e', h4, by rw [h5]; congr 3; omega, by simpa using h6, h7⟩
theorem ents_set {ek : K → Value} (hinj : ∀ a b, ek a = ek b → a = b) {ev : V → Value} (k : K) (x : V) : ∀ (l : List (K × V)) (es : List MapEntry), Ents ek ev l es → ∀ (i : Nat) (o : Nat × Value) (kd : SameK), KeyLaw kd ek →
    placeAt kd (ek k) es i = some (some o) → Ents ek ev (mset l k x) (es.modify (o.1 - i) fun e => { e with key := ek k, val := ev x }) ∧ i ≤ o.1
  | [], [], _, i, o, kd, _, hf => by simp [placeAt] at hf
  | [], _ :: _, h, _, _, _, _, _ => by simp [Ents] at h
  | _ :: _, [], h, _, _, _, _, _ => by simp [Ents] at h
  | (a, b) :: l, e :: es, h, i, o, kd, hk, hf => by
    simp only [Ents, List.map_cons, List.cons.injEq, Prod.mk.injEq] at h
    obtain ⟨⟨h1, h2⟩, h3⟩ := h
    simp only [placeAt, h1, hk.same] at hf
    by_cases hka : k = a
    · subst hka
      simp only [decide_true, Option.some.injEq] at hf
      subst hf
      simp only [Nat.sub_self, mset, if_true]
      refine ⟨?_, Nat.le_refl _⟩
      simp [Ents, List.modify_zero_cons] at h3 ⊢
      exact h3
    · simp only [hka, decide_false] at hf
      obtain ⟨h4, h5⟩ := ents_set hinj k x l es h3 (i + 1) o kd hk hf
      refine ⟨?_, by omega⟩
      rw [show o.1 - i = (o.1 - (i + 1)) + 1 from by omega]
      simp only [mset, if_neg (fun hh : a = k => hka hh.symm), List.modify_succ_cons]
      simp only [Ents, List.map_cons, h1, h2]
      rw [h4]
theorem mset_none : ∀ (l : List (K × V)) (k : K) (v : V), mget l k = none → mset l k v = l ++ [(k, v)]
  | [], _, _, _ => rfl
  | (a, b) :: l, k, v, h => by
    rw [mget_cons] at h
    by_cases hak : a = k
    · rw [if_pos hak] at h; cases h
    · rw [if_neg hak] at h
      simp only [mset, if_neg hak, List.cons_append, mset_none l k v h]
end
section
variable {K V : Type}
def mapA (ek : K → Value) (ev : V → Value) (r : Nat) (l : List (K × V)) : Asn :=
  exA fun x : Array MapEntry × Nat => star (pr (Ents ek ev l x.1.toList ∧ Stamped x.1 x.2)) (blk r (.map x.1 x.2))
variable {h : Heap} {R : List Asn} {ek : K → Value}
theorem mapA_iff {ev : V → Value} {r : Nat} {l : List (K × V)} : sat h (mapA ek ev r l :: R) ↔ ∃ es clock, (Ents ek ev l es.toList ∧ Stamped es clock) ∧ sat h (blk r (.map es clock) :: R) := by
  unfold mapA
  rw [sat.ex_iff]
  constructor
  · rintro ⟨⟨es, c⟩, hs⟩
    rw [sat.star_iff, sat.pr_iff] at hs
    exact ⟨es, c, hs⟩
  · rintro ⟨es, c, hs⟩
    exact ⟨(es, c), by rw [sat.star_iff, sat.pr_iff]; exact hs⟩
theorem new_map {ev : V → Value} {Q : Nat → Heap → Prop} (hs : sat h R) (hq : ∀ r h', sat h' (mapA ek ev r [] :: R) → Q r h') : HM.new (.map #[] 0) h Q :=
  new_blk hs fun r h' hs' => hq r h' (mapA_iff.2 ⟨#[], 0, ⟨rfl, Go.MapKept.stamped_empty 0⟩, hs'⟩)
theorem len_map {ev : V → Value} {r : Nat} {l : List (K × V)} {Q : Int → Heap → Prop} (hs : sat h (mapA ek ev r l :: R)) (hq : Q (l.length : Int) h) : HM.mapLen (some r) h Q := by
  obtain ⟨es, c, ⟨he, hst⟩, hs⟩ := mapA_iff.1 hs
  refine ⟨es.toList, c, by simpa [entriesH] using hs.get, ?_⟩
  have := congrArg List.length he
  simp at this
  simpa [this] using hq
end
section
variable {K V : Type} [DecidableEq K] {h : Heap} {R : List Asn} {ek : K → Value}
theorem lookup_map {kd : SameK} (hk : KeyLaw kd ek) {kind : Kind} {z : kind.ty} {zero : Value} (hz : zero = kind.val z) {r : Nat} {l : List (K × kind.ty)} {k : K} {Q : kind.ty × Bool → Heap → Prop}
    (hs : sat h (mapA ek kind.val r l :: R)) (hq : Q ((mget l k).getD z, (mget l k).isSome) h) : HM.lookup kd zero kind (some r) (ek k) h Q := by
  obtain ⟨es, c, ⟨he, hst⟩, hs⟩ := mapA_iff.1 hs
  rcases place_of hk k l es.toList 0 he with ⟨h1, h2⟩ | ⟨v, j, e, h1, h2, -, -⟩
  · refine ⟨es.toList, c, none, z, by simpa [entriesH] using hs.get, h2, hz, ?_⟩
    rw [h1] at hq; exact hq
  · refine ⟨es.toList, c, some (0 + j, kind.val v), v, by simpa [entriesH] using hs.get, h2, rfl, ?_⟩
    rw [h1] at hq; exact hq
theorem mget_none_iff (l : List (K × V)) (k : K) : mget l k = none ↔ k ∉ l.map (·.1) := by
  induction l with
  | nil => simp
  | cons p l ih =>
    obtain ⟨a, b⟩ := p
    rw [mget_cons]
    by_cases h : a = k
    · simp [h]
    · rw [if_neg h, ih]
      simp [Ne.symm h]
theorem set_map {kd : SameK} (hk : KeyLaw kd ek) (hinj : ∀ a b, ek a = ek b → a = b) {ev : V → Value} {r : Nat} {l : List (K × V)} {k : K} {x : V} {Q : Unit → Heap → Prop}
    (hs : sat h (mapA ek ev r l :: R)) (hq : ∀ h', sat h' (mapA ek ev r (mset l k x) :: R) → Q () h') : HM.mapSet kd (some r) (ek k) (ev x) h Q := by
  obtain ⟨es, c, ⟨he, hst⟩, hs⟩ := mapA_iff.1 hs
  have hlt := hs.lt
  rcases place_of hk k l es.toList 0 he with ⟨h1, h2⟩ | ⟨v, j, e, h1, h2, h3, h4⟩
  · refine ⟨r, es, c, none, rfl, hs.get, h2, hq _ (mapA_iff.2 ⟨_, _, ⟨?_, ?_⟩, hs.turn (o' := .map (es.push { key := ek k, val := ev x, born := c }) (c + 1)) (by simp [hlt]) (fun k hk => ?_)⟩)⟩
    · rw [mset_none l k x h1]
      simp only [Ents, Array.toList_push, List.map_append, List.map_cons, List.map_nil]
      rw [he]
    · refine Go.MapKept.stamped_push hst fun y hy hyk => ?_
      have e : es.toList.map (·.key) = (l.map (·.1)).map ek := by
        have := congrArg (List.map Prod.fst) he
        simpa [Function.comp_def] using this
      have hm : ek k ∈ (l.map (·.1)).map ek := by rw [← e, ← hyk]; exact List.mem_map_of_mem hy
      obtain ⟨k', hk', he'⟩ := List.mem_map.1 hm
      exact (mget_none_iff l k).1 h1 (hinj _ _ he' ▸ hk')
    · rw [Array.getElem?_setIfInBounds, if_neg (fun e => hk e.symm)]
  · have h3' : es[0 + j]? = some e := by simpa using h3
    refine ⟨r, es, c, some (0 + j, ev v), rfl, hs.get, h2, ?_, hk.bits k, hq _ (mapA_iff.2 ⟨_, _, ⟨?_, ?_⟩, hs.turn (o' := .map (es.modify (0 + j) fun e => { e with key := ek k, val := ev x }) c) (by simp [hlt]) (fun k hk => ?_)⟩)⟩
    · rw [h3']; exact h4
    · have := (ents_set hinj k x l es.toList he 0 _ kd hk h2).1
      simpa using this
    · refine Go.MapKept.stamped_modify hst _ _ (fun _ _ => rfl) (fun e' _ he' => ?_)
      rw [h3'] at he'
      cases he'
      exact h4.symm
    · rw [Array.getElem?_setIfInBounds, if_neg (fun e => hk e.symm)]
end
end Go.H
namespace Go.H
set_option linter.unusedSimpArgs false
set_option linter.unusedVariables false
class Mono {α : Type} (m : HM α) : Prop where
  mono : ∀ (h : Heap) (Q1 Q2 : α → Heap → Prop), (∀ a h', Q1 a h' → Q2 a h') → m h Q1 → m h Q2
section
variable {α β σ τ : Type}
instance mono_pure (a : α) : Mono (HM.pure a) := ⟨fun _ _ _ hq hm => hq _ _ hm⟩
instance mono_bind (m : HM α) (f : α → HM β) [Mono m] [hf : ∀ a, Mono (f a)] : Mono (HM.bind m f) :=
  ⟨fun h _ _ hq hm => Mono.mono (m := m) h _ _ (fun a h' hx => (hf a).mono h' _ _ hq hx) hm⟩
instance : Mono (HM.fail : HM α) := ⟨fun _ _ _ _ hm => hm⟩
instance mono_both (x y : HM α) [hx : Mono x] [hy : Mono y] : Mono (HM.both x y) := ⟨fun h Q Q' hq hm => ⟨hx.mono h Q Q' hq hm.1, hy.mono h Q Q' hq hm.2⟩⟩
instance mono_ite (b : Bool) (x y : HM α) [Mono x] [Mono y] : Mono (HM.ite b x y) := ⟨fun h _ _ hq hm => by
  cases b
  · exact Mono.mono (m := y) h _ _ hq hm
  · exact Mono.mono (m := x) h _ _ hq hm⟩
instance mono_req (p : Prop) (m : HM α) [Mono m] : Mono (HM.req p m) := ⟨fun h _ _ hq hm => ⟨hm.1, Mono.mono (m := m) h _ _ hq hm.2⟩⟩
instance mono_loop (body : σ → HM (σ ⊕ τ)) (s : σ) [hb : ∀ s, Mono (body s)] : Mono (HM.loop body s) := ⟨fun _ _ _ hq => by
  rintro ⟨I, μ, h0, hr⟩
  refine ⟨I, μ, h0, fun s h hi => (hb s).mono h _ _ ?_ (hr s h hi)⟩
  intro r h' hx
  cases r with
  | inl _ => exact hx
  | inr _ => exact hq _ _ hx⟩
instance mono_elim (f : α → HM τ) (g : β → HM τ) (x : α ⊕ β) [hf : ∀ a, Mono (f a)] [hg : ∀ b, Mono (g b)] : Mono (Sum.elim f g x : HM τ) := by
  cases x with
  | inl a => exact hf a
  | inr b => exact hg b
instance (t : Tag) (a : Addr) : Mono (α := no_index (Tag.ty t)) (HM.load1 t a) := ⟨fun _ _ _ hq ⟨x, h1, h2⟩ => ⟨x, h1, hq _ _ h2⟩⟩
instance (ts : List Tag) (a : Addr) : Mono (α := no_index (Tup ts)) (HM.loadN ts a) := ⟨fun _ _ _ hq ⟨x, h1, h2⟩ => ⟨x, h1, hq _ _ h2⟩⟩
instance (a : Addr) (v : Value) : Mono (HM.store1 a v) := ⟨fun _ _ _ hq ⟨x, h1, h2, h3⟩ => ⟨x, h1, h2, hq _ _ h3⟩⟩
instance (a : Addr) (vs : List Value) : Mono (HM.storeN a vs) := ⟨fun _ _ _ hq ⟨x, h1⟩ => ⟨x, hq _ _ h1⟩⟩
instance (o : Obj) : Mono (HM.new o) := ⟨fun _ _ _ hq hm => hq _ _ hm⟩
instance (p : Option Addr) : Mono (HM.nonnil p) := ⟨fun _ _ _ hq ⟨x, h1, h2⟩ => ⟨x, h1, hq _ _ h2⟩⟩
instance (a : Option Addr) (len : Nat) (i : Int) (size : Nat) : Mono (HM.idx a len i size) := ⟨fun _ _ _ hq ⟨x, h1, h2, h3, h4⟩ => ⟨x, h1, h2, h3, hq _ _ h4⟩⟩
instance (s : ByteArray) (i : Int) : Mono (HM.strIdx s i) := ⟨fun _ _ _ hq ⟨x, h1, h2, h3⟩ => ⟨x, h1, h2, hq _ _ h3⟩⟩
instance (P : Program) (k : Kind) (f : FuncId) (args : Array Value) : Mono (α := no_index (Kind.ty k)) (HM.call1 P k f args) := ⟨fun _ _ _ hq hm => HCalls.mono hm fun _ _ ⟨x, h1, h2⟩ => ⟨x, h1, hq _ _ h2⟩⟩
instance (P : Program) (ks : List Kind) (f : FuncId) (args : Array Value) : Mono (α := no_index (KTup ks)) (HM.callN P ks f args) := ⟨fun _ _ _ hq hm => HCalls.mono hm fun _ _ ⟨x, h1, h2⟩ => ⟨x, h1, hq _ _ h2⟩⟩
instance (P : Program) (k : Kind) (v : Value) (args : Array Value) : Mono (α := no_index (Kind.ty k)) (HM.callV1 P k v args) := ⟨fun _ _ _ hq ⟨f, first, captured, h1, h2, hm⟩ => ⟨f, first, captured, h1, h2, HCalls.mono hm fun _ _ ⟨x, h1, h2⟩ => ⟨x, h1, hq _ _ h2⟩⟩⟩
instance (P : Program) (ks : List Kind) (v : Value) (args : Array Value) : Mono (α := no_index (KTup ks)) (HM.callVN P ks v args) := ⟨fun _ _ _ hq ⟨f, first, captured, h1, h2, hm⟩ => ⟨f, first, captured, h1, h2, HCalls.mono hm fun _ _ ⟨x, h1, h2⟩ => ⟨x, h1, hq _ _ h2⟩⟩⟩
instance (s : Slc) (lo hi mx : Option Int) (size : Nat) : Mono (HM.slice s lo hi mx size) := ⟨fun _ _ _ hq ⟨l, hh, m, h1, h2, h3, h4⟩ => ⟨l, hh, m, h1, h2, h3, hq _ _ h4⟩⟩
instance (s : ByteArray) (lo hi : Option Int) : Mono (HM.substr s lo hi) := ⟨fun _ _ _ hq ⟨l, hh, h1, h2, h4⟩ => ⟨l, hh, h1, h2, hq _ _ h4⟩⟩
instance (elem : TypeId) (size bytes : Nat) (zero : Array Value) (s : Slc) (n : Nat) (src : Heap → Array Value → Prop) : Mono (HM.append elem size bytes zero s n src) := ⟨fun h Q1 Q2 hq hm => by
  refine ⟨fun hc => ?_, fun hc => ?_⟩
  · obtain ⟨vs, h1, h2⟩ := hm.1 hc
    refine ⟨vs, h1, ?_⟩
    cases hs : s.a with
    | none => rw [hs] at h2; exact hq _ _ h2
    | some a => rw [hs] at h2; exact ⟨h2.1, hq _ _ h2.2⟩
  · obtain ⟨h1, h2, old, vs, h3, h4, h5⟩ := hm.2 hc
    exact ⟨h1, h2, old, vs, h3, h4, fun c hc hc2 => hq _ _ (h5 c hc hc2)⟩⟩
instance (elem : TypeId) (bytes : Nat) (zero : Array Value) (n c : Int) : Mono (HM.makeSlice elem bytes zero n c) := ⟨fun _ _ _ hq ⟨h1, h2, h3, h4, h5⟩ => ⟨h1, h2, h3, h4, hq _ _ h5⟩⟩
instance (d : Slc) (n : Nat) (src : Nat → Heap → Array Value → Prop) : Mono (HM.copy d n src) := ⟨fun h Q1 Q2 hq ⟨vs, h1, h2⟩ => by
  refine ⟨vs, h1, ?_⟩
  cases hs : d.a with
  | none => rw [hs] at h2; exact hq _ _ h2
  | some a => rw [hs] at h2; exact ⟨h2.1, hq _ _ h2.2⟩⟩
instance (kd : SameK) (zero : Value) (k : Kind) (r : Option Nat) (key : Value) : Mono (α := no_index (Kind.ty k × Bool)) (HM.lookup kd zero k r key) := ⟨fun _ _ _ hq ⟨es, c, o, x, h1, h2, h3, h4⟩ => ⟨es, c, o, x, h1, h2, h3, hq _ _ h4⟩⟩
instance (kd : SameK) (r : Option Nat) (key val : Value) : Mono (HM.mapSet kd r key val) := ⟨fun h Q1 Q2 hq ⟨b, es, c, o, h1, h2, h3, h4⟩ => by
  refine ⟨b, es, c, o, h1, h2, h3, ?_⟩
  cases o with
  | none => exact hq _ _ h4
  | some o => exact ⟨h4.1, h4.2.1, hq _ _ h4.2.2⟩⟩
instance (kd : SameK) (r : Option Nat) (key : Value) : Mono (HM.mapDel kd r key) := ⟨fun h Q1 Q2 hq hm => by
  cases r with
  | none => exact hq _ _ hm
  | some b =>
    obtain ⟨es, c, o, h1, h2, h3⟩ := hm
    refine ⟨es, c, o, h1, h2, ?_⟩
    cases o with
    | none => exact hq _ _ h3
    | some o => exact hq _ _ h3⟩
instance (zero : Array Value) (s : Slc) : Mono (HM.clearS zero s) := ⟨fun h Q1 Q2 hq hm => by
  unfold HM.clearS at hm ⊢
  cases ha : s.a with
  | none => simp only [ha] at hm ⊢; exact hq _ _ hm
  | some a =>
    simp only [ha] at hm ⊢
    by_cases hn : s.len = 0
    · rw [if_pos hn] at hm ⊢; exact hq _ _ hm
    · rw [if_neg hn] at hm ⊢; exact ⟨hm.1, hq _ _ hm.2⟩⟩
instance (r : Option Nat) : Mono (HM.clearM r) := ⟨fun h Q1 Q2 hq hm => by
  cases r with
  | none => exact hq _ _ hm
  | some r => obtain ⟨es, c, h1, h2⟩ := hm; exact ⟨es, c, h1, hq _ _ h2⟩⟩
instance (r : Option Nat) : Mono (HM.rangeM r) := ⟨fun h Q1 Q2 hq hm => by
  cases r with
  | none => exact hq _ _ hm
  | some r => obtain ⟨es, c, h1, h2⟩ := hm; exact ⟨es, c, h1, hq _ _ h2⟩⟩
instance (b : Nat) : Mono (HM.nextS b) := ⟨fun h Q1 Q2 hq ⟨s, p, h1, h2, h3⟩ => ⟨s, p, h1, fun hp => hq _ _ (h2 hp), fun hp => hq _ _ (h3 hp)⟩⟩
instance (b : Nat) : Mono (HM.nextM b) := ⟨fun h Q1 Q2 hq ⟨m, since, seen, last, h1, h2⟩ => ⟨m, since, seen, last, h1, by
  cases m with
  | none => exact hq _ _ h2
  | some m =>
    obtain ⟨es, c, h3, h4, h5, h6⟩ := h2
    exact ⟨es, c, h3, h4, fun hh => hq _ _ (h5 hh), fun e he hs => hq _ _ (h6 e he hs)⟩⟩⟩
instance (kk kv : Kind) (b : Nat) : Mono (α := no_index (Kind.ty kk × Kind.ty kv)) (HM.entryM kk kv b) := ⟨fun h Q1 Q2 hq ⟨m, since, seen, stepped, es, stamp, e, k, v, h1, h2, h3, h4, h5, h6, h7⟩ => ⟨m, since, seen, stepped, es, stamp, e, k, v, h1, h2, h3, h4, h5, h6, hq _ _ h7⟩⟩
instance (kd : SameK) (zero : Value) (k : Kind) (r : Option Nat) (key : Value) : Mono (α := no_index (Kind.ty k × Int)) (HM.mapEntry kd zero k r key) := ⟨fun h Q1 Q2 hq ⟨b, es, c, o, h1, h2, h3, h4⟩ => ⟨b, es, c, o, h1, h2, h3, by
  cases o with
  | none => obtain ⟨x, h5, h6⟩ := h4; exact ⟨x, h5, hq _ _ h6⟩
  | some p => obtain ⟨h7, h8, x, h5, h6⟩ := h4; exact ⟨h7, h8, x, h5, hq _ _ h6⟩⟩⟩
instance (r : Option Nat) (st : Int) (v : Value) : Mono (HM.entryStore r st v) := ⟨fun h Q1 Q2 hq ⟨b, es, c, i, h1, h2, h3, h4⟩ => ⟨b, es, c, i, h1, h2, h3, hq _ _ h4⟩⟩
instance mono_opt (o : Option α) (a : HM β) (f : α → HM β) [ha : Mono a] [hf : ∀ x, Mono (f x)] : Mono (HM.opt o a f) := ⟨fun h Q1 Q2 hq hm => by
  cases o with
  | none => exact ha.mono _ _ _ hq hm
  | some x => exact (hf x).mono _ _ _ hq hm⟩
instance (s : Slc) : Mono (HM.strOf s) := ⟨fun _ _ _ hq ⟨ns, h1, h2⟩ => ⟨ns, h1, hq _ _ h2⟩⟩
instance (r : Option Nat) : Mono (HM.mapLen r) := ⟨fun _ _ _ hq ⟨es, c, h1, h2⟩ => ⟨es, c, h1, hq _ _ h2⟩⟩
def Next {γ σ : Type} (I : γ → σ → Heap → Prop) (μ : γ → Nat) (g : γ) (s : σ) (h : Heap) : Prop := ∃ g', μ g' < μ g ∧ I g' s h
end
theorem bind_cut {α β : Type} {m : HM α} [hm : Mono m] {f : α → HM β} {h : Heap} {Q : β → Heap → Prop} (P : α → Heap → Prop) (h1 : m h P) (h2 : ∀ a h', P a h' → f a h' Q) : (m.bind f) h Q :=
  hm.mono h P _ h2 h1
end Go.H
namespace Go.H
set_option linter.unusedSimpArgs false
set_option linter.unusedVariables false
open Go.MapKept (Stamped)
section
variable {K V : Type}
def PairE (ek : K → Value) (ev : V → Value) (l : List (K × V)) (es : List MapEntry) : Prop := es.map (fun e => (e.key, e.val)) = l.map (fun p => (ek p.1, ev p.2))
structure ItF (ek : K → Value) (ev : V → Value) (l done todo : List (K × V)) (es : Array MapEntry) (clock : Nat) (seen : Array Nat) (des tes : List MapEntry) : Prop where
  ents : Ents ek ev l es.toList
  stamped : Stamped es clock
  perm : (des ++ tes).Perm es.toList
  seen : seen.toList = des.map (·.born)
  done : PairE ek ev done des
  todo : PairE ek ev todo tes
def itA (ek : K → Value) (ev : V → Value) (m : Nat) (l : List (K × V)) (it : Nat) (done todo : List (K × V)) : Asn :=
  exA fun x : Array MapEntry × Nat × Array Nat × List MapEntry × List MapEntry =>
    star (pr (ItF ek ev l done todo x.1 x.2.1 x.2.2.1 x.2.2.2.1 x.2.2.2.2)) (star (blk it (.mapIter (some m) x.2.1 x.2.2.1 x.2.1)) (blk m (.map x.1 x.2.1)))
variable {h : Heap} {R : List Asn} {ek : K → Value} {ev : V → Value} {m it : Nat} {l done todo : List (K × V)}
theorem itA_iff : sat h (itA ek ev m l it done todo :: R) ↔ ∃ es clock seen des tes, ItF ek ev l done todo es clock seen des tes ∧ sat h (blk it (.mapIter (some m) clock seen clock) :: blk m (.map es clock) :: R) := by
  unfold itA
  rw [sat.ex_iff]
  constructor
  · rintro ⟨⟨es, c, s, d, t⟩, hs⟩
    rw [sat.star_iff, sat.pr_iff, sat.star_iff] at hs
    exact ⟨es, c, s, d, t, hs⟩
  · rintro ⟨es, c, s, d, t, hs⟩
    exact ⟨(es, c, s, d, t), by rw [sat.star_iff, sat.pr_iff, sat.star_iff]; exact hs⟩
theorem entry_map {kk kv : Kind} {p : K × V} {x : kk.ty} {y : kv.ty} {Q : kk.ty × kv.ty → Heap → Prop} (hk : ek p.1 = kk.val x) (hv : ev p.2 = kv.val y)
    (hs : sat h (itA ek ev m l it (done ++ [p]) todo :: R)) (hq : Q (x, y) h) : HM.entryM kk kv it h Q := by
  obtain ⟨es, c, seen, des, tes, hf, hs⟩ := itA_iff.1 hs
  have hd := hf.done
  simp only [PairE, List.map_append, List.map_cons, List.map_nil] at hd
  obtain ⟨d1, d2', e1, e2, e3⟩ := List.map_eq_append_iff.1 hd
  obtain ⟨e, d2, e4, e5, e6⟩ := List.map_eq_cons_iff.1 e3
  have : d2 = [] := List.map_eq_nil_iff.1 e6
  subst this e4 e1
  obtain ⟨k1, k2⟩ := Prod.mk.inj e5
  have hnd : (es.toList.map (·.born)).Nodup := hf.stamped.2.1
  have hem : e ∈ es.toList := hf.perm.mem_iff.1 (by simp)
  have hfind : es.find? (fun x => x.born == e.born) = some e := by
    rw [← Array.find?_toList]
    obtain ⟨a, b, hab⟩ := List.append_of_mem hem
    rw [hab]
    rw [hab, List.map_append, List.map_cons, List.nodup_append] at hnd
    rw [List.find?_append]
    have : a.find? (fun x => x.born == e.born) = none := by
      rw [List.find?_eq_none]
      intro x hx
      have := hnd.2.2 x.born (List.mem_map_of_mem hx) e.born (by simp)
      simpa using this
    rw [this]
    simp
  have hback : seen.back? = some e.born := by
    have hsn := hf.seen
    rw [List.map_append, List.map_cons, List.map_nil] at hsn
    rw [← Array.getLast?_toList, hsn]
    simp
  exact ⟨m, c, seen, c, es, e.born, e, x, y, hs.get, hback, hs.p1.get, hfind, k1.trans hk, k2.trans hv, hq⟩
end
@[simp] theorem opt_none {α β : Type} (a : HM β) (f : α → HM β) {h : Heap} {Q : β → Heap → Prop} : HM.opt none a f h Q = a h Q := rfl
@[simp] theorem opt_some {α β : Type} (x : α) (a : HM β) (f : α → HM β) {h : Heap} {Q : β → Heap → Prop} : HM.opt (some x) a f h Q = f x h Q := rfl
section
variable {α : Type} {f : α → Asn} {h : Heap} {R : List Asn}
end
theorem stars_perm {L L' : List Asn} (hp : L.Perm L') : ∀ m, stars L m → stars L' m := by
  induction hp with
  | nil => exact fun _ h => h
  | cons x _ ih => exact fun m h => star_mono (fun _ h => h) ih h
  | swap x y l => exact fun m h => stars_swap h
  | trans _ _ ih1 ih2 => exact fun m h => ih2 m (ih1 m h)
theorem sat.perm {h : Heap} {L L' : List Asn} (hp : L.Perm L') (hs : sat h L) : sat h L' :=
  let ⟨m, h1, h2⟩ := hs
  ⟨m, h1, stars_perm hp m h2⟩
theorem sat.trues {h : Heap} {R : List Asn} : ∀ (n : Nat), sat h R → sat h (List.replicate n (pr True) ++ R)
  | 0, hs => hs
  | n + 1, hs => sat.pr_iff.2 ⟨trivial, sat.trues n hs⟩
theorem sat.re {h : Heap} {L : List Asn} (hs : sat h L) (idx : List Nat) (hi : idx.isPerm (List.range idx.length) = true := by rfl) :
    sat h (idx.map (fun i => L.getD i (pr True)) ++ L.drop idx.length) := by
  have h1 : (idx.map (fun i => L.getD i (pr True))).Perm ((List.range idx.length).map (fun i => L.getD i (pr True))) := (List.isPerm_iff.1 hi).map _
  refine sat.perm (h1.symm.append_right _) ?_
  generalize idx.length = n
  clear h1 hi
  by_cases hn : n ≤ L.length
  · have e : (List.range n).map (fun i => L.getD i (pr True)) = L.take n := by
      refine List.ext_getElem (by simp; omega) fun i h2 h3 => ?_
      simp at h2 h3
      simp [List.getElem?_eq_getElem (show i < L.length by omega)]
    rw [e, List.take_append_drop]
    exact hs
  · rw [List.drop_of_length_le (by omega), List.append_nil]
    have e : (List.range n).map (fun i => L.getD i (pr True)) = L ++ List.replicate (n - L.length) (pr True) := by
      refine List.ext_getElem? fun i => ?_
      rw [List.getElem?_append]
      by_cases h2 : i < L.length
      · simp [h2, show i < n by omega]
      · by_cases h3 : i < n
        · simp [h2, h3, List.getElem?_replicate, show i - L.length < n - L.length by omega, List.getElem?_eq_none (show L.length ≤ i by omega)]
        · simp [h2, h3, List.getElem?_replicate]
          omega
    rw [e]
    exact (sat.trues _ hs).perm List.perm_append_comm
section
variable {K V : Type} [DecidableEq K]
end
end Go.H
namespace Go.H
set_option linter.unusedSimpArgs false
set_option linter.unusedVariables false
open Go.RowKit
theorem below_of {w w' : World} {R : List Asn} (hs : Same w w') (ho : sat w'.heap (old w.heap :: R)) : Below w.heap.size w w' := by
  refine ⟨hs.os, hs.tape, hs.output, ?_, fun k hk => ?_⟩
  · rcases Nat.eq_zero_or_pos w.heap.size with h0 | hp
    · omega
    · have hg : w.heap[w.heap.size - 1]? = some w.heap[w.heap.size - 1] := Array.getElem?_eq_getElem (by omega)
      have := (Array.getElem?_eq_some_iff.1 (ho.old_get hg)).1
      omega
  · rw [ho.old_get (Array.getElem?_eq_getElem hk), Array.getElem?_eq_getElem hk]
theorem walk_of {P : Program} {f : FuncId} {args : Array Value} {w : World} {v : Value}
    (hc : HCalls P f args w.heap fun v' h' => v' = v ∧ ∃ R, sat h' (old w.heap :: R)) : Calls P f args w fun e w' => e = .returned v ∧ Below w.heap.size w w' :=
  (hc w rfl).mono fun e w' ⟨_, he, hs, hv, R, ho⟩ => ⟨by rw [he, hv], below_of hs ho⟩
def RowAt {α : Type} (enc : α → List Value) (size : Nat) (h0 : Heap) (s : Slc) (xs : List α) : Prop :=
  s.len = xs.length ∧ s.len ≤ s.cap ∧ ∀ (i : Nat) x, xs[i]? = some x → ∃ a, s.a = some a ∧ ∀ j v, (enc x)[j]? = some v → cellH h0 ((a.add (i * size)).add j) = some v
section
variable {α β : Type} {enc : α → List Value} {size : Nat} {h0 h : Heap} {s : Slc} {xs : List α}
theorem slice_row (hr : RowAt enc size h0 s xs) {n : Nat} (hn : n ≤ xs.length) {Q : Slc → Heap → Prop}
    (hq : ∀ s', RowAt enc size h0 s' (xs.take n) → Q s' h) : HM.slice s none (some (n : Int)) none size h Q := by
  refine ⟨0, n, s.cap, rfl, ⟨rfl, by have := hr.1; have := hr.2.1; omega⟩, rfl, hq _ ⟨?_, ?_, ?_⟩⟩
  · simp [sliceOf]; omega
  · have := hr.1; have := hr.2.1; simp [sliceOf]; omega
  · intro i x hx
    obtain ⟨a, ha, hc⟩ := hr.2.2 i x (by
      rw [List.getElem?_take] at hx
      split at hx
      · exact hx
      · cases hx)
    refine ⟨a, ?_, hc⟩
    simp only [sliceOf, ha]
    split
    · rfl
    · simp [add_zero]
end
end Go.H
namespace Go.H
set_option linter.unusedSimpArgs false
set_option linter.unusedVariables false
theorem wrap_id {n : Int} (h1 : -9223372036854775808 ≤ n) (h2 : n ≤ 9223372036854775807) : IntKind.wrap .i64 n = n := by
  simp [IntKind.wrap, IntKind.bits, IntKind.signed]; omega
section
variable {h h' : Heap} {A : Asn} {R : List Asn}
theorem sat.grow (hs : sat h R) (hg : ∀ (k : Nat) o, h[k]? = some o → h'[k]? = some o) : sat h' R := by
  obtain ⟨m, h1, h2⟩ := hs
  exact ⟨m, fun k o ho => hg k o (h1 k o ho), h2⟩
theorem sat.came (hs : sat h R) (hg : ∀ (k : Nat) o, h[k]? = some o → h'[k]? = some o) {b : Nat} {o : Obj} (hb : h.size ≤ b) (ho : h'[b]? = some o) : sat h' (blk b o :: R) := by
  obtain ⟨m, h1, h2⟩ := hs
  have hm : m b = none := by
    cases hx : m b with
    | none => rfl
    | some x =>
      have := (Array.getElem?_eq_some_iff.1 (h1 _ _ hx)).1
      omega
  refine ⟨PH.join (fun k => if k = b then some o else none) m, sub_join (fun k x hx => ?_) (fun k x hx => hg k x (h1 k x hx)), _, m, fun k => ?_, rfl, by simp [blk], h2⟩
  · have hx' : (if k = b then some o else none) = some x := hx
    split at hx'
    · rename_i e; subst e; cases hx'; exact ho
    · cases hx'
  · by_cases e : k = b
    · subst e; exact .inr hm
    · exact .inl (by simp [e])
theorem sat.came_cells (hs : sat h R) (hg : ∀ (k : Nat) o, h[k]? = some o → h'[k]? = some o) {b : Nat} {cs : Array Value} {T : TypeId} (hb : h.size ≤ b) (ho : h'[b]? = some (.cells cs T (0, 0))) : sat h' (cells b cs :: R) :=
  cells_iff.2 ⟨T, hs.came hg hb ho⟩
theorem calls_below {P : Program} {f : FuncId} {args : Array Value} {v : Value} {Q : Value → Heap → Prop} (hs : sat h R)
    (hc : ∀ w, w.heap = h → Calls P f args w fun e w' => e = .returned v ∧ Go.RowKit.Below w.heap.size w w') (hq : ∀ h', sat h' R → Q v h') : HCalls P f args h Q := by
  intro w hw
  refine (hc w hw).mono ?_
  rintro e w' ⟨rfl, hb⟩
  refine ⟨v, rfl, ⟨hb.os, hb.tape, hb.output⟩, hq _ (hs.grow fun k o ho => ?_)⟩
  rw [hb.block k (by rw [hw]; exact (Array.getElem?_eq_some_iff.1 ho).1), hw]
  exact ho
end
section
variable {α : Type} {enc : α → List Value} {size : Nat} {h h0 h' : Heap} {s : Slc} {xs : List α} {R : List Asn}
end
structure OwnF {α : Type} (enc : α → List Value) (size : Nat) (s : Slc) (xs : List α) (b o : Nat) (cs : Array Value) : Prop where
  a : s.a = some ⟨b, o * size, none⟩
  le : s.len ≤ s.cap
  len : s.len = xs.length
  csize : (o + s.cap) * size ≤ cs.size
  front : (cs.toList.drop (o * size)).take (s.len * size) = xs.flatMap enc
def ownS {α : Type} (enc : α → List Value) (size : Nat) (s : Slc) (xs : List α) : Asn := fun m =>
  (s.len = 0 ∧ s.cap = 0 ∧ xs = []) ∨ exA (fun x : Nat × Nat × Array Value => star (pr (OwnF enc size s xs x.1 x.2.1 x.2.2)) (cells x.1 x.2.2)) m
section
variable {α : Type} {enc : α → List Value} {size : Nat} {h : Heap} {s : Slc} {xs : List α} {R : List Asn}
theorem ownS_cases (hs : sat h (ownS enc size s xs :: R)) : (s.len = 0 ∧ s.cap = 0 ∧ xs = [] ∧ sat h R) ∨ ∃ b o cs, OwnF enc size s xs b o cs ∧ sat h (cells b cs :: R) := by
  obtain ⟨m, h1, a, r, hd, rfl, ha, hr⟩ := id hs
  rcases ha with ⟨h2, h3, h4⟩ | ha
  · exact .inl ⟨h2, h3, h4, hs.drop⟩
  · have hs' : sat h (exA (fun x : Nat × Nat × Array Value => star (pr (OwnF enc size s xs x.1 x.2.1 x.2.2)) (cells x.1 x.2.2)) :: R) := ⟨_, h1, a, r, hd, rfl, ha, hr⟩
    rw [sat.ex_iff] at hs'
    obtain ⟨⟨b, o, cs⟩, hs'⟩ := hs'
    rw [sat.star_iff, sat.pr_iff] at hs'
    exact .inr ⟨b, o, cs, hs'⟩
theorem ownS_none {a : Option Addr} (hs : sat h R) : sat h (ownS enc size ⟨a, 0, 0⟩ [] :: R) := by
  obtain ⟨m, h1, h2⟩ := hs
  exact ⟨m, h1, fun _ => none, m, fun k => .inl rfl, by funext k; rfl, .inl ⟨rfl, rfl, rfl⟩, h2⟩
theorem ownS_nil (hs : sat h R) : sat h (ownS enc size ⟨none, 0, 0⟩ [] :: R) := ownS_none hs
theorem ownS_mk {b o : Nat} {cs : Array Value} (ho : OwnF enc size s xs b o cs) (hs : sat h (cells b cs :: R)) : sat h (ownS enc size s xs :: R) := by
  have hs' : sat h (exA (fun x : Nat × Nat × Array Value => star (pr (OwnF enc size s xs x.1 x.2.1 x.2.2)) (cells x.1 x.2.2)) :: R) := by
    rw [sat.ex_iff]
    refine ⟨(b, o, cs), ?_⟩
    rw [sat.star_iff, sat.pr_iff]
    exact ⟨ho, hs⟩
  exact hs'.imp fun m hm => .inr hm
theorem sat.own_len (hs : sat h (ownS enc size s xs :: R)) : s.len = xs.length := by
  rcases ownS_cases hs with ⟨h1, h2, rfl, -⟩ | ⟨b, o, cs, ho, -⟩
  · exact h1
  · exact ho.len
theorem sat.own_le (hs : sat h (ownS enc size s xs :: R)) : s.len ≤ s.cap := by
  rcases ownS_cases hs with ⟨h1, h2, rfl, -⟩ | ⟨b, o, cs, ho, -⟩
  · omega
  · exact ho.le
theorem flat_get (henc : ∀ x, (enc x).length = size) : ∀ (xs : List α) (i : Nat) (x : α), xs[i]? = some x → ∀ j v, (enc x)[j]? = some v → (xs.flatMap enc)[i * size + j]? = some v
  | [], i, x, hx, _, _, _ => by simp at hx
  | y :: xs, 0, x, hx, j, v, hv => by
    simp only [List.getElem?_cons_zero, Option.some.injEq] at hx
    subst hx
    rw [List.flatMap_cons, Nat.zero_mul, Nat.zero_add]
    have hj := (List.getElem?_eq_some_iff.1 hv).1
    rw [List.getElem?_append_left hj]
    exact hv
  | y :: xs, i + 1, x, hx, j, v, hv => by
    rw [List.getElem?_cons_succ] at hx
    rw [List.flatMap_cons, List.getElem?_append_right (by rw [henc]; rw [Nat.succ_mul]; omega), henc]
    rw [show (i + 1) * size + j - size = i * size + j from by rw [Nat.succ_mul]; omega]
    exact flat_get henc xs i x hx j v hv
theorem flat_len (henc : ∀ x, (enc x).length = size) (xs : List α) : (xs.flatMap enc).length = xs.length * size := by
  induction xs with
  | nil => simp
  | cons x xs ih => rw [List.flatMap_cons, List.length_append, ih, henc, List.length_cons, Nat.succ_mul]; omega
theorem sat.own_row (henc : ∀ x, (enc x).length = size) (hs : sat h (ownS enc size s xs :: R)) : RowAt enc size h s xs := by
  rcases ownS_cases hs with ⟨h1, h2, rfl, -⟩ | ⟨b, o, cs, ho, hs⟩
  · exact ⟨h1, by omega, fun i x hx => by simp at hx⟩
  · refine ⟨ho.len, ho.le, fun i x hx => ⟨_, ho.a, fun j v hv => ?_⟩⟩
    rw [Addr.add_at, Addr.add_at, hs.cell]
    have h1 := flat_get henc xs i x hx j v hv
    rw [← ho.front, List.getElem?_take] at h1
    split at h1
    · rw [List.getElem?_drop] at h1
      rw [show o * size + i * size + j = o * size + (i * size + j) from by omega]
      simpa using h1
    · cases h1
theorem sat.setCells {b : Nat} : ∀ (vs : List Value) (cs : Array Value) (o i : Nat) {h : Heap} {R : List Asn}, sat h (cells b cs :: R) → o + i + vs.length ≤ cs.size →
    ∃ cs' : Array Value, cs'.size = cs.size ∧ cs'.toList = cs.toList.take (o + i) ++ vs ++ cs.toList.drop (o + i + vs.length) ∧ sat (setCellsH h ⟨b, o, none⟩ vs i) (cells b cs' :: R)
  | [], cs, o, i, h, R, hs, hl => ⟨cs, rfl, by simp, hs⟩
  | v :: vs, cs, o, i, h, R, hs, hl => by
    simp only [List.length_cons] at hl
    have h1 := hs.set (o + i) v
    obtain ⟨cs', e1, e2, h2⟩ := sat.setCells vs (cs.setIfInBounds (o + i) v) o (i + 1) h1 (by simp; omega)
    refine ⟨cs', by simpa using e1, ?_, by simpa [setCellsH] using h2⟩
    rw [e2, Array.toList_setIfInBounds]
    have hlen : o + i < cs.toList.length := by simp; omega
    rw [show o + (i + 1) = (o + i) + 1 from by omega, List.take_succ_eq_append_getElem (by simpa using hlen)]
    rw [List.getElem_set_self, List.take_set_of_le (Nat.le_refl _), List.drop_set_of_lt (by omega)]
    simp only [List.length_cons, List.append_assoc, List.cons_append, List.nil_append]
    rw [show o + i + 1 + vs.length = o + i + (vs.length + 1) from by omega]
theorem cells_set_ok {b : Nat} {cs : Array Value} {o : Nat} {vs : List Value} (hs : sat h (cells b cs :: R)) (hl : o + vs.length ≤ cs.size) (hv : ∀ v ∈ vs, v.oneCell' = true) :
    ∀ (i : Nat) v, vs[i]? = some v → (cellH h (Addr.add ⟨b, o, none⟩ i)).isSome = true ∧ frozenH h (Addr.add ⟨b, o, none⟩ i) = false ∧ v.oneCell' = true := by
  intro i v hi
  have hlt := (List.getElem?_eq_some_iff.1 hi).1
  rw [Addr.add_at]
  refine ⟨?_, hs.free _, hv v (List.mem_of_getElem? hi)⟩
  rw [hs.cell]
  simp
  omega
theorem append_own (henc : ∀ x, (enc x).length = size) (hcell : ∀ x, ∀ v ∈ enc x, v.oneCell' = true) {elem : TypeId} {bytes n : Nat} {zero : Array Value} (hz : zero.size = size) {src : Heap → Array Value → Prop} {ys : List α} {Q : Slc → Heap → Prop}
    (hs : sat h (ownS enc size s xs :: R)) (hn : ys.length = n) (hsrc : src h (ys.flatMap enc).toArray) (hsz : 0 < size) (hb0 : 0 < bytes) (hb : (xs.length + n) * bytes ≤ 140737488355328)
    (hq : ∀ s' h', sat h' (ownS enc size s' (xs ++ ys) :: R) → Q s' h') : HM.append elem size bytes zero s n src h Q := by
  have hl := hs.own_len
  have hbig : xs.length + n ≤ 140737488355328 := Nat.le_trans (Nat.le_mul_of_pos_right _ hb0) hb
  constructor
  · intro hc
    refine ⟨_, hsrc, ?_⟩
    rcases ownS_cases hs with ⟨g1, g2, rfl, hs1⟩ | ⟨b, o, cs, ho, hs⟩
    · have h0 : n = 0 := by omega
      subst h0
      have hy : ys = [] := List.eq_nil_of_length_eq_zero hn
      subst hy
      obtain ⟨sa, sl, sc⟩ := s
      simp only at g1 g2
      subst g1 g2
      cases sa with
      | none => exact hq _ _ (ownS_none hs1)
      | some a => exact ⟨fun i v hv => by simp at hv, hq _ _ (ownS_none hs1)⟩
    · rw [ho.a]
      simp only [Addr.add_at]
      have hlen : (o * size + s.len * size) + (ys.flatMap enc).length ≤ cs.size := by
        refine Nat.le_trans ?_ ho.csize
        rw [flat_len henc, hn, ← Nat.add_mul, ← Nat.add_mul]
        exact Nat.mul_le_mul_right _ (by omega)
      refine ⟨?_, ?_⟩
      · have := cells_set_ok (o := o * size + s.len * size) (vs := ys.flatMap enc) hs hlen (fun v hv => by
          obtain ⟨x, _, hx⟩ := List.mem_flatMap.1 hv
          exact hcell x v hx)
        simpa using this
      · obtain ⟨cs', e1, e2, hs'⟩ := sat.setCells (ys.flatMap enc) cs (o * size + s.len * size) 0 hs (by simpa using hlen)
        refine hq _ _ (ownS_mk (b := b) (o := o) (cs := cs') ⟨rfl, hc, by simp [ho.len, hn], by rw [e1]; exact ho.csize, ?_⟩ (by simpa using hs'))
        rw [e2]
        simp only [Nat.add_zero]
        have hcl : cs.toList.length = cs.size := by simp
        have d1 : ((cs.toList.take (o * size + s.len * size) ++ ys.flatMap enc ++ cs.toList.drop (o * size + s.len * size + (ys.flatMap enc).length)).drop (o * size)) =
            xs.flatMap enc ++ ys.flatMap enc ++ cs.toList.drop (o * size + s.len * size + (ys.flatMap enc).length) := by
          rw [List.append_assoc, List.drop_append_of_le_length (by rw [List.length_take, hcl]; omega), List.drop_take, show o * size + s.len * size - o * size = s.len * size from by omega, ho.front, List.append_assoc]
        rw [d1, List.flatMap_append]
        have e3 : (s.len + n) * size = (xs.flatMap enc ++ ys.flatMap enc).length := by
          rw [List.length_append, flat_len henc, flat_len henc, Nat.add_mul, ho.len, hn]
        rw [e3, List.take_left']
        rfl
  · intro hc
    refine ⟨by omega, growslice_fits hc (by rw [hl]; exact hb), ?_⟩
    have hnew : ∀ old : Array Value, old.toList = xs.flatMap enc → ∀ c, s.len + n ≤ c → ∀ R', sat h R' →
        sat (h.push (.cells (old ++ (ys.flatMap enc).toArray ++ Builtin.zeroCells zero (c - (s.len + n))) elem)) (ownS enc size ⟨some ⟨h.size, 0, none⟩, s.len + n, c⟩ (xs ++ ys) :: R') := by
      intro old hold c hcc R' hR'
      have ho : old.size = s.len * size := by
        have := congrArg List.length hold
        rw [flat_len henc] at this
        simpa [hl] using this
      refine ownS_mk (o := 0) ⟨by simp, hcc, by simp [hl, hn], Nat.le_of_eq ?_, ?_⟩ hR'.push_cells
      · simp only [Nat.zero_add, Array.size_append, ho, Builtin.zeroCells, Array.size_map, Array.size_range, hz, List.size_toArray, flat_len henc, hn]
        rw [← Nat.add_mul, ← Nat.add_mul]
        congr 1
        omega
      · simp only [Array.toList_append, hold, List.flatMap_append, Nat.zero_mul, List.drop_zero]
        rw [List.take_append_of_le_length (by simp only [List.length_append, flat_len henc]; rw [hl, Nat.add_mul, hn]; exact Nat.le_refl _)]
        rw [List.take_of_length_le]
        simp only [List.length_append, flat_len henc]
        rw [hl, Nat.add_mul, hn]
        exact Nat.le_refl _
    rcases ownS_cases hs with ⟨g1, g2, rfl, hs1⟩ | ⟨b, o, cs, ho, hs⟩
    · refine ⟨#[], _, ?_, hsrc, fun c hcc _ => hq _ _ (hnew #[] rfl c hcc R hs1)⟩
      rw [g1, Nat.zero_mul]
      cases s.a with
      | none => rfl
      | some a => exact ⟨rfl, fun i v hv => by simp at hv⟩
    · refine ⟨(xs.flatMap enc).toArray, _, ?_, hsrc, fun c hcc _ => hq _ _ (hnew _ (by simp) c hcc R hs.drop)⟩
      simp only [readsH, ho.a]
      refine ⟨by simp [flat_len henc, ho.len], fun i v hi => ?_⟩
      rw [Addr.add_at, hs.cell]
      have h1 : (xs.flatMap enc)[i]? = some v := by simpa using hi
      rw [← ho.front, List.getElem?_take] at h1
      split at h1
      · rw [List.getElem?_drop] at h1
        simpa using h1
      · cases h1
theorem sat.reads {b : Nat} {cs : Array Value} {n : Nat} (hs : sat h (cells b cs :: R)) (hn : cs.size = n) : readsH h (some ⟨b, 0, none⟩) n cs :=
  ⟨hn, fun i v hi => by rw [Addr.add_at, hs.cell, Nat.zero_add]; exact hi⟩
theorem app_new (henc : ∀ x, (enc x).length = size) (hcell : ∀ x, ∀ v ∈ enc x, v.oneCell' = true) {elem T : TypeId} {bytes : Nat} {zero : Array Value} (hz : zero.size = size) {x : α} {Q : Slc → Heap → Prop}
    (hs : sat h (ownS enc size s xs :: R)) (hsz : 0 < size) (hb0 : 0 < bytes) (hb : (xs.length + 1) * bytes ≤ 140737488355328)
    (hq : ∀ s' h', sat h' (ownS enc size s' (xs ++ [x]) :: R) → Q s' h') : HM.new (.cells (enc x).toArray T) h fun b h' => HM.append elem size bytes zero s 1 (srcSlc size ⟨some ⟨b, 0, none⟩, 1, 1⟩) h' Q := by
  refine new_cells hs fun b h1 hs1 => ?_
  refine append_own henc hcell hz (ys := [x]) hs1.p1 rfl ?_ hsz hb0 hb fun s' h2 hs2 => hq s' h2 hs2.p1.drop
  simp only [srcSlc, Nat.one_mul, List.flatMap_cons, List.flatMap_nil, List.append_nil]
  exact hs1.reads (by simp [henc])
theorem loadN_of {ts : List Tag} {a : Addr} (x : Tup ts) {Q : Tup ts → Heap → Prop} (hc : ∀ i v, (Tup.vals ts x)[i]? = some v → cellH h (a.add i) = some v) (hq : Q x h) : HM.loadN ts a h Q := ⟨x, hc, hq⟩
theorem add_own (b i : Nat) : (⟨b, 0, none⟩ : Addr).add i = ⟨b, i, none⟩ := by
  cases i with
  | zero => rfl
  | succ i => simp [Addr.add]
theorem loadN_cells {b : Nat} {cs : Array Value} {ts : List Tag} (x : Tup ts) {Q : Tup ts → Heap → Prop} (hs : sat h (cells b cs :: R)) (he : cs = (Tup.vals ts x).toArray) (hq : Q x h) : HM.loadN ts ⟨b, 0, none⟩ h Q := by
  refine ⟨x, fun i v hv => ?_, hq⟩
  have := hs.cell i
  rw [he] at this
  have e : (⟨b, 0, none⟩ : Addr).add i = ⟨b, i, none⟩ := by
    cases i with
    | zero => rfl
    | succ i => simp [Addr.add]
  rw [e, this]
  simpa using hv
theorem storeN_all {b : Nat} {cs : Array Value} {vs : List Value} {Q : Unit → Heap → Prop} (hs : sat h (cells b cs :: R)) (hl : vs.length = cs.size) (hv : ∀ v ∈ vs, v.oneCell' = true)
    (hq : ∀ h', sat h' (cells b vs.toArray :: R) → Q () h') : HM.storeN ⟨b, 0, none⟩ vs h Q := by
  refine ⟨cells_set_ok (o := 0) hs (by omega) hv, ?_⟩
  obtain ⟨cs', e1, e2, hs'⟩ := sat.setCells vs cs 0 0 hs (by omega)
  have e3 : cs' = vs.toArray := by
    apply Array.toList_inj.1
    rw [e2]
    simp only [Nat.add_zero, Nat.zero_add, List.take_zero, List.nil_append]
    rw [List.drop_of_length_le (by simp; omega)]
    simp
  subst e3
  exact hq _ hs'
theorem storeN_all' {b : Nat} {cs : Array Value} {vs : List Value} {Q : Unit → Heap → Prop} (hs : sat h (cells b cs :: R)) (hl : vs.length = cs.size) (hv : vs.all (fun v => v.oneCell') = true)
    (hq : ∀ h', sat h' (cells b vs.toArray :: R) → Q () h') : HM.storeN ⟨b, 0, none⟩ vs h Q :=
  storeN_all hs hl (List.all_eq_true.1 hv) hq
end
end Go.H
namespace Go.R
open Go.H
set_option linter.unusedSimpArgs false
set_option linter.unusedVariables false
theorem weightsAll_mem {H : Type} {P : Program} {e : TypeId} : ∀ {l : List (DataW H)} {d : DataW H}, d ∈ l → ∀ n ∈ d.weights P e, n ∈ DataW.weightsAll P e l
  | [], _, h, _, _ => by simp at h
  | x :: l, d, h, n, hn => by
    simp only [DataW.weightsAll, List.mem_append]
    rcases List.mem_cons.1 h with rfl | h
    · exact .inl hn
    · exact .inr (weightsAll_mem h n hn)
theorem list_of {α : Type} {p : Nat → α → Prop} : ∀ (n : Nat), (∀ i, i < n → ∃ x, p i x) → ∃ xs : List α, xs.length = n ∧ ∀ (i : Nat) x, xs[i]? = some x → p i x
  | 0, _ => ⟨[], rfl, fun i x hx => by simp at hx⟩
  | n + 1, hp => by
    obtain ⟨xs, h1, h2⟩ := list_of n (fun i hi => hp i (by omega))
    obtain ⟨x, hx⟩ := hp n (by omega)
    refine ⟨xs ++ [x], by simp [h1], fun i y hy => ?_⟩
    rw [List.getElem?_append] at hy
    split at hy
    · exact h2 i y hy
    · rename_i hi
      have h3 := (List.getElem?_eq_some_iff.1 hy).1
      simp only [List.length_cons, List.length_nil] at h3
      have hin : i = n := by omega
      subst hin
      rw [h1, Nat.sub_self] at hy
      cases hy
      exact hx
structure OkLaw {H : Type} (P : Program) (ok : TypeId → DataW H → Prop) (top : Nat) (wt : TypeId → Nat) : Prop where
  str : ∀ {t : TypeId} {bs : List UInt8}, ok t (.lit (.string bs)) → bs.length ≤ top
  elem : ∀ {t e : TypeId} {elems rest : List (DataW H)} {d : DataW H}, P.underlying t = some (.slice e) → ok t (.slice elems rest) → d ∈ elems → ok e d
  cnt : ∀ {t e : TypeId} {elems rest : List (DataW H)}, P.underlying t = some (.slice e) → ok t (.slice elems rest) → elems.length * wt e ≤ top
  field : ∀ {t : TypeId} {fs : Array Field} {parts : List (DataW H)} {j : Nat} {f : Field} {d : DataW H}, P.underlying t = some (.struct fs) → ok t (.agg parts) → fs[j]? = some f → parts[j]? = some d → ok f.type d
  arr : ∀ {t e : TypeId} {n : Nat} {parts : List (DataW H)} {d : DataW H}, P.underlying t = some (.array n e) → ok t (.agg parts) → d ∈ parts → ok e d
def okW {H : Type} (P : Program) (t : TypeId) (d : DataW H) : Prop := ∀ n ∈ d.weights P t, n ≤ reachBytes
theorem okW_law {H : Type} (P : Program) : OkLaw (H := H) P (okW P) reachBytes P.bytesOf where
  str h := h _ (by simp [DataW.weights])
  elem ht h hd := fun n hn => h n (by
    simp only [DataW.weights, ht, List.mem_cons, List.mem_append]
    exact .inr (.inl (weightsAll_mem hd _ hn)))
  cnt ht h := Nat.le_trans (Nat.mul_le_mul_right _ (Nat.le_add_right _ _)) (h _ (by simp only [DataW.weights, ht, List.mem_cons]; exact .inl rfl))
  field {t fs parts j f d} ht h hf hd := fun n hn => h n (by
    simp only [DataW.weights, ht]
    exact DataW.weights_mem_each (j := j) (t := f.type) (d := d) (by rw [List.getElem?_map, Array.getElem?_toList, hf]; rfl) hd _ hn)
  arr ht h hd := fun n hn => h n (by
    simp only [DataW.weights, ht]
    exact weightsAll_mem hd _ hn)
theorem okWide_agg {P : Program} {w : World} {t : TypeId} {fs : Array Field} {r : Reach} {b0 : Nat} {v : Value} (ht : P.underlying t = some (.struct fs)) (h : Value.okWide P w r b0 t v) : ∃ cs, v = .agg cs := by
  simp only [Value.okWide, ht] at h
  obtain ⟨cs, h1, _⟩ := h
  exact ⟨cs, h1⟩
structure GoodG {α : Type} (enc : α → List Value) (size wt top : Nat) (h : Heap) (good : α → Prop) (x : Slc × List α) : Prop where
  row : RowAt enc size h x.1 x.2
  good : ∀ y ∈ x.2, good y
  cap : x.1.cap ≤ maxLen
  reach : x.2.length * wt ≤ top
section
variable {H : Type} (ec : TypeId × Value → H) (P : Program) (w : World) (base : Nat) (sp : Nat → Bool) (held : Bool) (ok : TypeId → DataW H → Prop)
def RdG {α : Type} (t : TypeId) (enc : α → List Value) (good : α → Prop) : Prop :=
  ∀ fuel cs y, DataW.trod ec P w base sp held fuel t cs = some y → ok t y.1 → ∃ x, cs = enc x ∧ good x
def RdF {α : Type} (fs : List Field) (o n : Nat) (enc : α → List Value) (good : α → Prop) : Prop :=
  ∀ fuel (cs : List Value) (xs : List (DataW H × List MemPlace)), cs.length = n → xs.length = fs.length →
    (∀ (j : Nat) f, fs[j]? = some f → DataW.trod ec P w base sp held fuel f.type ((cs.drop f.offset).take (P.cellsOf f.type)) = xs[j]?) →
    (∀ (j : Nat) f d, fs[j]? = some f → xs[j]? = some d → ok f.type d.1) → ∃ x, cs.drop o = enc x ∧ good x
end
section
variable {H : Type} {ec : TypeId × Value → H} {P : Program} {w : World} {base : Nat} {sp : Nat → Bool} {held : Bool} {ok : TypeId → DataW H → Prop} {top : Nat} {wt : TypeId → Nat}
theorem rg_int {t : TypeId} {k : IntKind} (ht : P.underlying t = some (.int k)) : RdG ec P w base sp held ok t (fun x : Int => [.int k x]) (fun x => (Lit.int k x).wf = true) := fun _ _ _ h _ => by
  obtain ⟨n, h1, _, h2⟩ := DataW.trod_int ht h
  exact ⟨n, h1, h2⟩
theorem rg_slice (hk : OkLaw P ok top wt) {α : Type} {t e : TypeId} {enc : α → List Value} {good : α → Prop} (ht : P.underlying t = some (.slice e)) {size k : Nat} (hc : P.cellsOf e = size) (hb : wt e = k) (he : RdG ec P w base sp held ok e enc good) :
    RdG ec P w base sp held ok t (fun x : Slc × List α => [.slice x.1.a x.1.len x.1.cap]) (GoodG enc size k top w.heap good) := fun fuel cs y h hw => by
  subst hc hb
  rcases DataW.trod_slice ht h with ⟨rfl, _⟩ | ⟨a, len, cap, elems, rest, n, _, rfl, rfl, _, hl, hm, hlen, hel, _, _⟩
  · exact ⟨(⟨none, 0, 0⟩, []), rfl, ⟨rfl, Nat.le_refl _, fun i x hx => by simp at hx⟩, fun y hy => by simp at hy, Nat.zero_le _, by simp⟩
  · have hw2 : ∀ i (hi : i < elems.length), ok e (elems[i]'hi).1 := fun i hi => hk.elem ht hw (List.mem_map_of_mem (List.getElem_mem hi))
    have hw3 := hk.cnt ht hw
    have h1 : ∀ i, i < len → ∃ x, good x ∧ ∀ j v, (enc x)[j]? = some v → cellH w.heap ((a.add (i * P.cellsOf e)).add j) = some v := by
      intro i hi
      have h2 := hel i hi
      rw [List.getElem?_eq_getElem (by omega), Option.bind_eq_some_iff] at h2
      obtain ⟨cs', h3, h4⟩ := h2
      obtain ⟨x, rfl, hg⟩ := he _ _ _ h4 (hw2 i (by omega))
      obtain ⟨_, h5, h6⟩ := World.cells?_some h3
      refine ⟨x, hg, fun j v hv => ?_⟩
      rw [← cell_eq, h6 j (by rw [← h5]; exact (List.getElem?_eq_some_iff.1 hv).1)]
      exact hv
    obtain ⟨xs, h2, h3⟩ := list_of len h1
    refine ⟨(⟨some a, len, cap⟩, xs), rfl, ⟨h2.symm, hl, fun i x hx => ⟨a, rfl, (h3 i x hx).2⟩⟩, fun y hy => ?_, hm, ?_⟩
    · obtain ⟨i, hi⟩ := List.getElem?_of_mem hy
      exact (h3 i y hi).1
    · simp only
      rw [List.length_map] at hw3
      rw [h2, ← hlen]
      exact hw3
theorem rf_cons {α β : Type} {f : Field} {fs : List Field} {o n : Nat} {c : Nat} {e0 : α → List Value} {g0 : α → Prop} {e1 : β → List Value} {g1 : β → Prop} (hc : P.cellsOf f.type = c) (ho : f.offset = o)
    (h0 : RdG ec P w base sp held ok f.type e0 g0) (h1 : RdF ec P w base sp held ok fs (o + c) n e1 g1) : RdF ec P w base sp held ok (f :: fs) o n (fun x : α × β => e0 x.1 ++ e1 x.2) (fun x => g0 x.1 ∧ g1 x.2) := fun fuel cs xs hl hx hf hok => by
  subst hc ho
  cases xs with
  | nil => simp at hx
  | cons y xs =>
    obtain ⟨x0, c0, k0⟩ := h0 fuel _ y (hf 0 f rfl) (hok 0 f y rfl rfl)
    obtain ⟨x1, c1, k1⟩ := h1 fuel cs xs hl (by simpa using hx) (fun j f' hj => by have := hf (j + 1) f' (by simpa using hj); simpa using this) (fun j f' d hj hd => hok (j + 1) f' d (by simpa using hj) (by simpa using hd))
    refine ⟨(x0, x1), ?_, k0, k1⟩
    simp only [← c0, ← c1]
    rw [← List.drop_drop, List.take_append_drop]
theorem rf_one {α : Type} {f : Field} {o n : Nat} {c : Nat} {e0 : α → List Value} {g0 : α → Prop} (hc : P.cellsOf f.type = c) (ho : f.offset = o) (hn : n ≤ o + c)
    (h0 : RdG ec P w base sp held ok f.type e0 g0) : RdF ec P w base sp held ok [f] o n e0 g0 := fun fuel cs xs hl hx hf hok => by
  subst hc ho
  cases xs with
  | nil => simp at hx
  | cons y xs =>
    obtain ⟨x0, c0, k0⟩ := h0 fuel _ y (hf 0 f rfl) (hok 0 f y rfl rfl)
    refine ⟨x0, ?_, k0⟩
    rw [← c0, List.take_of_length_le (by rw [List.length_drop]; omega)]
theorem rg_struct (hk : OkLaw P ok top wt) {α : Type} {t : TypeId} {fs : Array Field} {n : Nat} {enc : α → List Value} {good : α → Prop} (ht : P.underlying t = some (.struct fs)) (hn : P.cellsOf t = n) (h : RdF ec P w base sp held ok fs.toList 0 n enc good) :
    RdG ec P w base sp held ok t enc good := fun fuel cs y hy hw => by
  obtain ⟨xs, m, _, rfl, hl, hx, hf⟩ := DataW.trod_struct ht hy
  obtain ⟨x, h1, h2⟩ := h m cs xs (hl.trans hn) (by simpa using hx) (fun j f hj => hf j f (by simpa using hj)) (fun j f d hj hd => hk.field ht hw (by simpa using hj) (by rw [List.getElem?_map, hd]; rfl))
  exact ⟨x, by simpa using h1, h2⟩
end
end Go.R
namespace Go.Proofs
variable {H : Type} {enc : TypeId × Value → H}
theorem returnsInHanded_shapedR {a : Assume} {C : Checked} {os : Os} {f : FuncId} {fn : Func} {s : ChangeSpec} {conds : List PathCond} {apart fresh handsOn again : Bool} {X : World → Array Value → Prop}
    (hX : ∀ (w w' : World) (args : Array Value), w.heap = w'.heap → X w args → X w' args)
    (own : ownKnob C.prog.godebug = none) (started : os.Started) (noInit : C.prog.inits.idxOf? f = none) (hfn : C.prog.funcs[f]? = some fn)
    (witness : ∃ (w : World) (tape : Tape) (i : Input), w.os = os ∧ (w.forCall tape i).Shaped C.prog ∧ i.vars = [] ∧ Input.okWide C.prog (w.forCall tape i) .any w.heap.size f i ∧
      ((s.pre enc C.prog fn conds apart (w.forCall tape i).memory i.args ∧ X (w.forCall tape i).memory i.args) ∧ sizedMet enc C.prog fn (OpenSpec.ofChange s) apart (w.forCall tape i).memory i.args) ∧ a.holds C.prog (lone (Frame.enter C.prog f i.args .normal) [] (w.forCall tape i)))
    (contract : ∀ (W : World) (base : Nat) (args : Array Value) (ds gs : List (DataW H)) (before : List MemPlace),
      (∀ (j : Nat) t v, fn.params[j]? = some t → args[j]? = some v → Value.okWide C.prog W .any base t v) →
      DataW.Whole enc C.prog fn.params.toList s.vars apart W args.toList ds gs before →
      conds.all (PathCond.test C.prog ⟨fn.params.toList, ds, s.plain.varTypes C.prog, gs⟩) = true →
      (DataW.weightsEach C.prog (fn.params.toList ++ s.plain.varTypes C.prog) (ds ++ gs)).all (· ≤ reachBytes) = true → X W args → W.ShapedOpen C.prog →
      a.holds C.prog (lone (Frame.enter C.prog f args .normal) [] W) →
      Calls C.prog f args W fun e W' => ∃ v, e = .returned v ∧ s.post enc C.prog fn apart fresh handsOn again W args v W') :
    ReturnsInHanded a C os f .any (fun w args => (s.pre enc C.prog fn conds apart w args ∧ X w args) ∧ sizedMet enc C.prog fn (OpenSpec.ofChange s) apart w args) (s.post enc C.prog fn apart fresh handsOn again) := by
  refine returnsInHanded_of_calls own started noInit witness ?_
  intro w tape i _ hsh _ hok hpre hholds
  obtain ⟨_, _, _, fn', hfn', _, _, _, _, hval⟩ := hok
  have e : fn' = fn := Option.some.inj (hfn'.symm.trans hfn)
  subst e
  obtain ⟨⟨⟨ds, gs, before, hw, hc⟩, hx⟩, hz⟩ := hpre
  have hw' := DataW.Whole.of_heap (w' := w.forCall tape i) (by rfl) hw
  refine (contract (w.forCall tape i) w.heap.size i.args ds gs before hval hw' hc (hz.weights hw) (hX _ _ _ (by rfl) hx) hsh hholds).mono fun e W' ⟨v, he, hp⟩ => ?_
  subst he
  exact ChangeSpec.post_blind hp
end Go.Proofs
namespace Go.Proofs.YtngpaokjbcjpgaaDoor
open Go.H Go.Proofs
set_option linter.unusedVariables false
set_option linter.unusedSimpArgs false
set_option maxRecDepth 100000
set_option maxHeartbeats 4000000
theorem calls_of_eq {P : Program} {C : List Nat} {n : Nat} {live lc : List Nat} {f : FuncId} {fn : Func} {ks : List Kind} {args : List Value} {h : Heap} {Q : Value → Heap → Prop} {m : HM (KTup ks)} (hf : P.funcs[f]? = some fn) (hb : fn.body.isSome = true) (hn : fn.ntmps = n) (hlen : Nat.ble args.length n = true)
    (hC : ∀ f, f ∈ C → CallOK P f) (hm : P.follows .mixedOrders = true) (he : denFn P C n live lc fn.results.toList ks (bodyOf fn) args = m) (hd : m h fun x h' => Q (packed ks x) h') : HCalls P f args.toArray h Q :=
  calls_of_den hf hb hn hlen hC hm (he ▸ hd)
theorem orders : Tryd.prog.follows .mixedOrders = true := by kernel_rfl
theorem CN {P : Program} : ∀ f, f ∈ ([] : List Nat) → CallOK P f := fun f hf => by cases hf
theorem CC {P : Program} {a : Nat} {l : List Nat} (h : CallOK P a) (hl : ∀ f, f ∈ l → CallOK P f) : ∀ f, f ∈ a :: l → CallOK P f := fun f hf => by
  rcases List.mem_cons.1 hf with rfl | hf
  · exact h
  · exact hl f hf
def law16_TagsPlays (p0 : Int) (p1 : Slc) (p2 : Int × Int × Unit) : HM (Bool × Unit) :=
  HM.bind (α := Nat) (HM.new (.cells #[.int .i64 p2.1, .int .i64 p2.2.1] 24)) fun x1 =>
  HM.bind (α := Option Addr) (HM.call1 Tryd.prog (.one .ptr) 4 #[.int .i64 p0]) fun x2 =>
  HM.bind (α := Option Addr) (HM.call1 Tryd.prog (.one .ptr) 5 #[.int .i64 p0]) fun x3 =>
  HM.bind (α := Bool) (HM.call1 Tryd.prog (.one .bool) 6 #[]) fun x4 =>
  HM.ite (!x4) (
  HM.pure (false, ())) (
  HM.bind (α := Slc) (HM.slice p1 none (some (if 100 < (((p1.len : Nat) : Int) : Int) then 100 else ((p1.len : Nat) : Int))) none 2) fun x5 =>
  HM.bind (α := (Int × Unit) ⊕ (Bool × Unit)) (HM.loop (σ := Int × Unit) (τ := (Int × Unit) ⊕ (Bool × Unit)) (fun x7 =>
  HM.ite (decide (x7.1 < (((x5.len : Nat) : Int) : Int))) (
  HM.bind (α := Addr) (HM.idx x5.a x5.len x7.1 2) fun x8 =>
  HM.bind (α := Int × Int × Unit) (HM.loadN [.int .i64, .int .i64] x8) fun x9 =>
  HM.bind (α := Nat) (HM.new (.cells #[.int .i64 0, .int .i64 0] 24)) fun x10 =>
  HM.bind (α := Unit) (HM.storeN ⟨x10, 0, none⟩ [.int .i64 x9.1, .int .i64 x9.2.1]) fun _ =>
  HM.bind (α := Int × Int × Unit) (HM.loadN [.int .i64, .int .i64] ⟨x10, 0, none⟩) fun x11 =>
  HM.bind (α := Bool × Int × Unit) (HM.callN Tryd.prog [.one .bool, .one (.int .u8)] 7 #[.pointer x2, .agg #[.int .i64 x11.1, .int .i64 x11.2.1]]) fun x12 =>
  HM.bind (α := Int × Int × Unit) (HM.loadN [.int .i64, .int .i64] ⟨x10, 0, none⟩) fun x13 =>
  HM.bind (α := Bool × Int × Unit) (HM.callN Tryd.prog [.one .bool, .one (.int .i64)] 8 #[.pointer x3, .agg #[.int .i64 x13.1, .int .i64 x13.2.1]]) fun x14 =>
  HM.bind (α := Bool × Unit) (HM.ite (!(x12.1 == x14.1)) (
  HM.pure (true, ())) (
  HM.ite (!((IntKind.wrap .i64 x12.2.1) == x14.2.1)) (
  HM.pure (true, ())) (
  HM.bind (α := Addr) (HM.nonnil x3) fun x15 =>
  HM.bind (α := Slc) (HM.load1 .slc (Addr.add x15 1)) fun x16 =>
  HM.bind (α := Int) (HM.call1 Tryd.prog (.one (.int .i64)) 9 #[.pointer x2]) fun x17 =>
  HM.req ((.int .i64 ((x16.len : Nat) : Int) : Value) = .int .i64 ((x16.len : Nat) : Int)) <|
  HM.bind (α := Slc) (HM.load1 .slc (Addr.add x15 1)) fun x18 =>
  HM.req ((.slice x18.a x18.len x18.cap : Value) = .slice x16.a x16.len x16.cap) <|
  HM.ite (!(x17 == ((x16.len : Nat) : Int))) (
  HM.pure (true, ())) (
  HM.bind (α := Int × Int × Unit) (HM.loadN [.int .i64, .int .i64] ⟨x10, 0, none⟩) fun x19 =>
  HM.bind (α := Int × Int × Unit) (HM.loadN [.int .i64, .int .i64] ⟨x10, 0, none⟩) fun x20 =>
  HM.bind (α := Bool) (HM.call1 Tryd.prog (.one .bool) 10 #[.pointer x2, .agg #[.int .i64 x19.1, .int .i64 x19.2.1]]) fun x21 =>
  HM.bind (α := Int × Int × Unit) (HM.loadN [.int .i64, .int .i64] ⟨x10, 0, none⟩) fun x22 =>
  HM.req ((.agg #[.int .i64 x22.1, .int .i64 x22.2.1] : Value) = .agg #[.int .i64 x20.1, .int .i64 x20.2.1]) <|
  HM.bind (α := Bool) (HM.call1 Tryd.prog (.one .bool) 11 #[.pointer x3, .agg #[.int .i64 x20.1, .int .i64 x20.2.1]]) fun x23 =>
  HM.pure (!(x21 == x23), ()))))) fun x24 =>
  HM.ite x24.1 (
  HM.pure (.inr (.inr (false, ())))) (
  HM.pure (.inl (IntKind.wrap .i64 (x7.1 + 1), ())))) (
  HM.pure (.inr (.inl (x7.1, ()))))) (0, ())) (Sum.elim (fun x6 =>
  HM.bind (α := Slc) (HM.call1 Tryd.prog (.one .slc) 12 #[.pointer x2]) fun x25 =>
  HM.bind (α := Bool × Unit) (HM.bind (α := Addr) (HM.nonnil x3) fun x26 =>
  HM.bind (α := Slc) (HM.load1 .slc (Addr.add x26 1)) fun x27 =>
  HM.ite (!(((x25.len : Nat) : Int) == ((x27.len : Nat) : Int))) (
  HM.pure (true, ())) (
  HM.bind (α := Int × Int × Unit) (HM.loadN [.int .i64, .int .i64] ⟨x1, 0, none⟩) fun x28 =>
  HM.bind (α := Int × Int × Unit) (HM.loadN [.int .i64, .int .i64] ⟨x1, 0, none⟩) fun x29 =>
  HM.bind (α := Bool) (HM.call1 Tryd.prog (.one .bool) 10 #[.pointer x2, .agg #[.int .i64 x28.1, .int .i64 x28.2.1]]) fun x30 =>
  HM.bind (α := Int × Int × Unit) (HM.loadN [.int .i64, .int .i64] ⟨x1, 0, none⟩) fun x31 =>
  HM.req ((.agg #[.int .i64 x31.1, .int .i64 x31.2.1] : Value) = .agg #[.int .i64 x29.1, .int .i64 x29.2.1]) <|
  HM.bind (α := Bool) (HM.call1 Tryd.prog (.one .bool) 11 #[.pointer x3, .agg #[.int .i64 x29.1, .int .i64 x29.2.1]]) fun x32 =>
  HM.pure (!(x30 == x32), ()))) fun x33 =>
  HM.ite x33.1 (
  HM.pure (false, ())) (
  HM.bind (α := (Int × Unit) ⊕ (Bool × Unit)) (HM.loop (σ := Int × Unit) (τ := (Int × Unit) ⊕ (Bool × Unit)) (fun x35 =>
  HM.ite (decide (x35.1 < (((x25.len : Nat) : Int) : Int))) (
  HM.bind (α := Addr) (HM.idx x25.a x25.len x35.1 2) fun x36 =>
  HM.bind (α := Int × Int × Unit) (HM.loadN [.int .i64, .int .i64] x36) fun x37 =>
  HM.bind (α := Addr) (HM.nonnil x3) fun x38 =>
  HM.bind (α := Slc) (HM.load1 .slc (Addr.add x38 1)) fun x39 =>
  HM.bind (α := Addr) (HM.idx x39.a x39.len x35.1 2) fun x40 =>
  HM.bind (α := Int × Int × Unit) (HM.loadN [.int .i64, .int .i64] x40) fun x41 =>
  HM.ite (!((x37.1 == x41.1) && ((x37.2.1 == x41.2.1) && true))) (
  HM.pure (.inr (.inr (false, ())))) (
  HM.pure (.inl (IntKind.wrap .i64 (x35.1 + 1), ())))) (
  HM.pure (.inr (.inl (x35.1, ()))))) (0, ())) (Sum.elim (fun x34 =>
  HM.pure (true, ())) HM.pure))) HM.pure))
theorem law16_TagsPlays_den (p0 : Int) (p1 : Slc) (p2 : Int × Int × Unit) : denFn Tryd.prog [4, 5, 6, 7, 8, 9, 10, 11, 12] 111 [0, 1, 2, 5, 6, 7, 8, 10, 11, 12, 13, 14, 15, 16, 22, 27, 28, 29, 30, 72, 92, 94, 95, 96, 109] [0, 1, 2, 5, 7, 8, 10, 11, 12, 13, 14, 15, 16, 22, 27, 28, 29, 30, 72, 92, 94, 95, 96, 109] Tryd.f3.results.toList [.one .bool] (bodyOf Tryd.f3) [Kind.val (.one (.int .i64)) p0, Kind.val (.one .slc) p1, Kind.val (.agg [.int .i64, .int .i64]) p2] = law16_TagsPlays p0 p1 p2 := by kernel_rfl
theorem law16_TagsPlays_calls (p0 : Int) (p1 : Slc) (p2 : Int × Int × Unit) (h : Heap) (Q : Value → Heap → Prop) (hh : law16_TagsPlays p0 p1 p2 h fun x h' => Q (.bool x.1) h') :
    HCalls Tryd.prog 3 #[.int .i64 p0, .slice p1.a p1.len p1.cap, .agg #[.int .i64 p2.1, .int .i64 p2.2.1]] h Q :=
  calls_of_eq Tryd.func3 (by kernel_rfl) Tryd.ntmps3 (by kernel_rfl) (CC Tryd.call4 (CC Tryd.call5 (CC Tryd.call6 (CC Tryd.call7 (CC Tryd.call8 (CC Tryd.call9 (CC Tryd.call10 (CC Tryd.call11 (CC Tryd.call12 CN))))))))) orders (law16_TagsPlays_den p0 p1 p2) hh
def tags_New (p0 : Int) : HM (Option Addr × Unit) :=
  HM.bind (α := Nat) (HM.new (.map #[] 0)) fun x1 =>
  HM.bind (α := Nat) (HM.new (.cells #[.int .i64 (if 0 < (p0 : Int) then p0 else 0), .map (some x1)] 48)) fun x2 =>
  HM.pure (some ⟨x2, 0, none⟩, ())
theorem tags_New_den (p0 : Int) : denFn Tryd.prog [] 8 [0, 2] [0] Tryd.f4.results.toList [.one .ptr] (bodyOf Tryd.f4) [Kind.val (.one (.int .i64)) p0] = tags_New p0 := by kernel_rfl
theorem tags_New_calls (p0 : Int) (h : Heap) (Q : Value → Heap → Prop) (hh : tags_New p0 h fun x h' => Q (.pointer x.1) h') :
    HCalls Tryd.prog 4 #[.int .i64 p0] h Q :=
  calls_of_eq Tryd.func4 (by kernel_rfl) Tryd.ntmps4 (by kernel_rfl) CN orders (tags_New_den p0) hh
def ref16_New (p0 : Int) : HM (Option Addr × Unit) :=
  HM.bind (α := Int × Unit) (HM.ite (decide (p0 < (0 : Int))) (
  HM.pure (0, ())) (
  HM.pure (p0, ()))) fun x1 =>
  HM.bind (α := Nat) (HM.new (.cells #[.int .i64 x1.1, .slice none 0 0] 40)) fun x2 =>
  HM.pure (some ⟨x2, 0, none⟩, ())
theorem ref16_New_den (p0 : Int) : denFn Tryd.prog [] 8 [0, 2, 4] [0, 4] Tryd.f5.results.toList [.one .ptr] (bodyOf Tryd.f5) [Kind.val (.one (.int .i64)) p0] = ref16_New p0 := by kernel_rfl
theorem ref16_New_calls (p0 : Int) (h : Heap) (Q : Value → Heap → Prop) (hh : ref16_New p0 h fun x h' => Q (.pointer x.1) h') :
    HCalls Tryd.prog 5 #[.int .i64 p0] h Q :=
  calls_of_eq Tryd.func5 (by kernel_rfl) Tryd.ntmps5 (by kernel_rfl) CN orders (ref16_New_den p0) hh
def law16_wakes : HM (Bool × Unit) :=
  HM.bind (α := Nat) (HM.new (.cells #[.int .i64 0, .int .i64 0, .int .i64 0, .int .i64 0] 50)) fun x1 =>
  HM.bind (α := Unit) (HM.storeN ⟨x1, 0, none⟩ [.int .i64 2, .int .i64 15, .int .i64 1, .int .i64 2]) fun _ =>
  HM.bind (α := Option Addr) (HM.call1 Tryd.prog (.one .ptr) 4 #[.int .i64 1]) fun x2 =>
  HM.bind (α := Int × Int × Unit) (HM.loadN [.int .i64, .int .i64] (Addr.add ⟨x1, 0, none⟩ 0)) fun x3 =>
  HM.bind (α := Bool × Int × Unit) (HM.callN Tryd.prog [.one .bool, .one (.int .u8)] 7 #[.pointer x2, .agg #[.int .i64 x3.1, .int .i64 x3.2.1]]) fun x4 =>
  HM.bind (α := Int × Int × Unit) (HM.loadN [.int .i64, .int .i64] (Addr.add ⟨x1, 0, none⟩ 0)) fun x5 =>
  HM.bind (α := Bool × Int × Unit) (HM.callN Tryd.prog [.one .bool, .one (.int .u8)] 7 #[.pointer x2, .agg #[.int .i64 x5.1, .int .i64 x5.2.1]]) fun x6 =>
  HM.bind (α := Bool × Unit) (HM.bind (α := Int × Int × Int × Int × Unit) (HM.loadN [.int .i64, .int .i64, .int .i64, .int .i64] ⟨x1, 0, none⟩) fun x7 =>
  HM.bind (α := ByteArray) (HM.call1 Tryd.prog (.one .str) 13 #[.agg #[.int .i64 x7.1, .int .i64 x7.2.1, .int .i64 x7.2.2.1, .int .i64 x7.2.2.2.1]]) fun x8 =>
  HM.ite (decide (x8 = (ByteArray.mk #[50, 46, 49, 53, 46, 49, 46, 50]))) (
  HM.ite x4.1 (
  HM.ite (!x6.1) (
  HM.ite (x4.2.1 == 0) (
  HM.ite (x6.2.1 == 0) (
  HM.bind (α := Int) (HM.call1 Tryd.prog (.one (.int .i64)) 9 #[.pointer x2]) fun x9 =>
  HM.pure (x9 == 1, ())) (
  HM.pure (false, ()))) (
  HM.pure (false, ()))) (
  HM.pure (false, ()))) (
  HM.pure (false, ()))) (
  HM.pure (false, ()))) fun x10 =>
  HM.pure (x10.1, ())
theorem law16_wakes_den : denFn Tryd.prog [4, 7, 13, 9] 47 [0, 1, 2, 3, 4, 5, 6] [1, 2, 3, 4, 5, 6] Tryd.f6.results.toList [.one .bool] (bodyOf Tryd.f6) [] = law16_wakes := by kernel_rfl
theorem law16_wakes_calls (h : Heap) (Q : Value → Heap → Prop) (hh : law16_wakes h fun x h' => Q (.bool x.1) h') :
    HCalls Tryd.prog 6 #[] h Q :=
  calls_of_eq Tryd.func6 (by kernel_rfl) Tryd.ntmps6 (by kernel_rfl) (CC Tryd.call4 (CC Tryd.call7 (CC Tryd.call13 (CC Tryd.call9 CN)))) orders (law16_wakes_den) hh
def tags_Set_Add (p0 : Option Addr) (p1 : Int × Int × Unit) : HM (Bool × Int × Unit) :=
  HM.bind (α := Nat) (HM.new (.cells #[.int .i64 p1.1, .int .i64 p1.2.1] 33)) fun x1 =>
  HM.ite (Option.isNone p0) (
  HM.pure (false, 128, ())) (
  HM.bind (α := Int × Int × Unit) (HM.loadN [.int .i64, .int .i64] ⟨x1, 0, none⟩) fun x2 =>
  HM.bind (α := Bool) (HM.call1 Tryd.prog (.one .bool) 14 #[.agg #[.int .i64 x2.1, .int .i64 x2.2.1]]) fun x3 =>
  HM.ite (!x3) (
  HM.pure (false, 129, ())) (
  HM.bind (α := Addr) (HM.nonnil p0) fun x4 =>
  HM.bind (α := Option Nat) (HM.load1 .map (Addr.add x4 1)) fun x5 =>
  HM.bind (α := Int × Int × Unit) (HM.loadN [.int .i64, .int .i64] ⟨x1, 0, none⟩) fun x6 =>
  HM.req (eqTy Tryd.prog 8 33 (.agg #[.int .i64 x6.1, .int .i64 x6.2.1]) (.agg #[.int .i64 x6.1, .int .i64 x6.2.1]) = some true) <|
  HM.bind (α := Bool × Bool) (HM.lookup (eqTy Tryd.prog 8 33) (.bool false) (.one .bool) x5 (.agg #[.int .i64 x6.1, .int .i64 x6.2.1])) fun x7 =>
  HM.ite x7.1 (
  HM.pure (false, 0, ())) (
  HM.bind (α := Addr) (HM.nonnil p0) fun x8 =>
  HM.bind (α := Option Nat) (HM.load1 .map (Addr.add x8 1)) fun x9 =>
  HM.bind (α := Int) (HM.mapLen x9) fun x10 =>
  HM.bind (α := Addr) (HM.nonnil p0) fun x11 =>
  HM.bind (α := Int) (HM.load1 (.int .i64) (Addr.add x11 0)) fun x12 =>
  HM.ite (decide (x12 ≤ (x10 : Int))) (
  HM.pure (false, 151, ())) (
  HM.bind (α := Addr) (HM.nonnil p0) fun x13 =>
  HM.bind (α := Option Nat) (HM.load1 .map (Addr.add x13 1)) fun x14 =>
  HM.bind (α := Int × Int × Unit) (HM.loadN [.int .i64, .int .i64] ⟨x1, 0, none⟩) fun x15 =>
  HM.req (eqTy Tryd.prog 8 33 (.agg #[.int .i64 x15.1, .int .i64 x15.2.1]) (.agg #[.int .i64 x15.1, .int .i64 x15.2.1]) = some true) <|
  HM.bind (α := Unit) (HM.mapSet (eqTy Tryd.prog 8 33) x14 (.agg #[.int .i64 x15.1, .int .i64 x15.2.1]) (.bool true)) fun _ =>
  HM.pure (true, 0, ())))))
theorem tags_Set_Add_den (p0 : Option Addr) (p1 : Int × Int × Unit) : denFn Tryd.prog [14] 36 [0, 1, 3, 4, 5, 6, 9, 13, 20] [0, 1, 3, 6, 9, 13, 20] Tryd.f7.results.toList [.one .bool, .one (.int .u8)] (bodyOf Tryd.f7) [Kind.val (.one .ptr) p0, Kind.val (.agg [.int .i64, .int .i64]) p1] = tags_Set_Add p0 p1 := by kernel_rfl
theorem tags_Set_Add_calls (p0 : Option Addr) (p1 : Int × Int × Unit) (h : Heap) (Q : Value → Heap → Prop) (hh : tags_Set_Add p0 p1 h fun x h' => Q (.tuple #[.bool x.1, .int .u8 x.2.1]) h') :
    HCalls Tryd.prog 7 #[.pointer p0, .agg #[.int .i64 p1.1, .int .i64 p1.2.1]] h Q :=
  calls_of_eq Tryd.func7 (by kernel_rfl) Tryd.ntmps7 (by kernel_rfl) (CC Tryd.call14 CN) orders (tags_Set_Add_den p0 p1) hh
def ref16_Add (p0 : Option Addr) (p1 : Int × Int × Unit) : HM (Bool × Int × Unit) :=
  HM.bind (α := Nat) (HM.new (.cells #[.int .i64 p1.1, .int .i64 p1.2.1] 36)) fun x1 =>
  HM.bind (α := Int × Int × Unit) (HM.loadN [.int .i64, .int .i64] ⟨x1, 0, none⟩) fun x2 =>
  HM.bind (α := Bool) (HM.call1 Tryd.prog (.one .bool) 15 #[.agg #[.int .i64 x2.1, .int .i64 x2.2.1]]) fun x3 =>
  HM.ite (!x3) (
  HM.pure (false, 129, ())) (
  HM.bind (α := Int × Int × Unit) (HM.loadN [.int .i64, .int .i64] ⟨x1, 0, none⟩) fun x4 =>
  HM.bind (α := Bool) (HM.call1 Tryd.prog (.one .bool) 11 #[.pointer p0, .agg #[.int .i64 x4.1, .int .i64 x4.2.1]]) fun x5 =>
  HM.ite x5 (
  HM.pure (false, 0, ())) (
  HM.bind (α := Addr) (HM.nonnil p0) fun x6 =>
  HM.bind (α := Slc) (HM.load1 .slc (Addr.add x6 1)) fun x7 =>
  HM.bind (α := Addr) (HM.nonnil p0) fun x8 =>
  HM.bind (α := Int) (HM.load1 (.int .i64) (Addr.add x8 0)) fun x9 =>
  HM.ite (decide (x9 ≤ (((x7.len : Nat) : Int) : Int))) (
  HM.pure (false, 151, ())) (
  HM.bind (α := Bool × Slc × Int × Unit) (HM.loop (σ := Bool × Slc × Int × Unit) (τ := Bool × Slc × Int × Unit) (fun x11 =>
  HM.bind (α := Addr) (HM.nonnil p0) fun x12 =>
  HM.bind (α := Slc) (HM.load1 .slc (Addr.add x12 1)) fun x13 =>
  HM.ite (decide (x11.2.2.1 < (((x13.len : Nat) : Int) : Int))) (
  HM.bind (α := Addr) (HM.nonnil p0) fun x14 =>
  HM.bind (α := Slc) (HM.load1 .slc (Addr.add x14 1)) fun x15 =>
  HM.bind (α := Addr) (HM.idx x15.a x15.len x11.2.2.1 2) fun x16 =>
  HM.bind (α := Int × Int × Unit) (HM.loadN [.int .i64, .int .i64] x16) fun x17 =>
  HM.bind (α := Nat) (HM.new (.cells #[.int .i64 0, .int .i64 0] 36)) fun x18 =>
  HM.bind (α := Unit) (HM.storeN ⟨x18, 0, none⟩ [.int .i64 x17.1, .int .i64 x17.2.1]) fun _ =>
  HM.bind (α := Bool × Unit) (HM.ite (!x11.1) (
  HM.bind (α := Int) (HM.load1 (.int .i64) (Addr.add ⟨x1, 0, none⟩ 0)) fun x19 =>
  HM.bind (α := Int) (HM.load1 (.int .i64) (Addr.add ⟨x18, 0, none⟩ 0)) fun x20 =>
  HM.ite (decide (x19 < (x20 : Int))) (
  HM.pure (true, ())) (
  HM.bind (α := Int) (HM.load1 (.int .i64) (Addr.add ⟨x1, 0, none⟩ 0)) fun x21 =>
  HM.bind (α := Int) (HM.load1 (.int .i64) (Addr.add ⟨x18, 0, none⟩ 0)) fun x22 =>
  HM.ite (x21 == x22) (
  HM.bind (α := Int) (HM.load1 (.int .i64) (Addr.add ⟨x1, 0, none⟩ 1)) fun x23 =>
  HM.bind (α := Int) (HM.load1 (.int .i64) (Addr.add ⟨x18, 0, none⟩ 1)) fun x24 =>
  HM.pure (decide (x23 < (x24 : Int)), ())) (
  HM.pure (false, ())))) (
  HM.pure (false, ()))) fun x25 =>
  HM.bind (α := Slc × Bool × Unit) (HM.ite x25.1 (
  HM.bind (α := Int × Int × Unit) (HM.loadN [.int .i64, .int .i64] ⟨x1, 0, none⟩) fun x27 =>
  HM.bind (α := Nat) (HM.new (.cells #[.int .i64 x27.1, .int .i64 x27.2.1] 36)) fun x28 =>
  HM.bind (α := Slc) (HM.append 36 2 16 #[.int .i64 0, .int .i64 0] x11.2.1 1 (srcSlc 2 (⟨some ⟨x28, 0, none⟩, 1, 1⟩))) fun x29 =>
  HM.pure (x29, true, ())) (
  HM.pure (x11.2.1, x11.1, ()))) fun x26 =>
  HM.bind (α := Int × Int × Unit) (HM.loadN [.int .i64, .int .i64] ⟨x18, 0, none⟩) fun x30 =>
  HM.bind (α := Nat) (HM.new (.cells #[.int .i64 x30.1, .int .i64 x30.2.1] 36)) fun x31 =>
  HM.bind (α := Slc) (HM.append 36 2 16 #[.int .i64 0, .int .i64 0] x26.1 1 (srcSlc 2 (⟨some ⟨x31, 0, none⟩, 1, 1⟩))) fun x32 =>
  HM.pure (.inl (x26.2.1, x32, IntKind.wrap .i64 (x11.2.2.1 + 1), ()))) (
  HM.pure (.inr (x11.1, x11.2.1, x11.2.2.1, ())))) (false, ⟨none, 0, 0⟩, 0, ())) fun x10 =>
  HM.bind (α := Slc × Unit) (HM.ite (!x10.1) (
  HM.bind (α := Int × Int × Unit) (HM.loadN [.int .i64, .int .i64] ⟨x1, 0, none⟩) fun x34 =>
  HM.bind (α := Nat) (HM.new (.cells #[.int .i64 x34.1, .int .i64 x34.2.1] 36)) fun x35 =>
  HM.bind (α := Slc) (HM.append 36 2 16 #[.int .i64 0, .int .i64 0] x10.2.1 1 (srcSlc 2 (⟨some ⟨x35, 0, none⟩, 1, 1⟩))) fun x36 =>
  HM.pure (x36, ())) (
  HM.pure (x10.2.1, ()))) fun x33 =>
  HM.bind (α := Addr) (HM.nonnil p0) fun x37 =>
  HM.bind (α := Unit) (HM.store1 (Addr.add x37 1) (.slice x33.1.a x33.1.len x33.1.cap)) fun _ =>
  HM.pure (true, 0, ()))))
theorem ref16_Add_den (p0 : Option Addr) (p1 : Int × Int × Unit) : denFn Tryd.prog [15, 11] 87 [0, 1, 3, 4, 5, 6, 7, 8, 9, 10, 11, 15, 19, 29, 36, 68, 78] [0, 1, 3, 6, 7, 8, 9, 10, 11, 15, 19, 29, 36, 68, 78] Tryd.f8.results.toList [.one .bool, .one (.int .i64)] (bodyOf Tryd.f8) [Kind.val (.one .ptr) p0, Kind.val (.agg [.int .i64, .int .i64]) p1] = ref16_Add p0 p1 := by kernel_rfl
theorem ref16_Add_calls (p0 : Option Addr) (p1 : Int × Int × Unit) (h : Heap) (Q : Value → Heap → Prop) (hh : ref16_Add p0 p1 h fun x h' => Q (.tuple #[.bool x.1, .int .i64 x.2.1]) h') :
    HCalls Tryd.prog 8 #[.pointer p0, .agg #[.int .i64 p1.1, .int .i64 p1.2.1]] h Q :=
  calls_of_eq Tryd.func8 (by kernel_rfl) Tryd.ntmps8 (by kernel_rfl) (CC Tryd.call15 (CC Tryd.call11 CN)) orders (ref16_Add_den p0 p1) hh
def tags_Set_Len (p0 : Option Addr) : HM (Int × Unit) :=
  HM.ite (Option.isNone p0) (
  HM.pure (0, ())) (
  HM.bind (α := Addr) (HM.nonnil p0) fun x1 =>
  HM.bind (α := Option Nat) (HM.load1 .map (Addr.add x1 1)) fun x2 =>
  HM.bind (α := Int) (HM.mapLen x2) fun x3 =>
  HM.pure (x3, ()))
theorem tags_Set_Len_den (p0 : Option Addr) : denFn Tryd.prog [] 10 [0, 2, 4] [0, 4] Tryd.f9.results.toList [.one (.int .i64)] (bodyOf Tryd.f9) [Kind.val (.one .ptr) p0] = tags_Set_Len p0 := by kernel_rfl
theorem tags_Set_Len_calls (p0 : Option Addr) (h : Heap) (Q : Value → Heap → Prop) (hh : tags_Set_Len p0 h fun x h' => Q (.int .i64 x.1) h') :
    HCalls Tryd.prog 9 #[.pointer p0] h Q :=
  calls_of_eq Tryd.func9 (by kernel_rfl) Tryd.ntmps9 (by kernel_rfl) CN orders (tags_Set_Len_den p0) hh
def tags_Set_Has (p0 : Option Addr) (p1 : Int × Int × Unit) : HM (Bool × Unit) :=
  HM.bind (α := Nat) (HM.new (.cells #[.int .i64 p1.1, .int .i64 p1.2.1] 33)) fun x1 =>
  HM.bind (α := Bool × Unit) (HM.ite (!(Option.isNone p0)) (
  HM.bind (α := Addr) (HM.nonnil p0) fun x2 =>
  HM.bind (α := Option Nat) (HM.load1 .map (Addr.add x2 1)) fun x3 =>
  HM.bind (α := Int × Int × Unit) (HM.loadN [.int .i64, .int .i64] ⟨x1, 0, none⟩) fun x4 =>
  HM.req (eqTy Tryd.prog 8 33 (.agg #[.int .i64 x4.1, .int .i64 x4.2.1]) (.agg #[.int .i64 x4.1, .int .i64 x4.2.1]) = some true) <|
  HM.bind (α := Bool × Bool) (HM.lookup (eqTy Tryd.prog 8 33) (.bool false) (.one .bool) x3 (.agg #[.int .i64 x4.1, .int .i64 x4.2.1])) fun x5 =>
  HM.pure (x5.1, ())) (
  HM.pure (false, ()))) fun x6 =>
  HM.pure (x6.1, ())
theorem tags_Set_Has_den (p0 : Option Addr) (p1 : Int × Int × Unit) : denFn Tryd.prog [] 15 [0, 1, 3, 4] [0, 1, 3] Tryd.f10.results.toList [.one .bool] (bodyOf Tryd.f10) [Kind.val (.one .ptr) p0, Kind.val (.agg [.int .i64, .int .i64]) p1] = tags_Set_Has p0 p1 := by kernel_rfl
theorem tags_Set_Has_calls (p0 : Option Addr) (p1 : Int × Int × Unit) (h : Heap) (Q : Value → Heap → Prop) (hh : tags_Set_Has p0 p1 h fun x h' => Q (.bool x.1) h') :
    HCalls Tryd.prog 10 #[.pointer p0, .agg #[.int .i64 p1.1, .int .i64 p1.2.1]] h Q :=
  calls_of_eq Tryd.func10 (by kernel_rfl) Tryd.ntmps10 (by kernel_rfl) CN orders (tags_Set_Has_den p0 p1) hh
def ref16_Has (p0 : Option Addr) (p1 : Int × Int × Unit) : HM (Bool × Unit) :=
  HM.bind (α := Nat) (HM.new (.cells #[.int .i64 p1.1, .int .i64 p1.2.1] 36)) fun x1 =>
  HM.bind (α := (Int × Unit) ⊕ (Bool × Unit)) (HM.loop (σ := Int × Unit) (τ := (Int × Unit) ⊕ (Bool × Unit)) (fun x3 =>
  HM.bind (α := Addr) (HM.nonnil p0) fun x4 =>
  HM.bind (α := Slc) (HM.load1 .slc (Addr.add x4 1)) fun x5 =>
  HM.ite (decide (x3.1 < (((x5.len : Nat) : Int) : Int))) (
  HM.bind (α := Addr) (HM.nonnil p0) fun x6 =>
  HM.bind (α := Slc) (HM.load1 .slc (Addr.add x6 1)) fun x7 =>
  HM.bind (α := Addr) (HM.idx x7.a x7.len x3.1 2) fun x8 =>
  HM.bind (α := Int × Int × Unit) (HM.loadN [.int .i64, .int .i64] x8) fun x9 =>
  HM.bind (α := Int × Int × Unit) (HM.loadN [.int .i64, .int .i64] ⟨x1, 0, none⟩) fun x10 =>
  HM.ite ((x9.1 == x10.1) && ((x9.2.1 == x10.2.1) && true)) (
  HM.pure (.inr (.inr (true, ())))) (
  HM.pure (.inl (IntKind.wrap .i64 (x3.1 + 1), ())))) (
  HM.pure (.inr (.inl (x3.1, ()))))) (0, ())) (Sum.elim (fun x2 =>
  HM.pure (false, ())) HM.pure)
theorem ref16_Has_den (p0 : Option Addr) (p1 : Int × Int × Unit) : denFn Tryd.prog [] 24 [0, 1, 3, 4, 5, 12, 23] [0, 1, 3, 5, 12, 23] Tryd.f11.results.toList [.one .bool] (bodyOf Tryd.f11) [Kind.val (.one .ptr) p0, Kind.val (.agg [.int .i64, .int .i64]) p1] = ref16_Has p0 p1 := by kernel_rfl
theorem ref16_Has_calls (p0 : Option Addr) (p1 : Int × Int × Unit) (h : Heap) (Q : Value → Heap → Prop) (hh : ref16_Has p0 p1 h fun x h' => Q (.bool x.1) h') :
    HCalls Tryd.prog 11 #[.pointer p0, .agg #[.int .i64 p1.1, .int .i64 p1.2.1]] h Q :=
  calls_of_eq Tryd.func11 (by kernel_rfl) Tryd.ntmps11 (by kernel_rfl) CN orders (ref16_Has_den p0 p1) hh
def tags_Set_List (p0 : Option Addr) : HM (Slc × Unit) :=
  HM.ite (Option.isNone p0) (
  HM.pure (⟨none, 0, 0⟩, ())) (
  HM.bind (α := Addr) (HM.nonnil p0) fun x1 =>
  HM.bind (α := Option Nat) (HM.load1 .map (Addr.add x1 1)) fun x2 =>
  HM.bind (α := Value) (HM.call1 Tryd.prog (.one .any) 17 #[.map x2]) fun x3 =>
  HM.bind (α := Slc) (HM.call1 Tryd.prog (.one .slc) 16 #[x3, .func (.func 18) #[] #[]]) fun x4 =>
  HM.pure (x4, ()))
theorem tags_Set_List_den (p0 : Option Addr) : denFn Tryd.prog [17, 16] 11 [0, 2, 4] [0, 4] Tryd.f12.results.toList [.one .slc] (bodyOf Tryd.f12) [Kind.val (.one .ptr) p0] = tags_Set_List p0 := by kernel_rfl
theorem tags_Set_List_calls (p0 : Option Addr) (h : Heap) (Q : Value → Heap → Prop) (hh : tags_Set_List p0 h fun x h' => Q (.slice x.1.a x.1.len x.1.cap) h') :
    HCalls Tryd.prog 12 #[.pointer p0] h Q :=
  calls_of_eq Tryd.func12 (by kernel_rfl) Tryd.ntmps12 (by kernel_rfl) (CC Tryd.call17 (CC Tryd.call16 CN)) orders (tags_Set_List_den p0) hh
def tags_Label_Text (p0 : Int × Int × Int × Int × Unit) : HM (ByteArray × Unit) :=
  HM.bind (α := Nat) (HM.new (.cells #[.int .i64 p0.1, .int .i64 p0.2.1, .int .i64 p0.2.2.1, .int .i64 p0.2.2.2.1] 50)) fun x1 =>
  HM.bind (α := Int × Int × Int × Int × Unit) (HM.loadN [.int .i64, .int .i64, .int .i64, .int .i64] ⟨x1, 0, none⟩) fun x2 =>
  HM.bind (α := Bool) (HM.call1 Tryd.prog (.one .bool) 22 #[.agg #[.int .i64 x2.1, .int .i64 x2.2.1, .int .i64 x2.2.2.1, .int .i64 x2.2.2.2.1]]) fun x3 =>
  HM.ite (!x3) (
  HM.pure (ByteArray.mk #[], ())) (
  HM.bind (α := Int) (HM.load1 (.int .i64) (Addr.add (Addr.add ⟨x1, 0, none⟩ 0) 0)) fun x4 =>
  HM.bind (α := Int) (HM.load1 (.int .i64) (Addr.add (Addr.add ⟨x1, 0, none⟩ 0) 1)) fun x5 =>
  HM.bind (α := Int) (HM.load1 (.int .i64) (Addr.add ⟨x1, 0, none⟩ 2)) fun x6 =>
  HM.bind (α := Int) (HM.load1 (.int .i64) (Addr.add ⟨x1, 0, none⟩ 3)) fun x7 =>
  HM.bind (α := ByteArray) (HM.call1 Tryd.prog (.one .str) 24 #[.int .i64 x4]) fun x8 =>
  HM.bind (α := Int) (HM.load1 (.int .i64) (Addr.add ⟨x1, 0, none⟩ 3)) fun x9 =>
  HM.req ((.int .i64 x9 : Value) = .int .i64 x7) <|
  HM.bind (α := Int) (HM.load1 (.int .i64) (Addr.add ⟨x1, 0, none⟩ 2)) fun x10 =>
  HM.req ((.int .i64 x10 : Value) = .int .i64 x6) <|
  HM.bind (α := Int) (HM.load1 (.int .i64) (Addr.add (Addr.add ⟨x1, 0, none⟩ 0) 1)) fun x11 =>
  HM.req ((.int .i64 x11 : Value) = .int .i64 x5) <|
  HM.bind (α := ByteArray) (HM.call1 Tryd.prog (.one .str) 25 #[.int .i64 x5, .int .i64 10]) fun x12 =>
  HM.bind (α := Int) (HM.load1 (.int .i64) (Addr.add ⟨x1, 0, none⟩ 3)) fun x13 =>
  HM.req ((.int .i64 x13 : Value) = .int .i64 x7) <|
  HM.bind (α := Int) (HM.load1 (.int .i64) (Addr.add ⟨x1, 0, none⟩ 2)) fun x14 =>
  HM.req ((.int .i64 x14 : Value) = .int .i64 x6) <|
  HM.bind (α := ByteArray) (HM.call1 Tryd.prog (.one .str) 24 #[.int .i64 x6]) fun x15 =>
  HM.bind (α := Int) (HM.load1 (.int .i64) (Addr.add ⟨x1, 0, none⟩ 3)) fun x16 =>
  HM.req ((.int .i64 x16 : Value) = .int .i64 x7) <|
  HM.bind (α := ByteArray) (HM.call1 Tryd.prog (.one .str) 24 #[.int .i64 x7]) fun x17 =>
  HM.bind (α := Nat) (HM.new (.cells #[.string x8, .string x12, .string x15, .string x17] 9)) fun x18 =>
  HM.bind (α := ByteArray) (HM.call1 Tryd.prog (.one .str) 23 #[.slice (some ⟨x18, 0, none⟩) 4 4, .string (ByteArray.mk #[46])]) fun x19 =>
  HM.pure (x19, ()))
theorem tags_Label_Text_den (p0 : Int × Int × Int × Int × Unit) : denFn Tryd.prog [22, 24, 25, 23] 22 [0, 1, 2, 5] [0, 1, 5] Tryd.f13.results.toList [.one .str] (bodyOf Tryd.f13) [Kind.val (.agg [.int .i64, .int .i64, .int .i64, .int .i64]) p0] = tags_Label_Text p0 := by kernel_rfl
theorem tags_Label_Text_calls (p0 : Int × Int × Int × Int × Unit) (h : Heap) (Q : Value → Heap → Prop) (hh : tags_Label_Text p0 h fun x h' => Q (.string x.1) h') :
    HCalls Tryd.prog 13 #[.agg #[.int .i64 p0.1, .int .i64 p0.2.1, .int .i64 p0.2.2.1, .int .i64 p0.2.2.2.1]] h Q :=
  calls_of_eq Tryd.func13 (by kernel_rfl) Tryd.ntmps13 (by kernel_rfl) (CC Tryd.call22 (CC Tryd.call24 (CC Tryd.call25 (CC Tryd.call23 CN)))) orders (tags_Label_Text_den p0) hh
def tags_Tag_good (p0 : Int × Int × Unit) : HM (Bool × Unit) :=
  HM.bind (α := Nat) (HM.new (.cells #[.int .i64 p0.1, .int .i64 p0.2.1] 33)) fun x1 =>
  HM.bind (α := Bool × Unit) (HM.bind (α := Int) (HM.load1 (.int .i64) (Addr.add ⟨x1, 0, none⟩ 0)) fun x2 =>
  HM.ite (decide (0 ≤ (x2 : Int))) (
  HM.bind (α := Int) (HM.load1 (.int .i64) (Addr.add ⟨x1, 0, none⟩ 0)) fun x3 =>
  HM.ite (decide (x3 < (8 : Int))) (
  HM.bind (α := Int) (HM.load1 (.int .i64) (Addr.add ⟨x1, 0, none⟩ 1)) fun x4 =>
  HM.ite (decide (1 ≤ (x4 : Int))) (
  HM.bind (α := Int) (HM.load1 (.int .i64) (Addr.add ⟨x1, 0, none⟩ 1)) fun x5 =>
  HM.pure (decide (x5 ≤ (9007199254740992 : Int)), ())) (
  HM.pure (false, ()))) (
  HM.pure (false, ()))) (
  HM.pure (false, ()))) fun x6 =>
  HM.pure (x6.1, ())
theorem tags_Tag_good_den (p0 : Int × Int × Unit) : denFn Tryd.prog [] 21 [0, 1, 2] [0, 1] Tryd.f14.results.toList [.one .bool] (bodyOf Tryd.f14) [Kind.val (.agg [.int .i64, .int .i64]) p0] = tags_Tag_good p0 := by kernel_rfl
theorem tags_Tag_good_calls (p0 : Int × Int × Unit) (h : Heap) (Q : Value → Heap → Prop) (hh : tags_Tag_good p0 h fun x h' => Q (.bool x.1) h') :
    HCalls Tryd.prog 14 #[.agg #[.int .i64 p0.1, .int .i64 p0.2.1]] h Q :=
  calls_of_eq Tryd.func14 (by kernel_rfl) Tryd.ntmps14 (by kernel_rfl) CN orders (tags_Tag_good_den p0) hh
def ref16_Good (p0 : Int × Int × Unit) : HM (Bool × Unit) :=
  HM.bind (α := Nat) (HM.new (.cells #[.int .i64 p0.1, .int .i64 p0.2.1] 36)) fun x1 =>
  HM.bind (α := Bool × Unit) (HM.bind (α := Int) (HM.load1 (.int .i64) (Addr.add ⟨x1, 0, none⟩ 0)) fun x2 =>
  HM.ite (decide (0 ≤ (x2 : Int))) (
  HM.bind (α := Int) (HM.load1 (.int .i64) (Addr.add ⟨x1, 0, none⟩ 0)) fun x3 =>
  HM.ite (decide (x3 < (8 : Int))) (
  HM.bind (α := Int) (HM.load1 (.int .i64) (Addr.add ⟨x1, 0, none⟩ 1)) fun x4 =>
  HM.ite (decide (0 < (x4 : Int))) (
  HM.bind (α := Int) (HM.load1 (.int .i64) (Addr.add ⟨x1, 0, none⟩ 1)) fun x5 =>
  HM.pure (decide (x5 ≤ (9007199254740992 : Int)), ())) (
  HM.pure (false, ()))) (
  HM.pure (false, ()))) (
  HM.pure (false, ()))) fun x6 =>
  HM.pure (x6.1, ())
theorem ref16_Good_den (p0 : Int × Int × Unit) : denFn Tryd.prog [] 21 [0, 1, 2] [0, 1] Tryd.f15.results.toList [.one .bool] (bodyOf Tryd.f15) [Kind.val (.agg [.int .i64, .int .i64]) p0] = ref16_Good p0 := by kernel_rfl
theorem ref16_Good_calls (p0 : Int × Int × Unit) (h : Heap) (Q : Value → Heap → Prop) (hh : ref16_Good p0 h fun x h' => Q (.bool x.1) h') :
    HCalls Tryd.prog 15 #[.agg #[.int .i64 p0.1, .int .i64 p0.2.1]] h Q :=
  calls_of_eq Tryd.func15 (by kernel_rfl) Tryd.ntmps15 (by kernel_rfl) CN orders (ref16_Good_den p0) hh
def slices_SortedFunc (p0 : Value) (p1 : Value) : HM (Slc × Unit) :=
  HM.bind (α := Slc) (HM.call1 Tryd.prog (.one .slc) 26 #[p0]) fun x1 =>
  HM.bind (α := Unit) (HM.callN Tryd.prog [] 27 #[.slice x1.a x1.len x1.cap, p1]) fun x2 =>
  HM.pure (x1, ())
theorem slices_SortedFunc_den (p0 : Value) (p1 : Value) : denFn Tryd.prog [26, 27] 12 [0, 1, 4, 5] [0, 1, 5] Tryd.f16.results.toList [.one .slc] (bodyOf Tryd.f16) [Kind.val (.one .any) p0, Kind.val (.one .any) p1] = slices_SortedFunc p0 p1 := by kernel_rfl
theorem slices_SortedFunc_calls (p0 : Value) (p1 : Value) (h : Heap) (Q : Value → Heap → Prop) (hh : slices_SortedFunc p0 p1 h fun x h' => Q (.slice x.1.a x.1.len x.1.cap) h') :
    HCalls Tryd.prog 16 #[p0, p1] h Q :=
  calls_of_eq Tryd.func16 (by kernel_rfl) Tryd.ntmps16 (by kernel_rfl) (CC Tryd.call26 (CC Tryd.call27 CN)) orders (slices_SortedFunc_den p0 p1) hh
def cmp_Compare_int (p0 : Int) (p1 : Int) : HM (Int × Unit) :=
  HM.bind (α := Bool) (HM.call1 Tryd.prog (.one .bool) 29 #[.int .i64 p0]) fun x1 =>
  HM.bind (α := Bool) (HM.call1 Tryd.prog (.one .bool) 29 #[.int .i64 p1]) fun x2 =>
  HM.ite x1 (
  HM.ite x2 (
  HM.pure (0, ())) (
  HM.pure ((-1), ()))) (
  HM.ite x2 (
  HM.pure (1, ())) (
  HM.ite (decide (p0 < (p1 : Int))) (
  HM.pure ((-1), ())) (
  HM.ite (decide (p1 < (p0 : Int))) (
  HM.pure (1, ())) (
  HM.pure (0, ())))))
def tags_Label_good (p0 : Int × Int × Int × Int × Unit) : HM (Bool × Unit) :=
  HM.bind (α := Nat) (HM.new (.cells #[.int .i64 p0.1, .int .i64 p0.2.1, .int .i64 p0.2.2.1, .int .i64 p0.2.2.2.1] 50)) fun x1 =>
  HM.bind (α := Bool × Unit) (HM.bind (α := Int × Int × Unit) (HM.loadN [.int .i64, .int .i64] (Addr.add ⟨x1, 0, none⟩ 0)) fun x2 =>
  HM.bind (α := Bool) (HM.call1 Tryd.prog (.one .bool) 14 #[.agg #[.int .i64 x2.1, .int .i64 x2.2.1]]) fun x3 =>
  HM.ite x3 (
  HM.bind (α := Int) (HM.load1 (.int .i64) (Addr.add ⟨x1, 0, none⟩ 2)) fun x4 =>
  HM.ite (decide (0 ≤ (x4 : Int))) (
  HM.bind (α := Int) (HM.load1 (.int .i64) (Addr.add ⟨x1, 0, none⟩ 2)) fun x5 =>
  HM.ite (decide (x5 ≤ (32 : Int))) (
  HM.bind (α := Int) (HM.load1 (.int .i64) (Addr.add ⟨x1, 0, none⟩ 3)) fun x6 =>
  HM.ite (decide (0 ≤ (x6 : Int))) (
  HM.bind (α := Int) (HM.load1 (.int .i64) (Addr.add ⟨x1, 0, none⟩ 3)) fun x7 =>
  HM.pure (decide (x7 ≤ (2 : Int)), ())) (
  HM.pure (false, ()))) (
  HM.pure (false, ()))) (
  HM.pure (false, ()))) (
  HM.pure (false, ()))) fun x8 =>
  HM.pure (x8.1, ())
theorem tags_Label_good_den (p0 : Int × Int × Int × Int × Unit) : denFn Tryd.prog [14] 26 [0, 1, 2] [0, 1] Tryd.f22.results.toList [.one .bool] (bodyOf Tryd.f22) [Kind.val (.agg [.int .i64, .int .i64, .int .i64, .int .i64]) p0] = tags_Label_good p0 := by kernel_rfl
theorem tags_Label_good_calls (p0 : Int × Int × Int × Int × Unit) (h : Heap) (Q : Value → Heap → Prop) (hh : tags_Label_good p0 h fun x h' => Q (.bool x.1) h') :
    HCalls Tryd.prog 22 #[.agg #[.int .i64 p0.1, .int .i64 p0.2.1, .int .i64 p0.2.2.1, .int .i64 p0.2.2.2.1]] h Q :=
  calls_of_eq Tryd.func22 (by kernel_rfl) Tryd.ntmps22 (by kernel_rfl) (CC Tryd.call14 CN) orders (tags_Label_good_den p0) hh
def slices_Collect (p0 : Value) : HM (Slc × Unit) :=
  HM.bind (α := Slc) (HM.call1 Tryd.prog (.one .slc) 36 #[.slice none 0 0, p0]) fun x1 =>
  HM.pure (x1, ())
theorem slices_Collect_den (p0 : Value) : denFn Tryd.prog [36] 5 [0, 2] [0] Tryd.f26.results.toList [.one .slc] (bodyOf Tryd.f26) [Kind.val (.one .any) p0] = slices_Collect p0 := by kernel_rfl
theorem slices_Collect_calls (p0 : Value) (h : Heap) (Q : Value → Heap → Prop) (hh : slices_Collect p0 h fun x h' => Q (.slice x.1.a x.1.len x.1.cap) h') :
    HCalls Tryd.prog 26 #[p0] h Q :=
  calls_of_eq Tryd.func26 (by kernel_rfl) Tryd.ntmps26 (by kernel_rfl) (CC Tryd.call36 CN) orders (slices_Collect_den p0) hh
end Go.Proofs.YtngpaokjbcjpgaaDoor
namespace Go.Proofs.YtngpaokjbcjpgaaDoor
set_option linter.unusedSimpArgs false
open Go.H Go.Proofs
set_option linter.unusedVariables false
set_option synthInstance.maxSize 100000
set_option synthInstance.maxHeartbeats 400000
structure PoolS where
  most : Int
  taken : Int
  used : List Int
structure PoolS.ok (s : PoolS) : Prop where
  most1 : 1 ≤ s.most
  most64 : s.most ≤ 64
  taken0 : 0 ≤ s.taken
  taken1 : s.taken ≤ 65535
  len : (s.used.length : Int) ≤ s.most
  nodup : s.used.Nodup
  range : ∀ k ∈ s.used, 1 ≤ k ∧ k ≤ 65535
def nxt (t : Int) : Int := t % 65535 + 1
inductive Reach (used : List Int) : Nat → Int → Int → Prop
  | here {t : Int} : nxt t ∉ used → Reach used 0 t (nxt t)
  | on {n : Nat} {t u : Int} : nxt t ∈ used → Reach used n (nxt t) u → Reach used (n + 1) t u
abbrev at0 (b : Nat) : Value := .pointer (some ⟨b, 0, none⟩)
end Go.Proofs.YtngpaokjbcjpgaaDoor
namespace Go.H
set_option linter.unusedSimpArgs false
set_option linter.unusedVariables false
open Go.MapKept (Stamped)
section
variable {K : Type} [DecidableEq K]
def allM {V : Type} (v : V) (l : List K) : List (K × V) := l.map fun k => (k, v)
theorem mget_allM {V : Type} (v : V) (l : List K) (k : K) : mget (allM v l) k = if k ∈ l then some v else none := by
  induction l with
  | nil => rfl
  | cons a l ih =>
    show mget ((a, v) :: allM v l) k = _
    rw [mget_cons, ih]
    by_cases h : a = k
    · simp [h]
    · simp [h, Ne.symm h]
theorem mset_allM {V : Type} (v : V) (l : List K) (k : K) (h : k ∉ l) : mset (allM v l) k v = allM v (l ++ [k]) := by
  rw [mset_none _ _ _ (by rw [mget_allM, if_neg h])]
  simp [allM]
omit [DecidableEq K] in
theorem allM_len {V : Type} (v : V) (l : List K) : (allM v l).length = l.length := by simp [allM]
abbrev setM (l : List K) : List (K × Bool) := allM true l
theorem mget_setM (l : List K) (k : K) : mget (setM l) k = if k ∈ l then some true else none := mget_allM true l k
theorem mset_setM (l : List K) (k : K) (h : k ∉ l) : mset (setM l) k true = setM (l ++ [k]) := mset_allM true l k h
end
section
variable {K V : Type} {h : Heap} {R : List Asn} {ek : K → Value}
variable [DecidableEq K]
end
abbrev e2 (k : Int × Int) : Value := .agg #[.int .i64 k.1, .int .i64 k.2]
theorem inj_e2 : ∀ a b : Int × Int, e2 a = e2 b → a = b := fun a b h => by
  have : (Array.toList #[Value.int .i64 a.1, .int .i64 a.2]) = (Array.toList #[Value.int .i64 b.1, .int .i64 b.2]) := congrArg Array.toList (Value.agg.inj h)
  simp at this
  exact Prod.ext this.1 this.2
theorem key_e2 {kd : SameK} (he : ∀ a b c d : Int, kd (.agg #[.int .i64 a, .int .i64 b]) (.agg #[.int .i64 c, .int .i64 d]) = some ((a == c) && ((b == d) && true))) : KeyLaw kd e2 := ⟨fun a b => by
  rw [he]
  congr 1
  rw [Bool.and_true, Bool.eq_iff_iff]
  simp [Prod.ext_iff], fun a => by simp [Instr.sameBits]⟩
end Go.H
namespace Go.Proofs.YtngpaokjbcjpgaaDoor
open Go.H Go.Proofs
set_option linter.unusedSimpArgs false
set_option linter.unusedVariables false
set_option synthInstance.maxSize 100000
set_option synthInstance.maxHeartbeats 400000
abbrev TagT := Int × Int
def goodTag (t : TagT) : Prop := 0 ≤ t.1 ∧ t.1 < 8 ∧ 1 ≤ t.2 ∧ t.2 ≤ 9007199254740992
instance (t : TagT) : Decidable (goodTag t) := by unfold goodTag; infer_instance
theorem tgood_spec {h : Heap} {R : List Asn} (hs : sat h R) {t : TagT} {Q : Value → Heap → Prop} (hq : ∀ h', sat h' R → Q (.bool (decide (goodTag t))) h') :
    HCalls Tryd.prog 14 #[e2 t] h Q := by
  obtain ⟨a, b⟩ := t
  refine tags_Tag_good_calls (a, b, ()) h Q ?_
  unfold tags_Tag_good
  refine new_cells hs fun tb h1 hs1 => ?_
  have c0 : cellH h1 ⟨tb, 0, none⟩ = some (.int .i64 a) := hs1.cell 0
  have c1 : cellH h1 ⟨tb, 1, none⟩ = some (.int .i64 b) := hs1.cell 1
  have hq' := hq h1 hs1.drop
  refine bind_cut (fun x h' => h' = h1 ∧ x.1 = decide (goodTag (a, b))) ?_ ?_
  · unfold goodTag
    by_cases g1 : 0 ≤ a <;> by_cases g2 : a < 8 <;> by_cases g3 : 1 ≤ b <;> by_cases g4 : b ≤ 9007199254740992 <;> simp [add_own, c0, c1, g1, g2, g3, g4] <;> omega
  · rintro ⟨x, ⟨⟩⟩ h2 ⟨rfl, hx⟩
    simp only at hx
    subst hx
    exact hq'
theorem eqTag (a b c d : Int) : eqTy Tryd.prog 8 33 (.agg #[.int .i64 a, .int .i64 b]) (.agg #[.int .i64 c, .int .i64 d]) = some ((a == c) && ((b == d) && true)) := by kernel_rfl
theorem kTag : KeyLaw (eqTy Tryd.prog 8 33) e2 := key_e2 eqTag
theorem eqTag_self (a b : Int) : eqTy Tryd.prog 8 33 (.agg #[.int .i64 a, .int .i64 b]) (.agg #[.int .i64 a, .int .i64 b]) = some true := by
  rw [eqTag]; simp
abbrev eVBt : Bool → Value := Kind.val (.one .bool)
def setA (b : Nat) (most : Int) (l : List TagT) : Asn := exA fun m : Nat =>
  star (cells b #[.int .i64 most, .map (some m)]) (mapA e2 eVBt m (setM l))
theorem setA_iff {h : Heap} {b : Nat} {most : Int} {l : List TagT} {R : List Asn} : sat h (setA b most l :: R) ↔ ∃ m : Nat,
    sat h (cells b #[.int .i64 most, .map (some m)] :: mapA e2 eVBt m (setM l) :: R) := by
  unfold setA
  rw [sat.ex_iff]
  constructor
  · rintro ⟨m, hs⟩
    rw [sat.star_iff] at hs
    exact ⟨m, hs⟩
  · rintro ⟨m, hs⟩
    refine ⟨m, ?_⟩
    rw [sat.star_iff]
    exact hs
theorem setNew_spec {h : Heap} {R : List Asn} (hs : sat h R) (most : Int) {Q : Value → Heap → Prop} (hq : ∀ b h', sat h' (setA b (max 0 most) [] :: R) → Q (at0 b) h') :
    HCalls Tryd.prog 4 #[.int .i64 most] h Q := by
  refine tags_New_calls most h Q ?_
  unfold tags_New
  have e : (if 0 < most then most else 0) = max 0 most := by split <;> omega
  rw [e]
  refine new_map (ek := e2) (ev := eVBt) hs fun m h1 hs1 => ?_
  refine new_cells hs1 fun b h2 hs2 => ?_
  exact hq b h2 (setA_iff.2 ⟨m, hs2⟩)
def addR (most : Int) (l : List TagT) (t : TagT) : (Bool × Int) × List TagT :=
  if goodTag t then (if t ∈ l then ((false, 0), l) else if most ≤ l.length then ((false, 151), l) else ((true, 0), l ++ [t])) else ((false, 129), l)
theorem Add_spec {h : Heap} {R : List Asn} {b : Nat} {most : Int} {l : List TagT} (hs : sat h (setA b most l :: R)) {t : TagT} {Q : Value → Heap → Prop}
    (hq : ∀ h', sat h' (setA b most (addR most l t).2 :: R) → Q (.tuple #[.bool (addR most l t).1.1, .int .u8 (addR most l t).1.2]) h') :
    HCalls Tryd.prog 7 #[at0 b, e2 t] h Q := by
  obtain ⟨u, v⟩ := t
  refine tags_Set_Add_calls (some ⟨b, 0, none⟩) (u, v, ()) h Q ?_
  unfold tags_Set_Add
  obtain ⟨m, hs⟩ := setA_iff.1 hs
  refine new_cells hs fun tb h1 hs1 => ?_
  dsimp only
  (try dsimp only); rw [HM.ite_apply, if_neg (by simp)]
  refine loadN_cells (ts := [.int .i64, .int .i64]) (u, v, ()) hs1 rfl ?_
  refine bind_call1 (tgood_spec (t := (u, v)) hs1 fun h2 hs2 => ⟨decide (goodTag (u, v)), rfl, ?_⟩)
  (try dsimp only); rw [HM.ite_apply]
  unfold addR at hq
  by_cases g : goodTag (u, v)
  case neg =>
    rw [if_pos (by simp [g])]
    rw [if_neg g] at hq
    exact hq h2 (setA_iff.2 ⟨m, hs2.drop⟩)
  rw [if_pos g] at hq
  rw [if_neg (by simp [g])]
  have c1 : cellH h2 ⟨b, 1, none⟩ = some (.map (some m)) := hs2.p1.cell 1
  have c0 : cellH h2 ⟨b, 0, none⟩ = some (.int .i64 most) := hs2.p1.cell 0
  refine ⟨_, rfl, some m, by rw [add_own]; exact c1, ?_⟩
  refine loadN_cells (ts := [.int .i64, .int .i64]) (u, v, ()) hs2 rfl ⟨eqTag_self u v, ?_⟩
  (try dsimp only); rw [HM.bind_apply]
  refine lookup_map (ek := e2) (k := (u, v)) kTag (kind := .one .bool) (z := false) rfl (hs2.re [2, 0, 1]) ?_
  rw [mget_setM]
  by_cases g2 : (u, v) ∈ l
  · rw [if_pos g2] at hq ⊢
    (try dsimp only); rw [HM.ite_apply, if_pos (by rfl)]
    exact hq h2 (setA_iff.2 ⟨m, hs2.drop⟩)
  rw [if_neg g2] at hq ⊢
  (try dsimp only); rw [HM.ite_apply, if_neg (by simp)]
  refine ⟨_, rfl, some m, by rw [add_own]; exact c1, ?_⟩
  (try dsimp only); rw [HM.bind_apply]
  refine len_map (hs2.re [2, 0, 1]) ?_
  refine ⟨_, rfl, most, by rw [add_own]; exact c0, ?_⟩
  (try dsimp only); rw [HM.ite_apply, allM_len]
  by_cases g3 : most ≤ l.length
  · rw [if_pos g3] at hq
    rw [if_pos (by simpa using g3)]
    exact hq h2 (setA_iff.2 ⟨m, hs2.drop⟩)
  rw [if_neg g3] at hq
  rw [if_neg (by simpa using g3)]
  refine ⟨_, rfl, some m, by rw [add_own]; exact c1, ?_⟩
  refine loadN_cells (ts := [.int .i64, .int .i64]) (u, v, ()) hs2 rfl ⟨eqTag_self u v, ?_⟩
  (try dsimp only); rw [HM.bind_apply]
  refine set_map (ek := e2) (k := (u, v)) kTag inj_e2 (ev := eVBt) (x := true) (hs2.re [2, 0, 1]) fun h3 hs3 => ?_
  rw [mset_setM _ _ g2] at hs3
  exact hq h3 (setA_iff.2 ⟨m, (hs3.re [1, 2, 0]).drop⟩)
theorem Has_spec {h : Heap} {R : List Asn} {b : Nat} {most : Int} {l : List TagT} (hs : sat h (setA b most l :: R)) {t : TagT} {Q : Value → Heap → Prop}
    (hq : ∀ h', sat h' (setA b most l :: R) → Q (.bool (decide (t ∈ l))) h') :
    HCalls Tryd.prog 10 #[at0 b, e2 t] h Q := by
  obtain ⟨u, v⟩ := t
  refine tags_Set_Has_calls (some ⟨b, 0, none⟩) (u, v, ()) h Q ?_
  unfold tags_Set_Has
  obtain ⟨m, hs⟩ := setA_iff.1 hs
  refine new_cells hs fun tb h1 hs1 => ?_
  dsimp only
  have c1 : cellH h1 ⟨b, 1, none⟩ = some (.map (some m)) := hs1.p1.cell 1
  (try dsimp only); rw [HM.bind_apply, HM.ite_apply, if_pos (by simp)]
  refine ⟨_, rfl, some m, by rw [add_own]; exact c1, ?_⟩
  refine loadN_cells (ts := [.int .i64, .int .i64]) (u, v, ()) hs1 rfl ⟨eqTag_self u v, ?_⟩
  (try dsimp only); rw [HM.bind_apply]
  refine lookup_map (ek := e2) (k := (u, v)) kTag (kind := .one .bool) (z := false) rfl (hs1.re [2, 0, 1]) ?_
  rw [mget_setM]
  have := hq h1 (setA_iff.2 ⟨m, hs1.drop⟩)
  by_cases g2 : (u, v) ∈ l
  · rw [if_pos g2]
    simpa [g2] using this
  · rw [if_neg g2]
    simpa [g2] using this
theorem Len_spec {h : Heap} {R : List Asn} {b : Nat} {most : Int} {l : List TagT} (hs : sat h (setA b most l :: R)) {Q : Value → Heap → Prop}
    (hq : Q (.int .i64 l.length) h) : HCalls Tryd.prog 9 #[at0 b] h Q := by
  refine tags_Set_Len_calls (some ⟨b, 0, none⟩) h Q ?_
  unfold tags_Set_Len
  obtain ⟨m, hs⟩ := setA_iff.1 hs
  have c1 : cellH h ⟨b, 1, none⟩ = some (.map (some m)) := hs.cell 1
  (try dsimp only); rw [HM.ite_apply, if_neg (by simp)]
  refine ⟨_, rfl, some m, by rw [add_own]; exact c1, ?_⟩
  (try dsimp only); rw [HM.bind_apply]
  refine len_map hs.p1 ?_
  rw [allM_len]
  exact hq
end Go.Proofs.YtngpaokjbcjpgaaDoor
namespace Go.Proofs.YtngpaokjbcjpgaaDoor
set_option linter.unusedSimpArgs false
set_option linter.unusedVariables false
open Go.Proofs Go.Shelf
def itoaL_ren : Go.Shelf.Ren := ⟨fun n => match n with | 171 => 24 | 243 => 34 | 246 => 35 | 283 => 41 | 284 => 42 | 285 => 43 | 286 => 44 | 129 => 54 | 317 => 57 | 318 => 58 | 319 => 59 | 320 => 60 | 337 => 66 | 338 => 67 | n => n, fun n => match n with | 3 => 3 | 9 => 9 | 2 => 2 | 4 => 4 | 171 => 84 | 0 => 0 | 53 => 85 | 37 => 71 | 5 => 5 | 173 => 88 | 212 => 105 | 51 => 99 | 20 => 20 | 213 => 106 | 46 => 82 | 232 => 116 | 233 => 117 | n => n, fun n => match n with | 17 => 0 | 18 => 2 | 19 => 3 | n => n⟩
theorem itoaL : Lays.n171 Tryd.prog itoaL_ren where
  mixed := by kernel_rfl
  f129 := Tryd.func54.trans (congrArg some (by kernel_rfl))
  f171 := Tryd.func24.trans (congrArg some (by kernel_rfl))
  f243 := Tryd.func34.trans (congrArg some (by kernel_rfl))
  f246 := Tryd.func35.trans (congrArg some (by kernel_rfl))
  f283 := Tryd.func41.trans (congrArg some (by kernel_rfl))
  f284 := Tryd.func42.trans (congrArg some (by kernel_rfl))
  f285 := Tryd.func43.trans (congrArg some (by kernel_rfl))
  f286 := Tryd.func44.trans (congrArg some (by kernel_rfl))
  f317 := Tryd.func57.trans (congrArg some (by kernel_rfl))
  f318 := Tryd.func58.trans (congrArg some (by kernel_rfl))
  f319 := Tryd.func59.trans (congrArg some (by kernel_rfl))
  f320 := Tryd.func60.trans (congrArg some (by kernel_rfl))
  f337 := Tryd.func66.trans (congrArg some (by kernel_rfl))
  f338 := Tryd.func67.trans (congrArg some (by kernel_rfl))
  t0 := Tryd.underlying0
  a0 := Tryd.isAgg0
  z0 := Tryd.sizeOf0
  v0 := Tryd.zeroValue0
  t2 := Tryd.underlying2
  a2 := Tryd.isAgg2
  z2 := Tryd.sizeOf2
  v2 := Tryd.zeroValue2
  t3 := Tryd.underlying3
  a3 := Tryd.isAgg3
  z3 := Tryd.sizeOf3
  v3 := Tryd.zeroValue3
  t4 := Tryd.underlying4
  a4 := Tryd.isAgg4
  z4 := Tryd.sizeOf4
  v4 := Tryd.zeroValue4
  t5 := Tryd.underlying5
  a5 := Tryd.isAgg5
  z5 := Tryd.sizeOf5
  v5 := Tryd.zeroValue5
  t9 := Tryd.underlying9
  a9 := Tryd.isAgg9
  z9 := Tryd.sizeOf9
  v9 := Tryd.zeroValue9
  t20 := Tryd.underlying20
  a20 := Tryd.isAgg20
  z20 := Tryd.sizeOf20
  v20 := Tryd.zeroValue20
  t37 := Tryd.underlying71
  a37 := Tryd.isAgg71
  z37 := Tryd.sizeOf71
  v37 := Tryd.zeroValue71
  t46 := Tryd.underlying82
  a46 := Tryd.isAgg82
  z46 := Tryd.sizeOf82
  v46 := Tryd.zeroValue82
  t51 := Tryd.underlying99
  a51 := Tryd.isAgg99
  z51 := Tryd.sizeOf99
  v51 := Tryd.zeroValue99
  t53 := Tryd.underlying85
  a53 := Tryd.isAgg85
  z53 := Tryd.sizeOf85
  v53 := Tryd.zeroValue85
  t171 := Tryd.underlying84
  a171 := Tryd.isAgg84
  z171 := Tryd.sizeOf84
  v171 := Tryd.zeroValue84
  t173 := Tryd.underlying88
  a173 := Tryd.isAgg88
  z173 := Tryd.sizeOf88
  v173 := Tryd.zeroValue88
  t212 := Tryd.underlying105
  a212 := Tryd.isAgg105
  z212 := Tryd.sizeOf105
  v212 := Tryd.zeroValue105
  t213 := Tryd.underlying106
  a213 := Tryd.isAgg106
  z213 := Tryd.sizeOf106
  t232 := Tryd.underlying116
  a232 := Tryd.isAgg116
  z232 := Tryd.sizeOf116
  v232 := Tryd.zeroValue116
  t233 := Tryd.underlying117
  a233 := Tryd.isAgg117
  z233 := Tryd.sizeOf117
  v233 := Tryd.zeroValue117
  g17 := by kernel_rfl
  g18 := by kernel_rfl
  g19 := by kernel_rfl
def formatL_ren : Go.Shelf.Ren := ⟨fun n => match n with | 173 => 25 | 246 => 35 | 283 => 41 | 284 => 42 | 285 => 43 | 286 => 44 | 129 => 54 | 317 => 57 | 318 => 58 | 319 => 59 | 320 => 60 | 337 => 66 | 338 => 67 | n => n, fun n => match n with | 2 => 2 | 3 => 3 | 9 => 9 | 4 => 4 | 171 => 84 | 0 => 0 | 53 => 85 | 37 => 71 | 5 => 5 | 173 => 88 | 212 => 105 | 51 => 99 | 20 => 20 | 213 => 106 | 46 => 82 | 232 => 116 | 233 => 117 | n => n, fun n => match n with | 17 => 0 | 18 => 2 | 19 => 3 | n => n⟩
theorem formatL : Lays.n173 Tryd.prog formatL_ren where
  mixed := by kernel_rfl
  f129 := Tryd.func54.trans (congrArg some (by kernel_rfl))
  f173 := Tryd.func25.trans (congrArg some (by kernel_rfl))
  f246 := Tryd.func35.trans (congrArg some (by kernel_rfl))
  f283 := Tryd.func41.trans (congrArg some (by kernel_rfl))
  f284 := Tryd.func42.trans (congrArg some (by kernel_rfl))
  f285 := Tryd.func43.trans (congrArg some (by kernel_rfl))
  f286 := Tryd.func44.trans (congrArg some (by kernel_rfl))
  f317 := Tryd.func57.trans (congrArg some (by kernel_rfl))
  f318 := Tryd.func58.trans (congrArg some (by kernel_rfl))
  f319 := Tryd.func59.trans (congrArg some (by kernel_rfl))
  f320 := Tryd.func60.trans (congrArg some (by kernel_rfl))
  f337 := Tryd.func66.trans (congrArg some (by kernel_rfl))
  f338 := Tryd.func67.trans (congrArg some (by kernel_rfl))
  t0 := Tryd.underlying0
  a0 := Tryd.isAgg0
  z0 := Tryd.sizeOf0
  v0 := Tryd.zeroValue0
  t2 := Tryd.underlying2
  a2 := Tryd.isAgg2
  z2 := Tryd.sizeOf2
  v2 := Tryd.zeroValue2
  t3 := Tryd.underlying3
  a3 := Tryd.isAgg3
  z3 := Tryd.sizeOf3
  v3 := Tryd.zeroValue3
  t4 := Tryd.underlying4
  a4 := Tryd.isAgg4
  z4 := Tryd.sizeOf4
  v4 := Tryd.zeroValue4
  t5 := Tryd.underlying5
  a5 := Tryd.isAgg5
  z5 := Tryd.sizeOf5
  v5 := Tryd.zeroValue5
  t9 := Tryd.underlying9
  a9 := Tryd.isAgg9
  z9 := Tryd.sizeOf9
  v9 := Tryd.zeroValue9
  t20 := Tryd.underlying20
  a20 := Tryd.isAgg20
  z20 := Tryd.sizeOf20
  v20 := Tryd.zeroValue20
  t37 := Tryd.underlying71
  a37 := Tryd.isAgg71
  z37 := Tryd.sizeOf71
  v37 := Tryd.zeroValue71
  t46 := Tryd.underlying82
  a46 := Tryd.isAgg82
  z46 := Tryd.sizeOf82
  v46 := Tryd.zeroValue82
  t51 := Tryd.underlying99
  a51 := Tryd.isAgg99
  z51 := Tryd.sizeOf99
  v51 := Tryd.zeroValue99
  t53 := Tryd.underlying85
  a53 := Tryd.isAgg85
  z53 := Tryd.sizeOf85
  v53 := Tryd.zeroValue85
  t171 := Tryd.underlying84
  a171 := Tryd.isAgg84
  z171 := Tryd.sizeOf84
  v171 := Tryd.zeroValue84
  t173 := Tryd.underlying88
  a173 := Tryd.isAgg88
  z173 := Tryd.sizeOf88
  v173 := Tryd.zeroValue88
  t212 := Tryd.underlying105
  a212 := Tryd.isAgg105
  z212 := Tryd.sizeOf105
  v212 := Tryd.zeroValue105
  t213 := Tryd.underlying106
  a213 := Tryd.isAgg106
  z213 := Tryd.sizeOf106
  t232 := Tryd.underlying116
  a232 := Tryd.isAgg116
  z232 := Tryd.sizeOf116
  v232 := Tryd.zeroValue116
  t233 := Tryd.underlying117
  a233 := Tryd.isAgg117
  z233 := Tryd.sizeOf117
  v233 := Tryd.zeroValue117
  g17 := by kernel_rfl
  g18 := by kernel_rfl
  g19 := by kernel_rfl
end Go.Proofs.YtngpaokjbcjpgaaDoor
namespace Go.Proofs.YtngpaokjbcjpgaaDoor
set_option linter.unusedSimpArgs false
set_option linter.unusedVariables false
open Go.Proofs Go.Shelf
def joinL_ren : Go.Shelf.Ren := ⟨fun n => match n with | 156 => 23 | 165 => 31 | 166 => 32 | 169 => 33 | 240 => 39 | 241 => 40 | 276 => 55 | 277 => 56 | n => n, fun n => match n with | 31 => 64 | 9 => 9 | 3 => 3 | 4 => 4 | 0 => 0 | 20 => 20 | 72 => 73 | 76 => 77 | 70 => 70 | 37 => 71 | 75 => 76 | 127 => 83 | 164 => 100 | 5 => 5 | 80 => 51 | n => n, fun n => n⟩
theorem joinL : Lays.n156 Tryd.prog joinL_ren where
  mixed := by kernel_rfl
  f156 := Tryd.func23.trans (congrArg some (by kernel_rfl))
  f165 := Tryd.func31.trans (congrArg some (by kernel_rfl))
  f166 := Tryd.func32.trans (congrArg some (by kernel_rfl))
  f169 := Tryd.func33.trans (congrArg some (by kernel_rfl))
  f240 := Tryd.func39.trans (congrArg some (by kernel_rfl))
  f241 := Tryd.func40.trans (congrArg some (by kernel_rfl))
  f276 := Tryd.func55.trans (congrArg some (by kernel_rfl))
  f277 := Tryd.func56.trans (congrArg some (by kernel_rfl))
  t0 := Tryd.underlying0
  a0 := Tryd.isAgg0
  z0 := Tryd.sizeOf0
  v0 := Tryd.zeroValue0
  t3 := Tryd.underlying3
  a3 := Tryd.isAgg3
  z3 := Tryd.sizeOf3
  v3 := Tryd.zeroValue3
  t4 := Tryd.underlying4
  a4 := Tryd.isAgg4
  z4 := Tryd.sizeOf4
  v4 := Tryd.zeroValue4
  t9 := Tryd.underlying9
  a9 := Tryd.isAgg9
  z9 := Tryd.sizeOf9
  v9 := Tryd.zeroValue9
  t20 := Tryd.underlying20
  a20 := Tryd.isAgg20
  z20 := Tryd.sizeOf20
  v20 := Tryd.zeroValue20
  t31 := Tryd.underlying64
  a31 := Tryd.isAgg64
  z31 := Tryd.sizeOf64
  v31 := Tryd.zeroValue64
  t37 := Tryd.underlying71
  a37 := Tryd.isAgg71
  z37 := Tryd.sizeOf71
  v37 := Tryd.zeroValue71
  t70 := Tryd.underlying70
  a70 := Tryd.isAgg70
  z70 := Tryd.sizeOf70
  v70 := Tryd.zeroValue70
  t72 := Tryd.underlying73
  a72 := Tryd.isAgg73
  z72 := Tryd.sizeOf73
  v72 := Tryd.zeroValue73
  t75 := Tryd.underlying76
  a75 := Tryd.isAgg76
  z75 := Tryd.sizeOf76
  v75 := Tryd.zeroValue76
  t76 := Tryd.underlying77
  a76 := Tryd.isAgg77
  z76 := Tryd.sizeOf77
  v76 := Tryd.zeroValue77
  t127 := Tryd.underlying83
  a127 := Tryd.isAgg83
  z127 := Tryd.sizeOf83
  v127 := Tryd.zeroValue83
  t164 := Tryd.underlying100
  a164 := Tryd.isAgg100
  z164 := Tryd.sizeOf100
  v164 := Tryd.zeroValue100
theorem joinX : Builder.Extra Tryd.prog joinL_ren where
  sizeBuilder := by kernel_rfl
  liesBuilder := by kernel_rfl
  t5 := Tryd.underlying5
  a5 := Tryd.isAgg5
  z5 := Tryd.sizeOf5
  v5 := Tryd.zeroValue5
  infoByte := by kernel_rfl
  cellsByte := by kernel_rfl
  sizeByte := by kernel_rfl
  neB5 := by decide
end Go.Proofs.YtngpaokjbcjpgaaDoor
namespace Go.Proofs.YtngpaokjbcjpgaaDoor
open Go.H Go.Proofs
open Go.RowKit (Below)
set_option linter.unusedSimpArgs false
set_option linter.unusedVariables false
set_option synthInstance.maxSize 100000
set_option synthInstance.maxHeartbeats 400000
abbrev decS (n : Nat) : ByteArray := ⟨(Lib.decDigits n).toArray⟩
theorem Itoa_spec {h : Heap} {R : List Asn} (hs : sat h R) {n : Nat} (hn : n < 100) {Q : Value → Heap → Prop} (hq : ∀ h', sat h' R → Q (.string (decS n)) h') :
    HCalls Tryd.prog 24 #[.int .i64 n] h Q :=
  calls_below hs (fun w hw => (Any.strconv_Itoa_small itoaL n hn w).mono fun e w' ⟨h1, h2⟩ => ⟨h1, h2 ▸ Below.refl _ _⟩) hq
theorem Format_small {h : Heap} {R : List Asn} (hs : sat h R) {n : Nat} (hn : n < 100) {Q : Value → Heap → Prop} (hq : ∀ h', sat h' R → Q (.string (decS n)) h') :
    HCalls Tryd.prog 25 #[.int .i64 n, .int .i64 10] h Q :=
  calls_below hs (fun w hw => (Any.strconv_FormatInt_10_small formatL n hn w).mono fun e w' ⟨h1, h2⟩ => ⟨h1, h2 ▸ Below.refl _ _⟩) hq
theorem Join_spec {h : Heap} {R : List Asn} {b : Nat} {xs : List ByteArray} {sep : ByteArray} (hs : sat h (cells b (xs.map fun x => Value.string x).toArray :: R)) (hN : xs.length ≤ 140737488355328)
    (hlen : (Lib.join (xs.map (·.data.toList)) sep.data.toList).length ≤ 140737488355328) {Q : Value → Heap → Prop}
    (hq : ∀ h', sat h' (cells b (xs.map fun x => Value.string x).toArray :: R) → Q (.string ⟨(Lib.join (xs.map (·.data.toList)) sep.data.toList).toArray⟩) h') :
    HCalls Tryd.prog 23 #[.slice (some ⟨b, 0, none⟩) xs.length xs.length, .string sep] h Q :=
  calls_below hs (fun w hw => Any.strings_Join joinL joinX b 0 xs.length xs sep w (fun j x hx => by
    have := hs.cell j
    simp [hx] at this
    have e : w.cell? ⟨b, 0 + j, none⟩ = cellH h ⟨b, j, none⟩ := by rw [Nat.zero_add]; subst hw; rfl
    rw [e]; exact this) (by rw [hw]; exact hs.cells_lt) hN (Nat.le_refl _) hlen) hq
def goodLabel (a b c d : Int) : Prop := goodTag (a, b) ∧ 0 ≤ c ∧ c ≤ 32 ∧ 0 ≤ d ∧ d ≤ 2
instance (a b c d : Int) : Decidable (goodLabel a b c d) := by unfold goodLabel; infer_instance
theorem lgood_spec {h : Heap} {R : List Asn} (hs : sat h R) {a b c d : Int} {Q : Value → Heap → Prop} (hq : ∀ h', sat h' R → Q (.bool (decide (goodLabel a b c d))) h') :
    HCalls Tryd.prog 22 #[.agg #[.int .i64 a, .int .i64 b, .int .i64 c, .int .i64 d]] h Q := by
  refine tags_Label_good_calls (a, b, c, d, ()) h Q ?_
  unfold tags_Label_good
  refine new_cells hs fun tb h1 hs1 => ?_
  refine bind_cut (fun x h' => sat h' R ∧ x.1 = decide (goodLabel a b c d)) ?_ ?_
  · refine loadN_of (ts := [.int .i64, .int .i64]) (a, b, ()) (fun j v hv => ?_) ?_
    · rw [add_own, add_own, hs1.cell]
      match j, hv with
      | 0, hv => exact hv
      | 1, hv => exact hv
      | j + 2, hv => cases (show (none : Option Value) = some v from hv)
    refine bind_call1 (tgood_spec (t := (a, b)) hs1 fun h2 hs2 => ⟨decide (goodTag (a, b)), rfl, ?_⟩)
    have c2 : cellH h2 ⟨tb, 2, none⟩ = some (.int .i64 c) := hs2.cell 2
    have c3 : cellH h2 ⟨tb, 3, none⟩ = some (.int .i64 d) := hs2.cell 3
    have hR := hs2.drop
    unfold goodLabel
    by_cases g0 : goodTag (a, b) <;> by_cases g1 : 0 ≤ c <;> by_cases g2 : c ≤ 32 <;> by_cases g3 : 0 ≤ d <;> by_cases g4 : d ≤ 2 <;> simp [add_own, c2, c3, g0, g1, g2, g3, g4] <;> first | exact hR | exact ⟨hR, by omega⟩
  · rintro ⟨x, ⟨⟩⟩ h2 ⟨hs2, hx⟩
    simp only at hx
    subst hx
    exact hq h2 hs2
def textOf (a : Nat) (F : ByteArray) (c d : Nat) : ByteArray := ⟨(Lib.join [(decS a).data.toList, F.data.toList, (decS c).data.toList, (decS d).data.toList] [46]).toArray⟩
theorem Text_of {h : Heap} {R : List Asn} (hs : sat h R) {a b c d : Nat} {F : ByteArray} (hg : goodLabel a b c d)
    (hF : ∀ (X : Asn) (h : Heap) (Q : Value → Heap → Prop), sat h (X :: R) → (∀ h', sat h' (X :: R) → Q (.string F) h') → HCalls Tryd.prog 25 #[.int .i64 b, .int .i64 10] h Q)
    (hlen : (textOf a F c d).size ≤ 140737488355328) {Q : Value → Heap → Prop} (hq : ∀ h', sat h' R → Q (.string (textOf a F c d)) h') :
    HCalls Tryd.prog 13 #[.agg #[.int .i64 a, .int .i64 b, .int .i64 c, .int .i64 d]] h Q := by
  obtain ⟨ha0, ha1, hb0, hb1⟩ := hg.1
  obtain ⟨-, hc0, hc1, hd0, hd1⟩ := hg
  have hg : goodLabel a b c d := ⟨⟨ha0, ha1, hb0, hb1⟩, hc0, hc1, hd0, hd1⟩
  simp only at ha0 ha1 hb0 hb1
  refine tags_Label_Text_calls (a, b, c, d, ()) h Q ?_
  unfold tags_Label_Text
  refine new_cells hs fun tb h1 hs1 => ?_
  refine loadN_cells (ts := [.int .i64, .int .i64, .int .i64, .int .i64]) (a, b, c, d, ()) hs1 rfl ?_
  refine bind_call1 (lgood_spec hs1 fun h2 hs2 => ⟨_, rfl, ?_⟩)
  (try dsimp only); rw [HM.ite_apply, if_neg (by simp [hg])]
  have hC : ∀ {h' : Heap} {R : List Asn}, sat h' (cells tb #[.int .i64 a, .int .i64 b, .int .i64 c, .int .i64 d] :: R) →
      cellH h' ⟨tb, 0, none⟩ = some (.int .i64 a) ∧ cellH h' ⟨tb, 1, none⟩ = some (.int .i64 b) ∧ cellH h' ⟨tb, 2, none⟩ = some (.int .i64 c) ∧ cellH h' ⟨tb, 3, none⟩ = some (.int .i64 d) :=
    fun hs' => ⟨hs'.cell 0, hs'.cell 1, hs'.cell 2, hs'.cell 3⟩
  refine ⟨a, by rw [add_own, add_own]; exact (hC hs2).1, b, by rw [add_own, add_own]; exact (hC hs2).2.1, c, by rw [add_own]; exact (hC hs2).2.2.1, d, by rw [add_own]; exact (hC hs2).2.2.2, ?_⟩
  refine bind_call1 (Itoa_spec hs2 (by omega) fun h3 hs3 => ⟨decS a, rfl, ?_⟩)
  refine ⟨d, by rw [add_own]; exact (hC hs3).2.2.2, rfl, c, by rw [add_own]; exact (hC hs3).2.2.1, rfl, b, by rw [add_own, add_own]; exact (hC hs3).2.1, rfl, ?_⟩
  refine bind_call1 (hF _ _ _ hs3 fun h4 hs4 => ⟨F, rfl, ?_⟩)
  refine ⟨d, by rw [add_own]; exact (hC hs4).2.2.2, rfl, c, by rw [add_own]; exact (hC hs4).2.2.1, rfl, ?_⟩
  refine bind_call1 (Itoa_spec hs4 (by omega) fun h5 hs5 => ⟨decS c, rfl, ?_⟩)
  refine ⟨d, by rw [add_own]; exact (hC hs5).2.2.2, rfl, ?_⟩
  refine bind_call1 (Itoa_spec hs5 (by omega) fun h6 hs6 => ⟨decS d, rfl, ?_⟩)
  refine new_cells hs6 fun jb h7 hs7 => ?_
  refine bind_call1 (Join_spec (xs := [decS a, F, decS c, decS d]) (sep := ByteArray.mk #[46]) hs7 (by simp) ?_ fun h8 hs8 => ⟨textOf a F c d, rfl, ?_⟩)
  · have : (textOf a F c d).size = (Lib.join [(decS a).data.toList, F.data.toList, (decS c).data.toList, (decS d).data.toList] [46]).length := by
      show (List.toArray _).size = _
      simp
    rw [this] at hlen
    exact hlen
  · exact hq h8 hs8.drop.drop
theorem text_wake : textOf 2 (decS 15) 1 2 = ByteArray.mk #[50, 46, 49, 53, 46, 49, 46, 50] := by
  have e1 : Lib.decDigits 1 = [49] := by rw [Lib.decDigits]; rfl
  have e2 : Lib.decDigits 2 = [50] := by rw [Lib.decDigits]; rfl
  have e5 : Lib.decDigits 5 = [53] := by rw [Lib.decDigits]; rfl
  have e15 : Lib.decDigits 15 = [49, 53] := by rw [Lib.decDigits, dif_neg (by decide)]; simp [e1]
  simp [textOf, decS, e1, e2, e15, Lib.join_cons, Lib.joinTail]
theorem wakes16_spec {h : Heap} {R : List Asn} (hs : sat h R) {Q : Value → Heap → Prop} (hq : ∀ h', sat h' R → Q (.bool true) h') : HCalls Tryd.prog 6 #[] h Q := by
  refine law16_wakes_calls h Q ?_
  unfold law16_wakes
  refine new_cells hs fun b h1 hs1 => ?_
  refine storeN_all' hs1 rfl rfl fun h2 hs2' => ?_
  have hs2 : sat h2 (cells b #[.int .i64 2, .int .i64 15, .int .i64 1, .int .i64 2] :: R) := hs2'
  clear hs1 hs2'
  have hL : ∀ {h' : Heap} {R' : List Asn}, sat h' (cells b #[.int .i64 2, .int .i64 15, .int .i64 1, .int .i64 2] :: R') →
      ∀ (i : Nat) (v : Value), (Tup.vals [.int .i64, .int .i64] (2, 15, ()))[i]? = some v → cellH h' (((⟨b, 0, none⟩ : Addr).add 0).add i) = some v := fun hs' i v hv => by
    rw [add_own, add_own, hs'.cell]
    match i, hv with
    | 0, hv => exact hv
    | 1, hv => exact hv
    | j + 2, hv => cases (show (none : Option Value) = some v from hv)
  refine bind_call1 (setNew_spec hs2 1 fun s h3 hs3 => ⟨some ⟨s, 0, none⟩, rfl, ?_⟩)
  refine loadN_of (ts := [.int .i64, .int .i64]) (2, 15, ()) (hL hs3.p1) ?_
  have r1 : addR (max 0 1) [] (2, 15) = ((true, 0), [(2, 15)]) := by decide
  have r2 : addR (max 0 1) [(2, 15)] (2, 15) = ((false, 0), [(2, 15)]) := by decide
  refine bind_callN (Add_spec (t := (2, 15)) hs3 fun h4 hs4 => ?_)
  rw [r1] at hs4 ⊢
  refine ⟨(true, 0, ()), rfl, ?_⟩
  refine loadN_of (ts := [.int .i64, .int .i64]) (2, 15, ()) (hL hs4.p1) ?_
  refine bind_callN (Add_spec (t := (2, 15)) hs4 fun h5 hs5 => ?_)
  rw [r2] at hs5 ⊢
  refine ⟨(false, 0, ()), rfl, ?_⟩
  refine bind_cut (fun x h' => x.1 = true ∧ sat h' R) ?_ ?_
  · refine loadN_cells (ts := [.int .i64, .int .i64, .int .i64, .int .i64]) (2, 15, 1, 2, ()) (hs5.re [1, 0]) rfl ?_
    refine bind_call1 (Text_of (a := 2) (b := 15) (c := 1) (d := 2) (F := decS 15) hs5 (by decide) (fun X h Q hs' hq' => Format_small hs' (by decide) hq') (by rw [text_wake]; decide) fun h6 hs6 => ?_)
    rw [text_wake]
    refine ⟨_, rfl, ?_⟩
    (try dsimp only); rw [HM.ite_apply, if_pos (by simp)]
    refine bind_call1 (Len_spec hs6 ⟨1, rfl, ?_⟩)
    exact ⟨rfl, hs6.drop.drop⟩
  · rintro ⟨x, ⟨⟩⟩ h6 ⟨rfl, hs6⟩
    exact hq h6 hs6
end Go.Proofs.YtngpaokjbcjpgaaDoor
namespace Go.H
set_option linter.unusedSimpArgs false
set_option linter.unusedVariables false
open Go.RowKit Go.Maps Go.Sort Go.Shelf Go.Proofs
theorem below_grow {w w' : World} (hb : Below w.heap.size w w') : ∀ (k : Nat) o, w.heap[k]? = some o → w'.heap[k]? = some o := fun k o ho => by
  have hk := (Array.getElem?_eq_some_iff.1 ho).1
  rw [hb.block k hk]; exact ho
theorem below_same {B : Nat} {w w' : World} (hb : Below B w w') : Same w w' := ⟨hb.os, hb.tape, hb.output⟩
theorem own_of_row {α : Type} {enc : α → List Value} {size base : Nat} {T : TypeId} {w' : World} {v : Value} {n : Nat} {xs : List α} {h : Heap} {R : List Asn}
    (hr : w'.ownsRow base T size v n (xs.flatMap enc)) (hn : n = xs.length) (hs : sat h R) (hg : ∀ (k : Nat) o, h[k]? = some o → w'.heap[k]? = some o) (hb : h.size ≤ base) :
    ∃ s : Slc, v = .slice s.a s.len s.cap ∧ sat w'.heap (ownS enc size s xs :: R) := by
  obtain ⟨h1, ⟨rfl, h2⟩ | ⟨g, cap, cur, rfl, h3, h4, h5, h6, h7, h8⟩⟩ := hr
  · have hx : xs = [] := List.eq_nil_of_length_eq_zero (by omega)
    subst hx
    exact ⟨⟨none, 0, 0⟩, rfl, ownS_nil (hs.grow hg)⟩
  · exact ⟨⟨some ⟨g, 0, none⟩, n, cap⟩, rfl, ownS_mk (o := 0) ⟨by simp, h5, hn, by simp only [Nat.zero_add]; exact Nat.le_of_eq h7.symm, by simpa using h8⟩ (hs.came_cells hg (by omega) h4)⟩
section
variable {P : Program} {ρk ρs ρt : Ren} {V : Type} {ev : V → Value} {h : Heap} {R : List Asn}
end
end Go.H
namespace Go.Proofs.YtngpaokjbcjpgaaDoor
open Go.H Go.Proofs Go.RowKit Go.Maps Go.Sort Go.Shelf
set_option linter.unusedSimpArgs false
set_option linter.unusedVariables false
theorem sat_two {h : Heap} {b1 b2 : Nat} {o1 o2 : Obj} (h1 : h[b1]? = some o1) (h2 : h[b2]? = some o2) (hne : b1 ≠ b2) : sat h [blk b1 o1, blk b2 o2] := by
  refine ⟨fun k => if k = b1 then some o1 else if k = b2 then some o2 else none, fun k o ho => ?_, fun k => if k = b1 then some o1 else none, fun k => if k = b2 then some o2 else none, fun k => ?_, ?_, ?_, fun k => if k = b2 then some o2 else none, fun _ => none, fun k => .inr rfl, ?_, ?_, trivial⟩
  · simp only at ho
    split at ho
    · rename_i e; cases ho; rw [e]; exact h1
    · split at ho
      · rename_i e; cases ho; rw [e]; exact h2
      · cases ho
  · by_cases e : k = b1
    · right
      show (if k = b2 then some o2 else none) = none
      rw [if_neg (fun e2 => hne (e.symm.trans e2))]
    · left
      show (if k = b1 then some o1 else none) = none
      rw [if_neg e]
  · funext k
    simp only [PH.join]
    by_cases e : k = b1 <;> simp [e]
  · simp [blk]
  · funext k
    simp only [PH.join]
    by_cases e : k = b2 <;> simp [e]
  · simp [blk]
section
variable {K V : Type} {h : Heap} {ek : K → Value} {ev : V → Value} {m it : Nat} {l done todo : List (K × V)} {es : Array MapEntry} {c : Nat} {seen : Array Nat} {des tes : List MapEntry}
theorem next_raw {Q : Option (Value × Value) → Heap → Prop} (hf : ItF ek ev l done todo es c seen des tes) (hit : h[it]? = some (.mapIter (some m) c seen c)) (hm : h[m]? = some (.map es c)) (h0 : todo = [] → Q none h)
    (h1 : ∀ (p : K × V) (t1 t2 : List (K × V)) (b : Nat) (d2 s2 : List MapEntry), todo = t1 ++ p :: t2 → ItF ek ev l (done ++ [p]) (t1 ++ t2) es c (seen.push b) d2 s2 → Q (some (ek p.1, ev p.2)) (h.setIfInBounds it (.mapIter (some m) c (seen.push b) c))) : HM.nextM it h Q := by
  have hborn : ∀ e ∈ es, e.born < c := fun e he => hf.stamped.1 e (by simpa using he)
  have hnd : (es.toList.map (·.born)).Nodup := hf.stamped.2.1
  have hnd' : ((des ++ tes).map (·.born)).Nodup := (hf.perm.map (·.born)).nodup_iff.2 hnd
  rw [List.map_append, List.nodup_append] at hnd'
  have hmem : ∀ e : MapEntry, e ∈ es ↔ e ∈ des ∨ e ∈ tes := fun e => by
    rw [← Array.mem_toList_iff, ← hf.perm.mem_iff, List.mem_append]
  have hseen : ∀ b, seen.contains b = true ↔ b ∈ des.map (·.born) := fun b => by
    rw [← hf.seen]; simp
  have htes : ∀ e ∈ es, seen.contains e.born = false → e ∈ tes := fun e he hc => by
    rcases (hmem e).1 he with hd | ht
    · exact absurd ((hseen e.born).2 (List.mem_map_of_mem hd)) (by rw [hc]; simp)
    · exact ht
  refine ⟨some m, c, seen, c, hit, es, c, hm, ?_, fun hall => ?_, fun e he hc => ?_⟩
  · by_cases hz : es.isEmpty = true
    · simp [hz]
    · have hne : es ≠ #[] := by simpa using hz
      obtain ⟨e, he⟩ : ∃ e, e ∈ es := ⟨es[0]'(Array.size_pos_iff.2 hne), Array.getElem_mem _⟩
      have hlt := hborn e he
      have : es.all (fun e => decide (e.born ≥ c)) = false := by
        cases hh : es.all (fun e => decide (e.born ≥ c)) with
        | false => rfl
        | true =>
          rw [Array.all_eq_true_iff_forall_mem] at hh
          have := hh e he
          simp at this
          omega
      simp [this]
  · refine h0 ?_
    have : tes = [] := by
      cases tes with
      | nil => rfl
      | cons e t =>
        have he : e ∈ es := (hmem e).2 (.inr (List.mem_cons_self ..))
        have hnc : seen.contains e.born = false := by
          cases hh : seen.contains e.born with
          | false => rfl
          | true =>
            exact absurd rfl (hnd'.2.2 e.born ((hseen _).1 hh) e.born (by simp))
        have := hall e he hnc
        have := hborn e he
        omega
    have ht := hf.todo
    rw [this] at ht
    simp only [PairE, List.map_nil] at ht
    exact List.map_eq_nil_iff.1 ht.symm
  · have ht := htes e he hc
    obtain ⟨t1, t2, rfl⟩ := List.append_of_mem ht
    have htd := hf.todo
    simp only [PairE, List.map_append, List.map_cons] at htd
    obtain ⟨l1, l2', e1, e2, e3⟩ := List.map_eq_append_iff.1 htd.symm
    obtain ⟨p, l2, e4, e5, e6⟩ := List.map_eq_cons_iff.1 e3
    subst e4
    have e5' : (ek p.1, ev p.2) = (e.key, e.val) := e5
    obtain ⟨k1, k2⟩ := Prod.mk.inj e5'
    rw [← k1, ← k2]
    refine h1 p l1 l2 e.born (des ++ [e]) (t1 ++ t2) e1 ⟨hf.ents, hf.stamped, ?_, ?_, ?_, ?_⟩
    · refine List.Perm.trans ?_ hf.perm
      rw [List.append_assoc]
      refine List.Perm.append_left des ?_
      show (e :: (t1 ++ t2)).Perm _
      exact List.perm_middle.symm
    · simp [hf.seen]
    · simp only [PairE, List.map_append, List.map_cons, List.map_nil]
      rw [hf.done, e5']
    · simp only [PairE, List.map_append]
      rw [e2, e6]
end
section
variable {F : Fence} {n : Nat} {P : Program} (w : World) {ops : Array Oper} {rest : List Oper} {o : Oper} {a : Act} {Q : Exit → Act → World → Prop}
theorem same_grown {w w' : World} {row : Option Nat} (hs : Same w w') (hz : w.heap.size ≤ w'.heap.size) (hb : ∀ k, k < w.heap.size → some k ≠ row → w'.heap[k]? = w.heap[k]?) : w.grownBy w' row := ⟨hs.1, hs.2, hs.3, hz, hb⟩
theorem wp_range_raw (hg : o.guard = none) (m : Operand) (t : TypeId) (hop : o.op = Op.range t m) (k e : TypeId) (ht : P.underlying t = some (.map k e)) (b : Nat) (es : Array MapEntry) (c : Nat)
    (hm : a.eval m = .map (some b)) (hb : w.heap[b]? = some (.map es c))
    (hK : wpListIn F n P ops Q rest (a.put o.dst (.pointer (some ⟨w.heap.size, 0, none⟩))) (w.alloc (.mapIter (some b) c #[] c))) :
    wpListIn F n P ops Q (o :: rest) a w := by
  refine wpListIn_plain hg fun K' hK' => ?_
  have hrun : (Instr.range t (.map (some b))).run P w = .ok (.pointer (some ⟨w.heap.size, 0, none⟩)) (w.alloc (.mapIter (some b) c #[] c)) := by
    simp [Instr.range, run_und ht, run_getObj hb (by simp)]
  unfold Oper.wpIn
  refine ⟨by simp [Oper.about, hop], ?_⟩
  rw [Oper.semAt_plain F _ _ (by rw [hop]; intro c hc'; cases hc')]
  simp [execOp, hop, hm, hrun, Result.andThen]
  exact hK' _ _ hK
def MoreN {K V : Type} (ek : K → Value) (ev : V → Value) (l done todo : List (K × V)) (es : Array MapEntry) (c : Nat) (seen : Array Nat) (b r : Nat) (w : World) (T : Value → World → Prop) : Prop :=
  ∀ (p : K × V) (t1 t2 : List (K × V)) (x : Nat) (d2 s2 : List MapEntry) (w' : World), todo = t1 ++ p :: t2 → ItF ek ev l (done ++ [p]) (t1 ++ t2) es c (seen.push x) d2 s2 →
      w.grownBy w' (some r) → w'.heap = w.heap.setIfInBounds r (.mapIter (some b) c (seen.push x) c) → T (.tuple #[.bool true, ek p.1, ev p.2]) w'
theorem wp_next_raw {K V : Type} {ek : K → Value} {ev : V → Value} {l done todo : List (K × V)} {es : Array MapEntry} {c : Nat} {seen : Array Nat} {des tes : List MapEntry} (hg : o.guard = none) (it : Operand) (hop : o.op = Op.next it false) (b r : Nat)
    (hit : a.eval it = .pointer (some ⟨r, 0, none⟩)) (hf : ItF ek ev l done todo es c seen des tes) (hr : w.heap[r]? = some (.mapIter (some b) c seen c)) (hb : w.heap[b]? = some (.map es c)) (hrb : r ≠ b)
    (hDone : ∀ w' : World, todo = [] → w.grownBy w' none → w'.heap = w.heap → wpListIn F n P ops Q rest (a.put o.dst (.tuple #[.bool false])) w')
    (hMore : MoreN ek ev l done todo es c seen b r w fun v w' => wpListIn F n P ops Q rest (a.put o.dst v) w') :
    wpListIn F n P ops Q (o :: rest) a w := by
  refine wpListIn_plain hg fun K' hK' => ?_
  unfold Oper.wpIn
  refine ⟨by simp [Oper.about, hop], ?_⟩
  rw [Oper.semAt_plain F _ _ (by rw [hop]; intro c hc'; cases hc')]
  obtain ⟨KK, hKK⟩ : ∃ KK : Value → HM Unit, KK = fun v h' _ => (v = .tuple #[.bool false] ∧ todo = [] ∧ h' = w.heap) ∨ (∃ p t1 t2 x d2 s2, v = .tuple #[.bool true, ek p.1, ev p.2] ∧ todo = t1 ++ p :: t2 ∧ ItF ek ev l (done ++ [p]) (t1 ++ t2) es c (seen.push x) d2 s2 ∧ h' = w.heap.setIfInBounds r (.mapIter (some b) c (seen.push x) c)) := ⟨_, rfl⟩
  have hd : denNext (ρ := Unit) false (.pointer (some ⟨r, 0, none⟩)) KK w.heap (fun _ _ => True) := by
    show HM.nextM r w.heap (fun o h' => HM.opt o (KK (.tuple #[.bool false])) (fun p => KK (.tuple #[.bool true, p.1, p.2])) h' (fun _ _ => True))
    refine next_raw hf hr hb (fun h0 => ?_) fun p t1 t2 x d2 s2 e1 e2 => ?_
    · show KK (.tuple #[.bool false]) w.heap (fun _ _ => True)
      rw [hKK]; exact Or.inl ⟨rfl, h0, rfl⟩
    · show KK (.tuple #[.bool true, ek p.1, ev p.2]) _ (fun _ _ => True)
      rw [hKK]; exact Or.inr ⟨p, t1, t2, x, d2, s2, rfl, e1, e2, rfl⟩
  obtain ⟨v, w', hrun, hs, hv⟩ := denNext_sound (P := P) (t := o.type) hd w rfl
  rw [hKK] at hv
  rcases hv with ⟨rfl, h0, hh⟩ | ⟨p, t1, t2, x, d2, s2, rfl, e1, e2, hh⟩
  · simp [execOp, hop, hit, hrun, Result.andThen]
    exact hK' _ _ (hDone w' h0 (same_grown hs (by rw [hh]; exact Nat.le_refl _) (fun k _ _ => by rw [hh])) hh)
  · simp [execOp, hop, hit, hrun, Result.andThen]
    refine hK' _ _ (hMore p t1 t2 x d2 s2 w' e1 e2 (same_grown hs (by rw [hh]; simp) fun k hk hne => ?_) hh)
    rw [hh, Array.getElem?_setIfInBounds, if_neg (fun e => hne (by rw [e]))]
theorem entry_raw {K V : Type} {ek : K → Value} {ev : V → Value} {l done todo : List (K × V)} {es : Array MapEntry} {c : Nat} {seen : Array Nat} {des tes : List MapEntry} {b r : Nat} {p : K × V} (kk kv : Kind) (x : kk.ty) (y : kv.ty) (hk : ek p.1 = kk.val x) (hv : ev p.2 = kv.val y)
    (hf : ItF ek ev l (done ++ [p]) todo es c seen des tes) (hr : w.heap[r]? = some (.mapIter (some b) c seen c)) (hb : w.heap[b]? = some (.map es c)) (hrb : r ≠ b) :
    (Instr.entry (.pointer (some ⟨r, 0, none⟩))).run P w = .ok (.tuple #[ek p.1, ev p.2]) w := by
  have hs : sat w.heap (itA ek ev b l r (done ++ [p]) todo :: []) := itA_iff.2 ⟨es, c, seen, des, tes, hf, sat_two hr hb hrb⟩
  have hd : denEntry (ρ := Unit) kk kv (.pointer (some ⟨r, 0, none⟩)) (fun v _ _ => v = .tuple #[kk.val x, kv.val y]) w.heap (fun _ _ => True) := by
    show HM.entryM kk kv r w.heap (fun p _ => (Value.tuple #[kk.val p.1, kv.val p.2]) = .tuple #[kk.val x, kv.val y])
    exact entry_map (kk := kk) (kv := kv) (x := x) (y := y) hk hv hs rfl
  obtain ⟨v, hrun, rfl⟩ := denEntry_sound (P := P) hd
  rw [hk, hv]
  exact hrun w rfl
end
end Go.Proofs.YtngpaokjbcjpgaaDoor
namespace Go.Proofs.YtngpaokjbcjpgaaDoor
open Go.H Go.Proofs Go.RowKit Go.Maps Go.Sort Go.Shelf
set_option linter.unusedSimpArgs false
set_option linter.unusedVariables false
abbrev evBt : Bool → Value := Kind.val (.one .bool)
def leftT (n it : Nat) (w : World) : Nat := match w.heap[it]? with
  | some (.mapIter _ _ seen _) => n - seen.size
  | _ => 0
theorem grown_alloc (w : World) (o : Obj) : w.grownBy (w.alloc o) none := ⟨rfl, rfl, rfl, by simp, fun k hk _ => Below.heap_alloc w o k hk⟩
set_option maxRecDepth 100000 in
set_option maxHeartbeats 2000000 in
theorem keys1T (F : Fence) (n : Nat) (h28 : F.fn 28) (hro : F.round = none) (hn : 1 ≤ n) (l0 Bm b : Nat) (l : List ((Int × Int) × Bool)) (es : Array MapEntry) (c : Nat) (J : List (Int × Int) → World → Prop)
    (hY : ∀ pre x W, J pre W → pre.length < l.length → YieldAt F (n - 1) Tryd.prog l0 #[e2 x] W fun e W' => e = .returned (.bool true) ∧ J (pre ++ [x]) W' ∧ KeepsWalks W W')
    (W : World) (hJ : AbidesFrom W.heap.size J) (hm : W.cell? ⟨Bm, 0, none⟩ = some (.map (some b))) (hb : W.heap[b]? = some (.map es c)) (hents : Ents e2 evBt l es.toList) (hst : MapKept.Stamped es c) (h0 : J [] W) :
    CallsIn F n Tryd.prog 28 #[.func (.yield l0) #[] #[], .pointer (some ⟨Bm, 0, none⟩)] W fun e W' => (∃ v, e = .returned v) ∧ ∃ ss : List (Int × Int), ss.Perm (l.map (·.1)) ∧ J ss W' := by
  refine callsIn_of_wp Tryd.func28 rfl h28 ?_ hro
  simp only [Tryd.ntmps28, List.size_toArray, List.length_cons, List.length_nil, Nat.reduceAdd, Nat.reduceSub, Array.replicate_succ, Array.replicate_zero, List.push_toArray, List.append_toArray, List.nil_append, List.cons_append]
  gi_wp2_with (first
    | (gi_at_range; refine wp_range_raw _ rfl _ 46 rfl 33 4 Tryd.underlying46 b es c rfl hb ?_)
    | gi_in)
  go_frame
  have hbl : b < W.heap.size := (Array.getElem?_eq_some_iff.1 hb).1
  gi_loopw [3] (fun _ wr => ∃ (seen : Array Nat) (des tes : List MapEntry) (done todo : List ((Int × Int) × Bool)), ItF e2 evBt l done todo es c seen des tes ∧ wr.heap[b]? = some (.map es c) ∧ wr.heap[W.heap.size]? = some (.mapIter (some b) c seen c) ∧ J (done.map (·.1)) wr ∧ (done ++ todo).Perm l)
    (fun _ wr => leftT l.length W.heap.size wr)
  case atStart =>
    refine ⟨#[], [], es.toList, [], l, ⟨hents, hst, by simp, rfl, rfl, hents⟩, (Below.heap_alloc W _ b hbl).trans hb, World.alloc_heap_new W _, ?_, List.Perm.refl _⟩
    exact hJ [] W _ none h0 (grown_alloc W _) (fun r e => by cases e)
  case round =>
    obtain ⟨seen, des, tes, done, todo, hf, hb', hit, hJs, hpm⟩ := hrel
    gi_wp2_with (first
      | (gi_at_next; refine wp_next_raw _ rfl _ rfl b W.heap.size rfl hf hit hb' (Nat.ne_of_gt hbl) ?_ ?_)
      | gi_in)
    · intro w' ht hg hh
      gi_wp2
      go_end0
      subst ht
      rw [List.append_nil] at hpm
      exact ⟨⟨_, rfl⟩, done.map (·.1), hpm.map _, hJ _ wr w' none hJs hg (fun r e => by cases e)⟩
    · intro p t1 t2 x d2 s2 w2 e1 hf2 hg2 hh2
      have hit2 : w2.heap[W.heap.size]? = some (.mapIter (some b) c (seen.push x) c) := by
        rw [hh2, Array.getElem?_setIfInBounds_self_of_lt (Array.getElem?_eq_some_iff.1 hit).1]
      have hb2 : w2.heap[b]? = some (.map es c) := by
        rw [hh2, Array.getElem?_setIfInBounds, if_neg (Nat.ne_of_gt hbl)]; exact hb'
      have hen := entry_raw (P := Tryd.prog) w2 (.agg [.int .i64, .int .i64]) (.one .bool) (p.1.1, p.1.2, ()) p.2 rfl rfl hf2 hit2 hb2 (Nat.ne_of_gt hbl)
      have hpm2 : (done ++ [p] ++ (t1 ++ t2)).Perm l := by
        refine List.Perm.trans ?_ hpm
        rw [e1, List.append_assoc]
        exact List.Perm.append_left done (show (p :: (t1 ++ t2)).Perm (t1 ++ p :: t2) from List.perm_middle.symm)
      have hlen : (done.map (·.1)).length < l.length := by
        rw [← hpm2.length_eq]
        simp
      have hseen : seen.size < l.length := by
        have h1 := congrArg List.length hf.seen
        have h2 := congrArg List.length hf.done
        simp at h1 h2 hlen
        omega
      obtain ⟨⟨p1, p2⟩, pb⟩ := p
      change (Instr.entry _).run _ _ = .ok (.tuple #[.agg #[.int .i64 p1, .int .i64 p2], .bool pb]) _ at hen
      have hJ2 : J (done.map (·.1)) w2 := hJ _ wr w2 (some W.heap.size) hJs hg2 (fun r e => by cases e; exact ⟨Nat.le_refl _, _, hit, rfl⟩)
      have hJ3 : J (done.map (·.1)) (w2.alloc (.cells #[.int .i64 p1, .int .i64 p2] 33)) := hJ _ w2 _ none hJ2 (grown_alloc _ _) (fun r e => by cases e)
      obtain ⟨fn, tmps, assign, body, hy, hR⟩ := hY (done.map (·.1)) (p1, p2) _ hJ3 hlen
      change (Instr.yield l0 #[.agg #[.int .i64 p1, .int .i64 p2]]).run _ _ = _ at hy
      have hb3 : (w2.alloc (.cells #[.int .i64 p1, .int .i64 p2] 33)).heap[b]? = some (.map es c) := (Below.heap_alloc _ _ b (Array.getElem?_eq_some_iff.1 hb2).1).trans hb2
      have hit3 : (w2.alloc (.cells #[.int .i64 p1, .int .i64 p2] 33)).heap[W.heap.size]? = some (.mapIter (some b) c (seen.push x) c) := (Below.heap_alloc _ _ _ (Array.getElem?_eq_some_iff.1 hit2).1).trans hit2
      gi_wp2
      refine hR.mono ?_
      rintro e W3 ⟨rfl, hJ4, hk3⟩
      have hb4 := hk3.same b _ hb3 rfl
      have hit4 := hk3.same _ _ hit3 rfl
      gi_wp2
      go_roundw
      case rel => exact ⟨seen.push x, d2, s2, done ++ [((p1, p2), pb)], t1 ++ t2, hf2, hb4, hit4, by simpa using hJ4, hpm2⟩
      case measure =>
        unfold leftT
        rw [hit4, hit]
        simp only [Array.size_push]
        omega
end Go.Proofs.YtngpaokjbcjpgaaDoor
namespace Go.Proofs.YtngpaokjbcjpgaaDoor
open Go.H Go.Proofs Go.RowKit Go.Maps Go.Sort Go.Shelf
set_option linter.unusedSimpArgs false
set_option linter.unusedVariables false
abbrev eT2 (x : Int × Int) : List Value := [.int .i64 x.1, .int .i64 x.2]
theorem eT2_len (x : Int × Int) : (eT2 x).length = 2 := rfl
def apAssignT : Code := .region 2 #[{ dst := some 5, op := .alloc 33, type := 0, pos := "iter.go:51", after := #[], guard := none }, { dst := none, op := .store 33 (.tmp 5) (.tmp 7), type := 0, pos := "iter.go:51", after := #[{ on := 0, ground := .data }, { on := 0, ground := .phase }], guard := none }] false
def apBodyT : Code := .block 1 (.region 3 #[{ dst := some 8, op := .load 43 (.tmp 2), type := 43, pos := "iter.go:52", after := #[], guard := none }, { dst := some 9, op := .load 33 (.tmp 5), type := 33, pos := "iter.go:52", after := #[], guard := none }, { dst := some 10, op := .buildSlice 43 1 #[(0, .tmp 9)], type := 43, pos := "iter.go:52", after := #[{ on := 1, ground := .data }], guard := none }, { dst := some 11, op := .call { callee := .builtin .append, args := #[.tmp 8, .tmp 10], argTypes := #[43, 43] }, type := 43, pos := "iter.go:52", after := #[{ on := 0, ground := .data }, { on := 2, ground := .data }], guard := none }, { dst := none, op := .store 43 (.tmp 2) (.tmp 11), type := 0, pos := "iter.go:52", after := #[{ on := 3, ground := .data }, { on := 3, ground := .chain }, { on := 0, ground := .phase }, { on := 1, ground := .phase }, { on := 2, ground := .phase }, { on := 3, ground := .phase }], guard := none }] false)
def apRecT (fn : FuncId) (sv : Value) (Bs D : Nat) (st : LoopState) (pend : Option Code) : Loop :=
  { state := st, pending := pend, fn, tmps := #[.slice none 0 0, sv, .pointer (some ⟨Bs, 0, none⟩), undef, .slice none 0 0, undef, sv, undef, undef, undef, undef, undef, undef], params := #[7], assign := apAssignT, body := apBodyT, defers := D }
structure ApAtT (w0 : World) (fn : FuncId) (sv : Value) (Bs l D : Nat) (ss : List (Int × Int)) (W : World) : Prop where
  box : ∃ v, W.heap[Bs]? = some (.cells #[v] 43 (0, 0)) ∧ W.ownsRow w0.heap.size 33 2 v ss.length (ss.flatMap eT2)
  L : W.heap[l]? = some (.loop (apRecT fn sv Bs D .ready none))
  K : W.heap[D]? = some (.deferred (some []))
  below : Below w0.heap.size w0 W
theorem ap_abidesT (w0 : World) (fn : FuncId) (sv : Value) (Bs l D B : Nat) (hB : w0.heap.size ≤ B) : AbidesFrom B (ApAtT w0 fn sv Bs l D) := fun s W W' row h hg hrow => by
  have hrow' : ∀ r, row = some r → ∃ o : Obj, W.heap[r]? = some o ∧ o.isWalk = true := fun r e => (hrow r e).2
  obtain ⟨v, hv, hr⟩ := h.box
  exact ⟨⟨v, (grownBy_keeps hg hrow' hv rfl).trans hv, ownsRow_abides_a hr hg hrow'⟩, (grownBy_keeps hg hrow' h.L rfl).trans h.L, (grownBy_keeps hg hrow' h.K rfl).trans h.K,
    h.below.grown hg h.below.size (fun k e => Nat.le_trans hB (hrow k e).1)⟩
theorem cell_two (w : World) (b : Nat) (x y : Value) (t : TypeId) (hb : w.heap[b]? = some (.cells #[x, y] t (0, 0))) (j : Nat) : w.cell? ((⟨b, 0, none⟩ : Addr).add j) = #[x, y][j]? := by
  by_cases hj : j = 0
  · subst hj; simp [World.cell?, Addr.add, hb]
  · simp [World.cell?, Addr.add, hj, hb]
theorem cell_two_new (w : World) (x y : Value) (t : TypeId) : ∀ j u, [x, y][j]? = some u → (w.alloc (.cells #[x, y] t)).cell? ((⟨w.heap.size, 0, none⟩ : Addr).add j) = some u := by
  intro j u hu
  rw [cell_two _ _ x y t (World.alloc_heap_new w (.cells #[x, y] t)), ← hu]
  simp
set_option maxRecDepth 100000 in
set_option maxHeartbeats 2000000 in
theorem apYieldT (F : Fence) (m : Nat) (w0 : World) (fn : FuncId) (hfn : F.fn fn) (sv : Value) (Bs l D : Nat) (hBl : Bs ≠ l) (hDl : D ≠ l) (hDB : D ≠ Bs) (h0B : w0.heap.size ≤ Bs) (h0l : w0.heap.size ≤ l)
    (N : Nat) (hN : N ≤ maxLen) (hNb : N * 16 ≤ 140737488355328) (ss : List (Int × Int)) (x : Int × Int) (W : World) (h : ApAtT w0 fn sv Bs l D ss W) (hlen : ss.length < N) :
    YieldAt F m Tryd.prog l #[e2 x] W fun e W' => e = .returned (.bool true) ∧ ApAtT w0 fn sv Bs l D (ss ++ [x]) W' ∧ KeepsWalks W W' := by
  have hne : (43 : TypeId) ≠ 33 := by decide
  have hi26 : (Tryd.prog.info? 33).map (fun i => (i.zero, i.size, i.bytes)) = some (some (.agg #[.int .i64 0, .int .i64 0]), 2, 16) := by kernel_rfl
  obtain ⟨i0, hi, hz0, hz1, hz2⟩ := info_parts hi26
  obtain ⟨v, hv, hrow⟩ := h.box
  obtain ⟨p1, p2⟩ := x
  refine ⟨fn, #[.slice none 0 0, sv, .pointer (some ⟨Bs, 0, none⟩), undef, .slice none 0 0, undef, sv, .agg #[.int .i64 p1, .int .i64 p2], undef, undef, undef, undef, undef], apAssignT, apBodyT, by simpa [apRecT] using run_yield (P := Tryd.prog) (args := #[.agg #[.int .i64 p1, .int .i64 p2]]) h.L rfl, roundIn_of_wpIn hfn ?_⟩
  obtain ⟨W1, hW1⟩ : ∃ W1, W.alloc (.cells #[.int .i64 p1, .int .i64 p2] 33) = W1 := ⟨_, rfl⟩
  have hsw1 : W1.heap.size = W.heap.size + 1 := by rw [← hW1]; simp
  have hold : ∀ k, k < W.heap.size → W1.heap[k]? = W.heap[k]? := fun k hk => by rw [← hW1]; exact Below.heap_alloc _ _ k hk
  have hv1 := (hold Bs (Array.getElem?_eq_some_iff.1 hv).1).trans hv
  have hL1 := (hold l (Array.getElem?_eq_some_iff.1 h.L).1).trans h.L
  have hK1 := (hold D (Array.getElem?_eq_some_iff.1 h.K).1).trans h.K
  have hrow1 : W1.ownsRow w0.heap.size 33 2 v ss.length (ss.flatMap eT2) := by rw [← hW1]; exact hrow.alloc _
  have hb1 : Below w0.heap.size w0 W1 := by rw [← hW1]; exact h.below.alloc h.below.size _
  have hk1 : KeepsWalks W W1 := by rw [← hW1]; exact KeepsWalks.alloc _ _
  have hX1 : W1.heap[W.heap.size]? = some (.cells #[.int .i64 p1, .int .i64 p2] 33 (0, 0)) := by rw [← hW1]; exact World.alloc_heap_new W _
  have hXl : W.heap.size ≠ l := fun e => by have := (Array.getElem?_eq_some_iff.1 h.L).1; omega
  unfold apAssignT
  gi_wp2_with gi_round_op_a
  have hbr := run_beginRound (P := Tryd.prog) hL1 rfl
  obtain ⟨W2, hW2⟩ : ∃ W2, W1.putObj l (.loop { apRecT fn sv Bs D .ready none with state := .busy }) = W2 := ⟨_, rfl⟩
  rw [hW2] at hbr
  have hg2 : W1.grownBy W2 (some l) := by rw [← hW2]; exact grownBy_putObj_a _ _ _
  have hk2 : KeepsWalks W W2 := hk1.trans (by rw [← hW2]; exact KeepsWalks.putObj _ hL1 rfl)
  have hv2 : W2.heap[Bs]? = some (.cells #[v] 43 (0, 0)) := by rw [← hW2]; exact (World.putObj_heap_other hBl).trans hv1
  have hK2 : W2.heap[D]? = some (.deferred (some [])) := by rw [← hW2]; exact (World.putObj_heap_other hDl).trans hK1
  have hL2 : W2.heap[l]? = some (.loop { apRecT fn sv Bs D .ready none with state := .busy }) := by rw [← hW2]; exact World.putObj_heap_same (Array.getElem?_eq_some_iff.1 hL1).1
  have hX2 : W2.heap[W.heap.size]? = some (.cells #[.int .i64 p1, .int .i64 p2] 33 (0, 0)) := by rw [← hW2]; exact (World.putObj_heap_other hXl).trans hX1
  have hrow2 : W2.ownsRow w0.heap.size 33 2 v ss.length (ss.flatMap eT2) := hrow1.kept hg2 (ownsRow_ne_a hrow1 hL1 (fun cur e => by first | cases e | exact hne (Obj.cells.inj e).2.1))
  have hb2 : Below w0.heap.size w0 W2 := hb1.grown hg2 hb1.size (fun k e => by cases e; exact h0l)
  obtain ⟨hc2, hf2⟩ := cell_of_box_a hv2
  have hx0 : W2.cell? ⟨W.heap.size, 0, none⟩ = some (.int .i64 p1) := by simp [World.cell?, hX2]
  have hx1 : W2.cell? ⟨W.heap.size, 1, none⟩ = some (.int .i64 p2) := by simp [World.cell?, hX2]
  have hBlt : Bs < W2.heap.size := (Array.getElem?_eq_some_iff.1 hv2).1
  have hl2 : l < W2.heap.size := (Array.getElem?_eq_some_iff.1 hL2).1
  have hDlt : D < W2.heap.size := (Array.getElem?_eq_some_iff.1 hK2).1
  have ne_of : ∀ {j : Nat} {o : Obj}, W2.heap[j]? = some o → (∀ cur, o ≠ .cells cur 33 (0, 0)) → some j ≠ v.ownBlock := fun hj hno => by
    rcases ownsRow_ne_a hrow2 hj hno with e | e
    · rw [e]; simp
    · exact fun e' => e e'.symm
  clear hW2
  refine ⟨W2, hbr, ?_⟩
  unfold apBodyT
  gi_wp2_with (first
    | (gi_at_builtin; refine wpListIn_append_own _ rfl _ _ 43 rfl w0.heap.size 33 i0 (.agg #[.int .i64 0, .int .i64 0]) 2 16 Tryd.underlying43 hi hz0 hz1 hz2 rfl (by decide) _ _ _ rfl (hrow2.alloc _) ⟨W2.heap.size, 0, none⟩ 1 1 [.int .i64 p1, .int .i64 p2] rfl rfl (cell_two_new _ _ _ _) (by simp [Value.oneCell']) (by omega) (by omega) (by have := hb2.size; simp; omega) ?_; intro v' w3 hown' hg3 hnil3
       have hv3 : w3.heap[Bs]? = some (.cells #[v] 43 (0, 0)) := (hg3.block Bs (by simp; omega) (ne_of hv2 (fun cur e => by first | cases e | exact hne (Obj.cells.inj e).2.1))).trans ((Below.heap_alloc _ _ Bs hBlt).trans hv2)
       obtain ⟨hc3, hf3⟩ := cell_of_box_a hv3
       obtain ⟨g', cap', cur', rfl, hbase', hgb', hr1, hr2, hr3, hr4⟩ : ∃ g' cap' cur', v' = .slice (some ⟨g', 0, none⟩) (ss.length + 1) cap' ∧ w0.heap.size ≤ g' ∧ w3.heap[g']? = some (.cells cur' 33 (0, 0)) ∧ ss.length + 1 ≤ cap' ∧ cap' ≤ maxLen ∧ cur'.size = cap' * 2 ∧ cur'.toList.take ((ss.length + 1) * 2) = ss.flatMap eT2 ++ [.int .i64 p1, .int .i64 p2] := by
         rcases hown'.2 with ⟨_, h0⟩ | h'
         · exact absurd h0 (by omega)
         · exact h'
       go_frame)
    | gi_round_op_a)
  have hg3' : (W2.alloc (.cells #[.int .i64 p1, .int .i64 p2] 33)).grownBy w3 v.ownBlock := hg3
  have hL3 : w3.heap[l]? = some (.loop { apRecT fn sv Bs D .ready none with state := .busy }) := (hg3'.block l (by simp; omega) (ne_of hL2 (fun cur e => by first | cases e | exact hne (Obj.cells.inj e).2.1))).trans ((Below.heap_alloc _ _ l hl2).trans hL2)
  have hK3 : w3.heap[D]? = some (.deferred (some [])) := (hg3'.block D (by simp; omega) (ne_of hK2 (fun cur e => by first | cases e | exact hne (Obj.cells.inj e).2.1))).trans ((Below.heap_alloc _ _ D hDlt).trans hK2)
  obtain ⟨w4, hw4⟩ : ∃ w4, w3.setCell ⟨Bs, 0, none⟩ (.slice (some ⟨g', 0, none⟩) (ss.length + 1) cap') = w4 := ⟨_, rfl⟩
  rw [hw4]
  have hg4 : w3.grownBy w4 (some Bs) := by rw [← hw4]; exact grownBy_setCell0_a _ _ _
  have hv4 : w4.heap[Bs]? = some (.cells #[.slice (some ⟨g', 0, none⟩) (ss.length + 1) cap'] 43 (0, 0)) := by rw [← hw4]; exact heap_setCell_box_a _ hv3
  have hL4 : w4.heap[l]? = some (.loop { apRecT fn sv Bs D .ready none with state := .busy }) := (hg4.block l (Array.getElem?_eq_some_iff.1 hL3).1 (fun e => hBl (by cases e; rfl))).trans hL3
  have hK4 : w4.heap[D]? = some (.deferred (some [])) := (hg4.block D (Array.getElem?_eq_some_iff.1 hK3).1 (fun e => hDB (by cases e; rfl))).trans hK3
  have hrow4 := hown'.kept hg4 (ownsRow_ne_a hown' hv3 (fun cur e => by first | cases e | exact hne (Obj.cells.inj e).2.1))
  have hl4 : l < w4.heap.size := (Array.getElem?_eq_some_iff.1 hL4).1
  have hb3 : Below w0.heap.size w0 w3 := (hb2.alloc hb2.size _).grown hg3' (by have := hb2.size; simp; omega) (fun k e => (hrow2.lt k e).1)
  have hb4 : Below w0.heap.size w0 w4 := hb3.grown hg4 hb3.size (fun k e => by cases e; exact h0B)
  have hk4 : KeepsWalks W w4 := ((hk2.trans (KeepsWalks.alloc _ _)).trans (KeepsWalks.of_grownBy hg3' (ownsRow_not_walk_a (hrow2.alloc _)))).trans (by rw [← hw4]; exact KeepsWalks.setCell _ _ _)
  clear hw4
  refine ⟨_, _, run_endRound none hL4, rfl, ⟨⟨_, (World.putObj_heap_other hBl).trans hv4, ?_⟩, World.putObj_heap_same hl4, (World.putObj_heap_other hDl).trans hK4, hb4.grown (grownBy_putObj_a _ _ _) hb4.size (fun k e => by cases e; exact h0l)⟩, hk4.trans (KeepsWalks.putObj _ hL4 rfl)⟩
  have := hrow4.kept (grownBy_putObj_a w4 l (.loop { { apRecT fn sv Bs D .ready none with state := .busy } with state := if (none : Option Code).isNone then .ready else .done, pending := none })) (ownsRow_ne_a hrow4 hL4 (fun cur e => by first | cases e | exact hne (Obj.cells.inj e).2.1))
  simpa using this
set_option maxRecDepth 100000 in
set_option maxHeartbeats 2000000 in
theorem appendSeqT (F : Fence) (n : Nat) (h36 : F.fn 36) (hro : F.round = none) (hn : 2 ≤ n) (g : Nat) (lb : Array Value) (hFg : F.fn g) (eg : ∀ args w, (callFunc g args).run Tryd.prog w = .ok (.enter g args) w)
    (S : List (Int × Int) → Prop) (N : Nat) (hN : N ≤ maxLen) (hNb : N * 16 ≤ 140737488355328) (w : World) (hseq : SeqGives F (n - 1) Tryd.prog g lb e2 S N w) :
    CallsIn F n Tryd.prog 36 #[.slice none 0 0, .func (.func g) #[] lb] w fun e w' => ∃ (v : Value) (ss : List (Int × Int)), e = .returned v ∧ S ss ∧ w'.ownsRow w.heap.size 33 2 v ss.length (ss.flatMap eT2) ∧ Below w.heap.size w w' := by
  have h1 : 1 ≤ n := by omega
  have hne : (43 : TypeId) ≠ 33 := by decide
  refine callsIn_of_wp_marks Tryd.func36 rfl h36 ?_ hro
  simp only [Tryd.ntmps36, List.size_toArray, List.length_cons, List.length_nil, Nat.reduceAdd, Nat.reduceSub, Array.replicate_succ, Array.replicate_zero, List.push_toArray, List.append_toArray, List.nil_append, List.cons_append]
  gi_wp2
  refine wpIn_rangeFunc ?_
  intro fn hfn
  rw [hro]
  obtain ⟨W0, hW0⟩ : ∃ W0, w.alloc (.cells #[.slice none 0 0] 43) = W0 := ⟨_, rfl⟩
  have hs0 : W0.heap.size = w.heap.size + 1 := by rw [← hW0]; simp
  have hv0 : W0.heap[w.heap.size]? = some (.cells #[.slice none 0 0] 43 (0, 0)) := by rw [← hW0]; exact World.alloc_heap_new w _
  have hb0 : Below w.heap.size w W0 := by rw [← hW0]; exact (Below.refl _ w).alloc (Nat.le_refl _) _
  rw [hW0]
  obtain ⟨W1, hW1⟩ : ∃ W1, (W0.alloc (.deferred (some []))).alloc (.loop (apRecT fn (.func (.func g) #[] lb) w.heap.size W0.heap.size .ready none)) = W1 := ⟨_, rfl⟩
  have hold : ∀ k, k < W0.heap.size → W1.heap[k]? = W0.heap[k]? := fun k hk => by
    rw [← hW1]; exact (Below.heap_alloc _ _ k (by simp; omega)).trans (Below.heap_alloc _ _ k hk)
  have hb1 : Below w.heap.size w W1 := by rw [← hW1]; exact (hb0.alloc hb0.size _).alloc (by have := hb0.size; simp; omega) _
  have hs1 : W1.heap.size = W0.heap.size + 2 := by rw [← hW1]; simp
  have hM : ApAtT w fn (.func (.func g) #[] lb) w.heap.size (W0.heap.size + 1) W0.heap.size [] W1 :=
    ⟨⟨_, (hold w.heap.size (by omega)).trans hv0, ⟨rfl, .inl ⟨rfl, rfl⟩⟩⟩,
     by rw [← hW1]; have := World.alloc_heap_new (W0.alloc (.deferred (some []))) (.loop (apRecT fn (.func (.func g) #[] lb) w.heap.size W0.heap.size .ready none)); rwa [World.size_alloc] at this,
     by rw [← hW1]; exact (Below.heap_alloc _ _ _ (by simp)).trans (World.alloc_heap_new W0 _), hb1⟩
  refine ⟨W0.heap.size + 1, [{ target := .collected W0.heap.size, args := #[] }], W1, { target := .fn (.func g) lb, args := #[.func (.yield (W0.heap.size + 1)) #[] #[]] }, W1, g,
    #[.func (.yield (W0.heap.size + 1)) #[] #[]] ++ lb, W1, ?_, ?_, ?_, ?_, fun _ => h1, ?_⟩
  · rw [← hW1]; exact run_enterLoop_outer _ _ _ _ _
  · simp [resolve, go_sem]
  · intro f' hf'; simp [Target.leads] at hf'; subst hf'; exact hFg
  · simp [invoke, go_sem, eg]
  · refine (hseq (W0.heap.size + 1) (ApAtT w fn (.func (.func g) #[] lb) w.heap.size (W0.heap.size + 1) W0.heap.size) W1 hb1 (ap_abidesT _ _ _ _ _ _ _ hb1.size)
      (fun pre x W hJ hl => apYieldT F (n - 1 - 1) w fn hfn _ w.heap.size (W0.heap.size + 1) W0.heap.size (by omega) (by omega) (by omega) (Nat.le_refl _) (by omega) N hN hNb pre x W hJ hl) hM).mono ?_
    rintro e W2 ⟨⟨v0, rfl⟩, ss, hS, h2⟩
    obtain ⟨v, hv, hrow⟩ := h2.box
    have hend := run_endLoop (P := Tryd.prog) h2.L (by simp [apRecT])
    obtain ⟨W3, hW3⟩ : ∃ W3, W2.putObj (W0.heap.size + 1) (.loop { apRecT fn (.func (.func g) #[] lb) w.heap.size W0.heap.size .ready none with state := .exhausted }) = W3 := ⟨_, rfl⟩
    rw [hW3] at hend
    have hg3 : W2.grownBy W3 (some (W0.heap.size + 1)) := by rw [← hW3]; exact grownBy_putObj_a _ _ _
    have hv3 : W3.heap[w.heap.size]? = some (.cells #[v] 43 (0, 0)) := by rw [← hW3]; exact (World.putObj_heap_other (by omega)).trans hv
    have hK3 : W3.heap[W0.heap.size]? = some (.deferred (some [])) := by rw [← hW3]; exact (World.putObj_heap_other (by omega)).trans h2.K
    have hrow3 := hrow.kept hg3 (ownsRow_ne_a hrow h2.L (fun cur e => by first | cases e | exact hne (Obj.cells.inj e).2.1))
    have hb3 : Below w.heap.size w W3 := h2.below.grown hg3 h2.below.size (fun k e => by cases e; omega)
    obtain ⟨hc3, hf3⟩ := cell_of_box_a hv3
    clear hW3
    refine ⟨none, W3, hend, ?_⟩
    gi_wp2
    rw [← hs0]
    refine ⟨by simp, .inl ⟨_, _, rfl, run_takeDeferred hK3, ?_⟩⟩
    exact ⟨_, results_tmp rfl _ _ _, v, ss, rfl, hS, hrow3.kept (grownBy_putObj_a _ _ _) (ownsRow_ne_a hrow3 hK3 (fun cur e => by first | cases e | exact hne (Obj.cells.inj e).2.1)), hb3.grown (grownBy_putObj_a _ _ _) hb3.size (fun k e => by cases e; omega)⟩
end Go.Proofs.YtngpaokjbcjpgaaDoor
namespace Go.Proofs.YtngpaokjbcjpgaaDoor
open Go.Proofs Go.Shelf Go.RowKit Go.Sort
set_option maxRecDepth 100000
def cmpI9_ren : Go.Shelf.Ren := ⟨fun n => match n with | 5 => 20 | 7 => 29 | n => n, fun n => match n with | 22 => 3 | 3 => 3 | 4 => 4 | n => n, fun n => n⟩
theorem cmpI9 : SlLaysC2.n5 Tryd.prog cmpI9_ren where
  mixed := by kernel_rfl
  f5 := ⟨Tryd.f20.name, by kernel_rfl, Tryd.func20.trans (congrArg some (by kernel_rfl))⟩
  f7 := ⟨Tryd.f29.name, by kernel_rfl, Tryd.func29.trans (congrArg some (by kernel_rfl))⟩
  t3 := Tryd.underlying3
  a3 := Tryd.isAgg3
  z3 := Tryd.sizeOf3
  v3 := Tryd.zeroValue3
  t4 := Tryd.underlying4
  a4 := Tryd.isAgg4
  z4 := Tryd.sizeOf4
  v4 := Tryd.zeroValue4
  t22 := Tryd.underlying3
  a22 := Tryd.isAgg3
  z22 := Tryd.sizeOf3
  v22 := Tryd.zeroValue3
def cmpL9_ren : Go.Shelf.Ren := ⟨fun n => match n with | 5 => 21 | 7 => 30 | n => n, fun n => match n with | 22 => 2 | 3 => 3 | 4 => 4 | n => n, fun n => n⟩
theorem cmpL9 : SlLaysC2.n5 Tryd.prog cmpL9_ren where
  mixed := by kernel_rfl
  f5 := ⟨Tryd.f21.name, by kernel_rfl, Tryd.func21.trans (congrArg some (by kernel_rfl))⟩
  f7 := ⟨Tryd.f30.name, by kernel_rfl, Tryd.func30.trans (congrArg some (by kernel_rfl))⟩
  t3 := Tryd.underlying3
  a3 := Tryd.isAgg3
  z3 := Tryd.sizeOf3
  v3 := Tryd.zeroValue3
  t4 := Tryd.underlying4
  a4 := Tryd.isAgg4
  z4 := Tryd.sizeOf4
  v4 := Tryd.zeroValue4
  t22 := Tryd.underlying2
  a22 := Tryd.isAgg2
  z22 := Tryd.sizeOf2
  v22 := Tryd.zeroValue2
theorem cmpOr9 (b : Nat) (x y : Int) (w : World) (h0 : w.cell? ⟨b, 0, none⟩ = some (.int .i64 x)) (h1 : w.cell? ⟨b, 1, none⟩ = some (.int .i64 y)) :
    Calls Tryd.prog 19 #[.slice (some ⟨b, 0, none⟩) 2 2] w fun e w' => e = .returned (.int .i64 (if x = 0 then y else x)) ∧ w' = w := by
  generalize hr : (if x = 0 then y else x) = r
  go_enter Tryd.func19, Tryd.ntmps19
  go_wp2
  go_loop [5, 8] (fun _ i => (i = .int .i64 0) ∨ (i = .int .i64 1 ∧ x = 0) ∨ (i = .int .i64 2 ∧ x = 0 ∧ y = 0)) (fun _ i => 2 - (intOf i).toNat)
  case atStart => exact .inl rfl
  case round =>
    rcases hrel with rfl | ⟨rfl, hx⟩ | ⟨rfl, hx, hy⟩
    · by_cases hx : x = 0
      · subst hx
        go_wp2
        go_round
        case rel => exact .inr (.inl ⟨by go_num, by first | trivial | rfl⟩)
        case measure => simp [intOf]
      · have hx' : (x == 0) = false := by simpa using hx
        have hx2 : (x != 0) = true := by simpa using hx
        go_wp2
        go_ret
        rw [if_neg hx] at hr
        subst hr
        exact ⟨rfl, rfl⟩
    · by_cases hy : y = 0
      · subst hy
        go_wp2
        go_round
        case rel => exact .inr (.inr ⟨by go_num, hx, by first | trivial | rfl⟩)
        case measure => simp [intOf]
      · have hy' : (y == 0) = false := by simpa using hy
        have hy2 : (y != 0) = true := by simpa using hy
        go_wp2
        go_ret
        rw [if_pos hx] at hr
        subst hr
        exact ⟨rfl, rfl⟩
    · go_wp2
      go_ret
      rw [if_pos hx, hy] at hr
      subst hr
      exact ⟨rfl, rfl⟩
theorem two0 (W : World) (c1 c2 : Obj) : ((W.alloc c1).alloc c2).heap[W.heap.size]? = some c1 := by
  show ((W.heap.push c1).push c2)[W.heap.size]? = some c1
  rw [Array.getElem?_push, if_neg (by simp), Array.getElem?_push, if_pos rfl]
theorem two1 (W : World) (c1 c2 : Obj) : ((W.alloc c1).alloc c2).heap[W.heap.size + 1]? = some c2 := by
  show ((W.heap.push c1).push c2)[W.heap.size + 1]? = some c2
  rw [Array.getElem?_push, if_pos (by simp)]
theorem one9 (W : World) (c1 : Obj) : (W.alloc c1).heap[W.heap.size]? = some c1 := by
  show (W.heap.push c1)[W.heap.size]? = some c1
  rw [Array.getElem?_push, if_pos rfl]
theorem cell_at {w : World} {b : Nat} {cs : Array Value} {t : TypeId} {f : Nat × Nat} (h : w.heap[b]? = some (.cells cs t f)) (j : Nat) : w.cell? ⟨b, j, none⟩ = cs[j]? := by
  unfold World.cell?
  simp only
  rw [h]
  rfl
def cmpT (x y : Int × Int) : Int := if Lib.compareInt x.1 y.1 = 0 then Lib.compareInt x.2 y.2 else Lib.compareInt x.1 y.1
set_option maxHeartbeats 4000000 in
theorem orderT (x y : Int × Int) (W : World) : Calls Tryd.prog 18 #[.agg #[.int .i64 x.1, .int .i64 x.2], .agg #[.int .i64 y.1, .int .i64 y.2]] W fun e w' => e = .returned (.int .i64 (cmpT x y)) ∧ ∃ q os', w' = grow (W.drewN q) os' := by
  have hI := fun W' => AnyG.cmp_Compare_int cmpI9 x.1 y.1 W'
  have hS := fun W' => AnyG.cmp_Compare_int cmpL9 x.2 y.2 W'
  change ∀ W', Calls Tryd.prog 20 _ _ _ at hI
  change ∀ W', Calls Tryd.prog 21 _ _ _ at hS
  unfold cmpT
  generalize Lib.compareInt x.1 y.1 = r1 at hI ⊢
  generalize Lib.compareInt x.2 y.2 = r2 at hS ⊢
  have hO := fun b w => cmpOr9 b r1 r2 w
  generalize (if r1 = 0 then r2 else r1) = r at hO ⊢
  obtain ⟨x1, x2⟩ := x
  obtain ⟨y1, y2⟩ := y
  go_enter Tryd.func18, Tryd.ntmps18
  go_wp2_with fail
  obtain ⟨W1, hW1⟩ : ∃ W1, (W.alloc (.cells #[.int .i64 x1, .int .i64 x2] 33)).alloc (.cells #[.int .i64 y1, .int .i64 y2] 33) = W1 := ⟨_, rfl⟩
  obtain ⟨A, hA⟩ : ∃ A, W.heap.size = A := ⟨_, rfl⟩
  obtain ⟨B, hB⟩ : ∃ B, W.heap.size + 1 = B := ⟨_, rfl⟩
  rw [hW1, hB, hA]
  refine wp_region_still_tail 10 (by kernel_rfl) (by kernel_rfl) ?_
  obtain ⟨W2, hW2⟩ : ∃ W2, { W1 with drawn := W1.drawn + 1 } = W2 := ⟨_, rfl⟩
  rw [hW2]
  have d0 : W2.cell? ⟨A, 0, none⟩ = some (.int .i64 x1) := by
    refine (cell_at (w := W2) (b := A) (by rw [← hW2, ← hW1, ← hA]; exact two0 _ _ _) _).trans rfl
  have d1 : W2.cell? ⟨A, 1, none⟩ = some (.int .i64 x2) := by
    refine (cell_at (w := W2) (b := A) (by rw [← hW2, ← hW1, ← hA]; exact two0 _ _ _) _).trans rfl
  have e0 : W2.cell? ⟨B, 0, none⟩ = some (.int .i64 y1) := by
    refine (cell_at (w := W2) (b := B) (by rw [← hW2, ← hW1, ← hB]; exact two1 _ _ _) _).trans rfl
  have e1 : W2.cell? ⟨B, 1, none⟩ = some (.int .i64 y2) := by
    refine (cell_at (w := W2) (b := B) (by rw [← hW2, ← hW1, ← hB]; exact two1 _ _ _) _).trans rfl
  simp only [List.take_succ_cons, List.take_zero, List.drop_succ_cons, List.drop_zero]
  repeat still_step
  still_call (hI _)
  repeat still_step
  still_call (hS _)
  refine wpStill_nil ?_
  go_wp2_with (go_at_call 19; refine (hO _ _ ((cell_at (one9 _ _) 0).trans rfl) ((cell_at (one9 _ _) 1).trans rfl)).mono ?_; rintro e w' ⟨rfl, rfl⟩)
  go_ret
  refine ⟨rfl, 1, #[.cells #[.int .i64 x1, .int .i64 x2] 33] ++ #[.cells #[.int .i64 y1, .int .i64 y2] 33] ++ #[.cells #[.int .i64 r1, .int .i64 r2] 3], ?_⟩
  rw [← hW2, ← hW1]
  unfold grow World.drewN World.alloc
  simp only [World.mk.injEq, true_and, and_true]
  apply Array.ext'
  simp
end Go.Proofs.YtngpaokjbcjpgaaDoor
namespace Go.H
set_option linter.unusedSimpArgs false
set_option linter.unusedVariables false
open Go.RowKit Go.Sort Go.Shelf Go.Proofs
section
variable {α : Type} [Inhabited α] {enc : α → List Value} {size : Nat} {h : Heap} {R : List Asn}
theorem flatK_eq (henc : ∀ x, (enc x).length = size) (hsz : 0 < size) (d : Array α) : flatK enc size d = (d.toList.flatMap enc).toArray := by
  apply Array.ext_getElem?
  intro t
  have hlen : (d.toList.flatMap enc).length = d.size * size := by rw [flat_len henc]; simp
  by_cases ht : t < d.size * size
  · have hq : t / size < d.size := by rw [Nat.div_lt_iff_lt_mul hsz]; exact ht
    have hr : t % size < size := Nat.mod_lt _ hsz
    have h1 := get_flatK enc size d t ht
    rw [getElem!_pos _ t (by simpa using ht)] at h1
    have hx : d.toList[t / size]? = some d[t / size] := by simp [hq]
    have hv : (enc d[t / size])[t % size]? = some ((enc d[t / size])[t % size]!) := by
      rw [List.getElem?_eq_getElem (by rw [henc]; exact hr), getElem!_pos _ _ (by rw [henc]; exact hr)]
    have h2 := flat_get henc d.toList _ _ hx _ _ hv
    rw [show t / size * size + t % size = t from by rw [Nat.mul_comm]; exact Nat.div_add_mod t size] at h2
    rw [Array.getElem?_eq_getElem (by simpa using ht), h1, List.getElem?_toArray, h2, getElem!_pos d _ hq]
  · rw [Array.getElem?_eq_none (by simp; omega), List.getElem?_toArray, List.getElem?_eq_none (by omega)]
theorem sort_own (henc : ∀ x, (enc x).length = size) (hsz : 0 < size) (h1 : ∀ x, ∀ v ∈ enc x, v.oneCell' = true) {P : Program} {ρ : Ren} (L : SlLaysF0.n6 P ρ) (aE : ∀ w, (isAgg (ρ.t 24)).run P w = .ok true w) (zE : ∀ w, (Go.sizeOf (ρ.t 24)).run P w = .ok size w)
    (cf : α → α → Int) (hO : SWO (ltOf cf)) (g : Nat) (eg : ∀ args w, (callFunc g args).run P w = .ok (.enter g args) w)
    (hcmp : ∀ x y W, Calls P g #[.agg (enc x).toArray, .agg (enc y).toArray] W fun e w' => e = .returned (.int .i64 (cf x y)) ∧ ∃ q os', w' = grow (W.drewN q) os')
    {s : Slc} {xs : List α} (hs : sat h (ownS enc size s xs :: R)) (hl : xs.length < 4611686018427387904) {Q : Value → Heap → Prop}
    (hq : ∀ (ys : List α) h', ys.Perm xs → ys.Pairwise (fun a b => ltOf cf b a = false) → sat h' (ownS enc size s ys :: R) → Q (.tuple #[]) h') :
    HCalls P (ρ.f 6) #[.slice s.a s.len s.cap, .func (.func g) #[] #[]] h Q := fun w hw => by
  subst hw
  rcases ownS_cases hs with ⟨g1, g2, rfl, hs1⟩ | ⟨b, o, cs, ho, hs1⟩
  · have hs0 := hs.own_len
    rw [List.length_nil] at hs0
    rw [hs0]
    refine (AnyF.slices_SortFunc_none L s.a s.cap _ w).mono ?_
    rintro e w' ⟨rfl, rfl⟩
    exact ⟨_, rfl, ⟨rfl, rfl, rfl⟩, hq [] w'.heap (List.Perm.refl _) List.Pairwise.nil hs⟩
  · have hlen := ho.len
    have hcs := ho.csize
    have hle := ho.le
    have hmul : s.len * size ≤ s.cap * size := Nat.mul_le_mul_right _ hle
    rw [Nat.add_mul] at hcs
    have hF : flatK enc size xs.toArray = (xs.flatMap enc).toArray := flatK_eq henc hsz _
    have hsize : (xs.flatMap enc).length = s.len * size := by rw [flat_len henc, hlen]
    have hH : HoldsK enc size w b (o * size) xs.toArray := by
      unfold HoldsK Holds
      rw [hF]
      intro j hj
      have hj' : j < s.len * size := by simpa [hsize] using hj
      refine ⟨?_, hs1.free _⟩
      have h2 : w.cell? ⟨b, o * size + j, none⟩ = cs[o * size + j]? := hs1.cell _
      have h3 : ((cs.toList.drop (o * size)).take (s.len * size))[j]? = cs[o * size + j]? := by
        rw [List.getElem?_take, if_pos hj', List.getElem?_drop]
        simp
      rw [h2, ← h3, ho.front, getElem!_pos _ j hj]
      rw [List.getElem?_eq_getElem (by simpa using hj)]
      rfl
    have hblk : b < w.heap.size := hs1.cells_lt
    rw [ho.a]
    have hsl : (Value.slice (some ⟨b, o * size, none⟩) s.len s.cap) = .slice (some ⟨b, o * size, none⟩) xs.toArray.size s.cap := by rw [hlen]; rfl
    rw [hsl]
    refine (AnyQ.slices_SortFunc L size aE zE enc henc h1 cf hO g #[] b (o * size) s.cap xs.toArray w eg (fun m os dk _ x y => hcmp x y _) hH hblk (by simpa using hl)).mono ?_
    rintro e w' ⟨rfl, d', n, os, ⟨hps, -, hpp⟩, hsrt, rfl⟩
    have hperm : d'.toList.Perm xs := by
      rw [Array.extract_eq_self_of_le (by omega), Array.extract_eq_self_of_le (by omega)] at hpp
      exact hpp
    refine ⟨_, rfl, ⟨rfl, rfl, rfl⟩, hq d'.toList _ hperm ?_ ?_⟩
    · rw [List.pairwise_iff_getElem]
      intro i j hi hj hij
      have hi' : i < d'.size := by simpa using hi
      have hj' : j < d'.size := by simpa using hj
      have := hsrt i j (Nat.zero_le _) hij (by omega)
      rw [getElem!_pos d' i hi', getElem!_pos d' j hj'] at this
      simpa using this
    · have hF' : flatK enc size d' = (d'.toList.flatMap enc).toArray := flatK_eq henc hsz _
      have hsize' : (d'.toList.flatMap enc).length = s.len * size := by rw [flat_len henc, hlen, hperm.length_eq]
      obtain ⟨T, hb⟩ := cells_iff.1 hs1
      have hget := hb.get
      have hs2 : sat (putRowK enc size (Sort.ahead w n) b (o * size) d').heap (blk b (.cells (putCells id (o * size) (flatK enc size d') cs) T (0, 0)) :: R) := by
        refine hb.turn ?_ fun k hk => ?_
        · show (w.heap.modify b _)[b]? = _
          rw [Array.getElem?_modify, if_pos rfl, hget]
          rfl
        · show (w.heap.modify b _)[k]? = _
          rw [Array.getElem?_modify, if_neg (fun e => hk e.symm)]
      have hs3 : sat (sortWorldK enc size w b (o * size) n d' os).heap (blk b (.cells (putCells id (o * size) (flatK enc size d') cs) T (0, 0)) :: R) := by
        refine hs2.grow fun k ob hk => ?_
        show ((putRowK enc size (Sort.ahead w n) b (o * size) d').heap ++ os)[k]? = some ob
        rw [Array.getElem?_append_left (Array.getElem?_eq_some_iff.1 hk).1]
        exact hk
      refine ownS_mk (b := b) (o := o) ⟨ho.a, ho.le, by rw [hlen, hperm.length_eq], ?_, ?_⟩ (cells_iff.2 ⟨T, hs3⟩)
      · rw [Nat.add_mul]
        simpa [putCells] using hcs
      · rw [hF']
        apply List.ext_getElem?
        intro j
        by_cases hj : j < s.len * size
        · rw [List.getElem?_take, if_pos hj, List.getElem?_drop, Array.getElem?_toList, putCells, Array.getElem?_mapIdx]
          have hlt : o * size + j < cs.size := by omega
          rw [Array.getElem?_eq_getElem hlt]
          simp only [Option.map_some]
          rw [if_pos ⟨by omega, by simp [hsize']; omega⟩, Nat.add_sub_cancel_left]
          rw [getElem!_pos _ j (by simpa [hsize'] using hj), List.getElem?_eq_getElem (by omega)]
          rfl
        · rw [List.getElem?_take, if_neg hj, List.getElem?_eq_none (by omega)]
end
end Go.H
namespace Go.Proofs.YtngpaokjbcjpgaaDoor
open Go.H Go.Proofs Go.Shelf Go.Sort Go.RowKit
set_option linter.unusedSimpArgs false
set_option linter.unusedVariables false
set_option maxRecDepth 100000
def sortT_ren : Go.Shelf.Ren := ⟨fun n => match n with | 6 => 27 | 15 => 38 | 14 => 37 | 28 => 53 | 29 => 54 | 20 => 45 | 21 => 46 | 22 => 47 | 23 => 48 | 24 => 49 | 25 => 50 | 26 => 51 | 27 => 52 | 46 => 61 | 47 => 62 | 48 => 63 | 49 => 64 | 50 => 65 | 57 => 68 | n => n, fun n => match n with | 22 => 43 | 24 => 33 | 25 => 60 | 3 => 3 | 39 => 82 | 0 => 0 | 53 => 99 | 55 => 85 | 4 => 4 | 46 => 92 | 45 => 91 | 50 => 96 | 5 => 5 | 9 => 9 | 66 => 107 | 70 => 111 | 76 => 113 | 77 => 114 | n => n, fun n => n⟩
theorem sortT : SlLaysF0.n6 Tryd.prog sortT_ren where
  mixed := by kernel_rfl
  f6 := ⟨Tryd.f27.name, by kernel_rfl, Tryd.func27.trans (congrArg some (by kernel_rfl))⟩
  f14 := ⟨Tryd.f37.name, by kernel_rfl, Tryd.func37.trans (congrArg some (by kernel_rfl))⟩
  f15 := Tryd.func38.trans (congrArg some (by kernel_rfl))
  f20 := ⟨Tryd.f45.name, by kernel_rfl, Tryd.func45.trans (congrArg some (by kernel_rfl))⟩
  f21 := ⟨Tryd.f46.name, by kernel_rfl, Tryd.func46.trans (congrArg some (by kernel_rfl))⟩
  f22 := ⟨Tryd.f47.name, by kernel_rfl, Tryd.func47.trans (congrArg some (by kernel_rfl))⟩
  f23 := ⟨Tryd.f48.name, by kernel_rfl, Tryd.func48.trans (congrArg some (by kernel_rfl))⟩
  f24 := ⟨Tryd.f49.name, by kernel_rfl, Tryd.func49.trans (congrArg some (by kernel_rfl))⟩
  f25 := ⟨Tryd.f50.name, by kernel_rfl, Tryd.func50.trans (congrArg some (by kernel_rfl))⟩
  f26 := ⟨Tryd.f51.name, by kernel_rfl, Tryd.func51.trans (congrArg some (by kernel_rfl))⟩
  f27 := ⟨Tryd.f52.name, by kernel_rfl, Tryd.func52.trans (congrArg some (by kernel_rfl))⟩
  f28 := Tryd.func53.trans (congrArg some (by kernel_rfl))
  f29 := Tryd.func54.trans (congrArg some (by kernel_rfl))
  f46 := ⟨Tryd.f61.name, by kernel_rfl, Tryd.func61.trans (congrArg some (by kernel_rfl))⟩
  f47 := Tryd.func62.trans (congrArg some (by kernel_rfl))
  f48 := Tryd.func63.trans (congrArg some (by kernel_rfl))
  f49 := ⟨Tryd.f64.name, by kernel_rfl, Tryd.func64.trans (congrArg some (by kernel_rfl))⟩
  f50 := ⟨Tryd.f65.name, by kernel_rfl, Tryd.func65.trans (congrArg some (by kernel_rfl))⟩
  f57 := ⟨Tryd.f68.name, by kernel_rfl, Tryd.func68.trans (congrArg some (by kernel_rfl))⟩
  t0 := Tryd.underlying0
  a0 := Tryd.isAgg0
  z0 := Tryd.sizeOf0
  v0 := Tryd.zeroValue0
  t3 := Tryd.underlying3
  a3 := Tryd.isAgg3
  z3 := Tryd.sizeOf3
  v3 := Tryd.zeroValue3
  t4 := Tryd.underlying4
  a4 := Tryd.isAgg4
  z4 := Tryd.sizeOf4
  v4 := Tryd.zeroValue4
  t5 := Tryd.underlying5
  a5 := Tryd.isAgg5
  z5 := Tryd.sizeOf5
  v5 := Tryd.zeroValue5
  t9 := Tryd.underlying9
  a9 := Tryd.isAgg9
  z9 := Tryd.sizeOf9
  v9 := Tryd.zeroValue9
  t22 := Tryd.underlying43
  a22 := Tryd.isAgg43
  z22 := Tryd.sizeOf43
  v22 := Tryd.zeroValue43
  t25 := Tryd.underlying60
  a25 := Tryd.isAgg60
  z25 := Tryd.sizeOf60
  v25 := Tryd.zeroValue60
  t39 := Tryd.underlying82
  a39 := Tryd.isAgg82
  z39 := Tryd.sizeOf82
  v39 := Tryd.zeroValue82
  t45 := Tryd.underlying91
  a45 := Tryd.isAgg91
  z45 := Tryd.sizeOf91
  v45 := Tryd.zeroValue91
  t46 := Tryd.underlying92
  a46 := Tryd.isAgg92
  z46 := Tryd.sizeOf92
  v46 := Tryd.zeroValue92
  t50 := Tryd.underlying96
  a50 := Tryd.isAgg96
  z50 := Tryd.sizeOf96
  v50 := Tryd.zeroValue96
  t53 := Tryd.underlying99
  a53 := Tryd.isAgg99
  z53 := Tryd.sizeOf99
  v53 := Tryd.zeroValue99
  t55 := Tryd.underlying85
  a55 := Tryd.isAgg85
  z55 := Tryd.sizeOf85
  v55 := Tryd.zeroValue85
  t66 := Tryd.underlying107
  a66 := Tryd.isAgg107
  z66 := Tryd.sizeOf107
  v66 := Tryd.zeroValue107
  t70 := Tryd.underlying111
  a70 := Tryd.isAgg111
  z70 := Tryd.sizeOf111
  v70 := Tryd.zeroValue111
  t76 := Tryd.underlying113
  a76 := Tryd.isAgg113
  z76 := Tryd.sizeOf113
  v76 := Tryd.zeroValue113
  t77 := Tryd.underlying114
  a77 := Tryd.isAgg114
  z77 := Tryd.sizeOf114
  v77 := Tryd.zeroValue114
theorem cmpInt_iff (a b : Int) : (Lib.compareInt a b < 0 ↔ a < b) ∧ (Lib.compareInt a b = 0 ↔ a = b) := by
  unfold Lib.compareInt
  by_cases h1 : a < b
  · rw [if_pos h1]; constructor <;> constructor <;> intro _ <;> omega
  · rw [if_neg h1]
    by_cases h2 : b < a
    · rw [if_pos h2]; constructor <;> constructor <;> intro _ <;> omega
    · rw [if_neg h2]; constructor <;> constructor <;> intro _ <;> omega
def ltT (x y : TagT) : Prop := x.1 < y.1 ∨ (x.1 = y.1 ∧ x.2 < y.2)
instance (x y : TagT) : Decidable (ltT x y) := by unfold ltT; infer_instance
theorem ltT_iff (x y : TagT) : ltOf cmpT x y = decide (ltT x y) := by
  unfold ltOf
  rw [decide_eq_decide]
  unfold cmpT ltT
  have h1 := cmpInt_iff x.1 y.1
  have h2 := cmpInt_iff x.2 y.2
  by_cases h0 : Lib.compareInt x.1 y.1 = 0
  · rw [if_pos h0, h2.1]
    have e := h1.2.1 h0
    constructor
    · intro h; exact .inr ⟨e, h⟩
    · rintro (h | ⟨_, h⟩)
      · omega
      · exact h
  · rw [if_neg h0, h1.1]
    constructor
    · intro h; exact .inl h
    · rintro (h | ⟨e, _⟩)
      · exact h
      · exact absurd (h1.2.2 e) h0
theorem swoT : SWO (ltOf cmpT) where
  irrefl x := by rw [ltT_iff]; simp [ltT]
  trans x y z h1 h2 := by
    rw [ltT_iff, decide_eq_true_eq] at *
    unfold ltT at *
    omega
  ntrans x y z h1 h2 := by
    rw [ltT_iff, decide_eq_false_iff_not] at *
    unfold ltT at *
    omega
instance : Inhabited TagT := ⟨(0, 0)⟩
theorem eT2_cell (x : TagT) : ∀ v ∈ eT2 x, v.oneCell' = true := by
  intro v hv
  simp at hv
  rcases hv with rfl | rfl <;> rfl
theorem SortT_spec {h : Heap} {R : List Asn} {s : Slc} {es : List TagT} (hs : sat h (ownS eT2 2 s es :: R)) (hl : es.length ≤ 100000) {Q : Value → Heap → Prop}
    (hq : ∀ (ys : List TagT) h', ys.Perm es → ys.Pairwise (fun a b => ¬ ltT b a) → sat h' (ownS eT2 2 s ys :: R) → Q (.tuple #[]) h') :
    HCalls Tryd.prog 27 #[.slice s.a s.len s.cap, .func (.func 18) #[] #[]] h Q :=
  sort_own eT2_len (by decide) eT2_cell sortT Tryd.isAgg33 Tryd.sizeOf33 cmpT swoT 18 (enters_of Tryd.func18 (by kernel_rfl) rfl) (fun x y W => orderT x y W) hs (by omega) fun ys h' hp hpw hs' =>
    hq ys h' hp (hpw.imp fun {a b} hab => by rw [ltT_iff, decide_eq_false_iff_not] at hab; exact hab) hs'
set_option maxHeartbeats 1000000 in
theorem keysT_in (F : Fence) (n : Nat) (h17 : F.fn 17) (hro : F.round = none) (mb : Option Nat) (w : World) :
    CallsIn F n Tryd.prog 17 #[.map mb] w fun e w' => e = .returned (.func (.func 28) #[] #[.pointer (some ⟨w.heap.size, 0, none⟩)]) ∧ w' = w.alloc (.cells #[.map mb] 46) := by
  refine callsIn_of_wp Tryd.func17 rfl h17 ?_ hro
  simp only [Tryd.ntmps17, List.size_toArray, List.length_cons, List.length_nil, Nat.reduceAdd, Nat.reduceSub, Array.replicate_succ, Array.replicate_zero, List.push_toArray, List.append_toArray, List.nil_append, List.cons_append]
  gi_wp2
  go_ret
  exact ⟨rfl, rfl⟩
theorem keysT_call {h : Heap} (m : Option Nat) {Q : Value → Heap → Prop} (hq : Q (.func (.func 28) #[] #[.pointer (some ⟨h.size, 0, none⟩)]) (h.push (.cells #[.map m] 46))) :
    HCalls Tryd.prog 17 #[.map m] h Q := fun w hw => by
  subst hw
  refine (callsIn_wide (n := 5)).1 ((keysT_in Fence.wide 5 trivial rfl m w).mono ?_)
  rintro e w' ⟨rfl, rfl⟩
  exact ⟨_, rfl, ⟨rfl, rfl, rfl⟩, hq⟩
theorem appT_call {h : Heap} {R : List Asn} {b bm : Nat} {l : List (TagT × Bool)} (hs : sat h (mapA e2 evBt b l :: R)) (hl : l.length * 16 ≤ 140737488355328) (hc : cellH h ⟨bm, 0, none⟩ = some (.map (some b))) {Q : Value → Heap → Prop}
    (hq : ∀ (s : Slc) (ss : List TagT) h', ss.Perm (l.map (·.1)) → sat h' (ownS eT2 2 s ss :: mapA e2 evBt b l :: R) → Q (.slice s.a s.len s.cap) h') :
    HCalls Tryd.prog 36 #[.slice none 0 0, .func (.func 28) #[] #[.pointer (some ⟨bm, 0, none⟩)]] h Q := fun w hw' => by
  subst hw'
  have hmax : l.length ≤ maxLen := by unfold maxLen; omega
  obtain ⟨es, c, ⟨he, hst⟩, hs1⟩ := mapA_iff.1 hs
  have hbm : bm < w.heap.size := by
    unfold cellH at hc
    cases hx : w.heap[bm]? with
    | none => simp [hx] at hc
    | some o => exact (Array.getElem?_eq_some_iff.1 hx).1
  have hb := hs1.get
  have hbl : b < w.heap.size := (Array.getElem?_eq_some_iff.1 hb).1
  have hseq : SeqGives Fence.wide 4 Tryd.prog 28 #[.pointer (some ⟨bm, 0, none⟩)] e2 (fun ss => ss.Perm (l.map (·.1))) l.length w := fun l0 J W hW hJ hY h0 =>
    keys1T Fence.wide 4 trivial rfl (by omega) l0 bm b l es c J hY W hJ ((hW.cell (p := ⟨bm, 0, none⟩) hbm).trans hc) ((hW.block b hbl).trans hb) he hst h0
  have cS := appendSeqT Fence.wide 5 trivial rfl (by omega) 28 #[.pointer (some ⟨bm, 0, none⟩)] trivial (enters_of Tryd.func28 (by kernel_rfl) rfl) _ _ hmax hl w hseq
  refine ((callsIn_wide).1 cS).mono ?_
  rintro e w' ⟨v, ss, rfl, hS, hrow, hbw⟩
  obtain ⟨s, rfl, hs'⟩ := own_of_row hrow rfl hs (below_grow hbw) (Nat.le_refl _)
  exact ⟨_, rfl, below_same hbw, hq s ss _ hS hs'⟩
theorem List_spec {h : Heap} {R : List Asn} {b : Nat} {most : Int} {l : List TagT} (hs : sat h (setA b most l :: R)) (hl : l.length ≤ 100000) {Q : Value → Heap → Prop}
    (hq : ∀ (s : Slc) (ys : List TagT) h', ys.Perm l → ys.Pairwise (fun a b => ¬ ltT b a) → sat h' (ownS eT2 2 s ys :: setA b most l :: R) → Q (.slice s.a s.len s.cap) h') :
    HCalls Tryd.prog 12 #[at0 b] h Q := by
  refine tags_Set_List_calls (some ⟨b, 0, none⟩) h Q ?_
  unfold tags_Set_List
  obtain ⟨m, hs⟩ := setA_iff.1 hs
  have c1 : cellH h ⟨b, 1, none⟩ = some (.map (some m)) := hs.cell 1
  (try dsimp only); rw [HM.ite_apply, if_neg (by simp)]
  refine ⟨_, rfl, some m, by rw [add_own]; exact c1, ?_⟩
  refine bind_call1 (keysT_call (some m) ⟨_, rfl, ?_⟩)
  have hs1 := hs.push_cells (T := 46) (cs := #[.map (some m)])
  generalize h.size = bm at hs1 ⊢
  generalize h.push (.cells #[.map (some m)] 46) = h1 at hs1 ⊢
  dsimp only
  refine bind_call1 (slices_SortedFunc_calls _ _ _ _ ?_)
  unfold slices_SortedFunc
  refine bind_call1 (slices_Collect_calls _ _ _ ?_)
  unfold slices_Collect
  refine bind_call1 (appT_call (bm := bm) (b := m) (l := setM l) (hs1.re [2, 0, 1]) (by rw [allM_len]; omega) (hs1.cell 0) fun s ss h2 hp hs2 => ⟨s, rfl, ?_⟩)
  dsimp only
  refine ⟨s, rfl, ?_⟩
  have hpl : ss.Perm l := by
    refine hp.trans ?_
    show (List.map (·.1) (List.map (fun k => (k, true)) l)).Perm l
    rw [List.map_map]
    simp [Function.comp_def]
  refine bind_callN (SortT_spec hs2 (by rw [hpl.length_eq]; omega) fun ys h3 hp3 hpw hs3 => ⟨(), rfl, ?_⟩)
  refine ⟨s, rfl, ?_⟩
  have hs4 : sat h3 (ownS eT2 2 s ys :: mapA e2 evBt m (setM l) :: cells bm #[.map (some m)] :: cells b #[.int .i64 most, .map (some m)] :: R) := hs3
  exact hq s ys h3 (hp3.trans hpl) hpw (sat.p1 (setA_iff.2 ⟨m, (hs4.re [2, 0, 1, 3]).drop.re [2, 1, 0]⟩))
end Go.Proofs.YtngpaokjbcjpgaaDoor
namespace Go.H
set_option linter.unusedSimpArgs false
set_option linter.unusedVariables false
section
variable {α β γ σ τ : Type} {h : Heap} {s : σ}
theorem loop_k {body : σ → HM (σ ⊕ τ)} {Q : τ → Heap → Prop} (J : γ → σ → Heap → Prop) (μ : γ → Nat) (g : γ) (h0 : J g s h)
    (hr : ∀ g s h, J g s h → ∀ K : σ ⊕ τ → Heap → Prop, (∀ g' s' h', μ g' < μ g → J g' s' h' → K (.inl s') h') → (∀ t h', Q t h' → K (.inr t) h') → body s h K) : HM.loop body s h Q := by
  classical
  have hex : ∀ (s : σ) (h : Heap), (∃ g, J g s h) → ∃ n, ∃ g, J g s h ∧ μ g = n := fun s h ⟨g, hg⟩ => ⟨μ g, g, hg, rfl⟩
  have key : ∀ (n : Nat) (s : σ) (h : Heap), (∃ g, J g s h ∧ μ g = n) → ∃ m, (∃ g, J g s h ∧ μ g = m) ∧ ∀ g, J g s h → m ≤ μ g := by
    intro n
    induction n using Nat.strongRecOn with
    | _ n ih =>
      intro s h hn
      by_cases hl : ∃ g, J g s h ∧ μ g < n
      · obtain ⟨g, hg, hlt⟩ := hl
        exact ih _ hlt s h ⟨g, hg, rfl⟩
      · exact ⟨n, hn, fun g hg => by
          rcases Nat.lt_or_ge (μ g) n with h1 | h1
          · exact absurd ⟨g, hg, h1⟩ hl
          · exact h1⟩
  refine ⟨fun s h => ∃ g, J g s h, fun s h => if hh : ∃ m, (∃ g, J g s h ∧ μ g = m) ∧ ∀ g, J g s h → m ≤ μ g then Classical.choose hh else 0, ⟨g, h0⟩, ?_⟩
  intro s h hi
  obtain ⟨n, hn⟩ := hex s h hi
  have hm := key n s h hn
  obtain ⟨⟨g, hg, hgm⟩, hmin⟩ := Classical.choose_spec hm
  refine hr g s h hg _ (fun g' s' h' hlt hJ => ?_) (fun t h' hq => hq)
  refine ⟨⟨g', hJ⟩, ?_⟩
  have hm' := key (μ g') s' h' ⟨g', hJ, rfl⟩
  have h2 := (Classical.choose_spec hm').2 g' hJ
  simp only [dif_pos hm', dif_pos hm]
  omega
theorem loop_for {c : σ → Bool} {B E : σ → HM (σ ⊕ τ)} {Q : τ → Heap → Prop} (n : Nat) (J : Nat → σ → Heap → Prop) (h0 : J 0 s h) (hc : ∀ i s h, i ≤ n → J i s h → c s = decide (i < n))
    (hE : ∀ s h, J n s h → ∀ K : σ ⊕ τ → Heap → Prop, (∀ t h', Q t h' → K (.inr t) h') → E s h K)
    (hB : ∀ i s h, i < n → J i s h → ∀ K : σ ⊕ τ → Heap → Prop, (∀ s' h', J (i + 1) s' h' → K (.inl s') h') → (∀ t h', Q t h' → K (.inr t) h') → B s h K) :
    HM.loop (fun s => HM.ite (c s) (B s) (E s)) s h Q := by
  refine loop_k (fun i s h => i ≤ n ∧ J i s h) (fun i => n - i) 0 ⟨Nat.zero_le _, h0⟩ ?_
  rintro i s h ⟨hi, hJ⟩ K h1 h2
  rw [HM.ite_apply, hc i s h hi hJ]
  by_cases hlt : i < n
  · rw [if_pos (by simpa using hlt)]
    exact hB i s h hlt hJ K (fun s' h' hJ' => h1 (i + 1) s' h' (by omega) ⟨hlt, hJ'⟩) h2
  · have : i = n := by omega
    subst this
    rw [if_neg (by simp)]
    exact hE s h hJ K h2
variable {KT V : Type} {ek : KT → Value} {ev : V → Value} {m it : Nat} {l : List (KT × V)}
end
end Go.H
namespace Go.H
set_option linter.unusedSimpArgs false
set_option linter.unusedVariables false
def At (L : List Asn) (q : Heap → Prop) : Prop := ∀ h, sat h L → q h
def W {α : Type} (L : List Asn) (m : HM α) (Q : α → Heap → Prop) : Prop := ∀ h, sat h L → m h Q
def FW (P : Program) (f : FuncId) (args : Array Value) (L : List Asn) (Q : Value → Heap → Prop) : Prop := ∀ h, sat h L → HCalls P f args h Q
def Has (L : List Asn) (A : Asn) (L' : List Asn) : Prop := ∀ m, stars L m → stars (A :: L') m
def Sub (L L' : List Asn) : Prop := ∀ m, stars L m → stars L' m
class Enc {α : Type} (enc : α → List Value) (size : outParam Nat) : Prop where
  len : ∀ x, (enc x).length = size
  cell : ∀ x, ∀ v ∈ enc x, v.oneCell' = true
  pos : 0 < size
section
variable {A B C D E F : Asn} {L L1 L2 L3 L4 L5 L6 L' R : List Asn} {h : Heap}
theorem nbq {α : Type} [BEq α] [LawfulBEq α] (a : α) : (!(a == a)) = false := by simp
theorem has0 : Has (A :: L) A L := fun _ hs => hs
theorem hasS (hx : Has L A L') : Has (B :: L) A (B :: L') := fun _ hs => stars_swap (star_mono (fun _ h => h) hx hs)
theorem Sub.rfl : Sub L L := fun _ hs => hs
theorem Sub.nil : Sub L [] := fun _ _ => trivial
theorem Sub.drop (hr : Sub L R) : Sub (A :: L) R := fun m hs => by
  obtain ⟨a, b, hd, rfl, ha, hb⟩ := hs
  exact stars_append.up R (a.join b) b (fun k o ho => join_right hd ho) (hr b hb)
theorem Sub.cons (hx : Has L A L1) (hr : Sub L1 R) : Sub L (A :: R) := fun m hs => star_mono (fun _ h => h) hr (hx m hs)
theorem Has.s (hx : Has L A L') (hs : sat h L) : sat h (A :: L') := let ⟨m, h1, h2⟩ := hs; ⟨m, h1, hx m h2⟩
theorem Sub.s (hx : Sub L L') (hs : sat h L) : sat h L' := let ⟨m, h1, h2⟩ := hs; ⟨m, h1, hx m h2⟩
theorem Has.then (hx : Has L A L1) (hy : Has L1 B L2) : Sub L (A :: B :: L2) := fun m hs => star_mono (fun _ h => h) hy (hx m hs)
variable {α β : Type} {m : HM α} {Q : α → Heap → Prop} {q : Heap → Prop} {p : Prop}
theorem At.sub (hq : At L' q) (hs : Sub L L' := by repeat (first | with_reducible exact Go.H.Sub.rfl | with_reducible exact Go.H.Sub.nil | refine Go.H.Sub.cons (by repeat (first | with_reducible exact Go.H.has0 | apply Go.H.hasS)) ?_ | refine Go.H.Sub.drop ?_)) : At L q := fun h h1 => hq h (hs.s h1)
theorem W.sub (hq : W L' m Q) (hs : Sub L L' := by repeat (first | with_reducible exact Go.H.Sub.rfl | with_reducible exact Go.H.Sub.nil | refine Go.H.Sub.cons (by repeat (first | with_reducible exact Go.H.has0 | apply Go.H.hasS)) ?_ | refine Go.H.Sub.drop ?_)) : W L m Q := fun h h1 => hq h (hs.s h1)
theorem W.opn {X : Type} {g : X → List Asn → List Asn} (hf : ∀ h R, sat h (A :: R) → ∃ x, sat h (g x R)) (hw : ∀ x, W (g x L') m Q) (hx : Has L A L' := by repeat (first | with_reducible exact Go.H.has0 | apply Go.H.hasS)) : W L m Q := fun h hs => by
  obtain ⟨x, h1⟩ := hf h L' (hx.s hs)
  exact hw x h h1
theorem W.fact (hf : ∀ h R, sat h (A :: R) → p) (hw : p → W L m Q) (hx : Has L A L' := by repeat (first | with_reducible exact Go.H.has0 | apply Go.H.hasS)) : W L m Q := fun h hs => hw (hf h L' (hx.s hs)) h hs
theorem W.cls2 (mk : ∀ h, sat h (B :: C :: L2) → sat h (A :: L2)) (hw : W (A :: L2) m Q) (hb : Has L B L1 := by repeat (first | with_reducible exact Go.H.has0 | apply Go.H.hasS)) (hc : Has L1 C L2 := by repeat (first | with_reducible exact Go.H.has0 | apply Go.H.hasS)) : W L m Q := fun h hs => hw h (mk h ((hb.then hc).s hs))
variable {f : α → HM β} {Q' : β → Heap → Prop} {b : Bool} {x y : HM β}
theorem W.pure {a : α} (hq : At L (Q a)) : W L (HM.pure a) Q := hq
theorem W.ite (ht : b = true → W L x Q') (hf : b = false → W L y Q') : W L (HM.ite b x y) Q' := fun h hs => by
  rw [HM.ite_apply]; cases b
  · exact hf (Eq.refl _) h hs
  · exact ht (Eq.refl _) h hs
theorem W.tt (hb : b = true) (hw : W L x Q') : W L (HM.ite b x y) Q' := by subst hb; exact hw
theorem W.ff (hb : b = false) (hw : W L y Q') : W L (HM.ite b x y) Q' := by subst hb; exact hw
theorem W.req (hw : W L x Q') (hp : p) : W L (HM.req p x) Q' := fun h hs => ⟨hp, hw h hs⟩
theorem W.inl {γ δ : Type} {u : γ → HM β} {v : δ → HM β} {a : γ} (hw : W L (u a) Q') : W L (Sum.elim u v (Sum.inl a)) Q' := hw
theorem W.inr {γ δ : Type} {u : γ → HM β} {v : δ → HM β} {a : δ} (hw : W L (v a) Q') : W L (Sum.elim u v (Sum.inr a)) Q' := hw
theorem W.nonnil {a : Addr} {f : Addr → HM β} (hw : W L (f a) Q') : W L (HM.bind (HM.nonnil (some a)) f) Q' := fun h hs => by rw [HM.bind_apply, HM.nonnil_some]; exact hw h hs
theorem W.cutp (p : α → Prop) (P : α → List Asn) (h1 : ∀ K : α → Heap → Prop, (∀ a, p a → At (P a) (K a)) → W L m K) (h2 : ∀ a, p a → W (P a) (f a) Q') : W L (HM.bind m f) Q' := fun h hs => h1 (fun a h' => f a h' Q') (fun a hp h' hs' => h2 a hp h' hs') h hs
theorem W.cutk (p : α → Prop) (h1 : ∀ K : α → Heap → Prop, (∀ a, p a → At L (K a)) → W L m K) (h2 : ∀ a, p a → W L (f a) Q') : W L (HM.bind m f) Q' := W.cutp p (fun _ => L) h1 h2
theorem W.newc {f : Nat → HM β} {cs : Array Value} {T : TypeId} (hw : ∀ b, W (cells b cs :: L) (f b) Q') : W L (HM.bind (HM.new (.cells cs T)) f) Q' := fun h hs => new_cells hs fun b h' hs' => hw b h' hs'
theorem W.load {t : Tag} {b i : Nat} {cs : Array Value} {v : t.ty} {f : t.ty → HM β} (hw : W L (f v) Q') (hx : Has L (cells b cs) L' := by repeat (first | with_reducible exact Go.H.has0 | apply Go.H.hasS)) (hv : (cs[i]?).bind t.get = some v := by rfl) : W L (HM.bind (HM.load1 t (Addr.add ⟨b, 0, none⟩ i)) f) Q' := fun h hs => by
  refine ⟨v, ?_, hw h hs⟩
  rw [add_own, (hx.s hs).cell i]
  cases hc : cs[i]? with
  | none => rw [hc] at hv; cases hv
  | some u => rw [hc] at hv; exact congrArg some (Tag.get_val hv)
theorem W.loadN {ts : List Tag} {b : Nat} {cs : Array Value} {v : Tup ts} {f : Tup ts → HM β} (hw : W L (f v) Q') (hx : Has L (cells b cs) L' := by repeat (first | with_reducible exact Go.H.has0 | apply Go.H.hasS)) (hv : Tup.get ts cs.toList = some v := by rfl) : W L (HM.bind (HM.loadN ts ⟨b, 0, none⟩) f) Q' := fun h hs =>
  loadN_cells v (hx.s hs) (Array.toList_inj.1 (Tup.get_vals ts _ v hv)) (hw h hs)
theorem W.storex {a : Addr} {b i : Nat} {cs cs' : Array Value} {v : Value} {f : Unit → HM β} (hw : W (Go.H.cells b cs' :: L') (f ()) Q') (ha : a = ⟨b, i, none⟩ := by rfl) (hx : Has L (Go.H.cells b cs) L' := by repeat (first | with_reducible exact Go.H.has0 | apply Go.H.hasS)) (hc : (if i < cs.size then cs.toList.set i v else []) = cs'.toList := by rfl) (hn : 0 < cs'.size := by exact Nat.zero_lt_succ _) (hv : v.oneCell' = true := by rfl) : W L (HM.bind (HM.store1 a v) f) Q' := fun h hs => by
  subst ha
  rw [HM.bind_apply]
  by_cases hi : i < cs.size
  · rw [if_pos hi] at hc
    refine store1_cells (hx.s hs) hi hv fun h' hs' => hw h' ?_
    have : cs' = cs.setIfInBounds i v := by
      apply Array.toList_inj.1; rw [← hc, Array.toList_setIfInBounds]
    rw [this]; exact hs'
  · rw [if_neg hi] at hc
    have := congrArg List.length hc
    simp at this
    omega
theorem W.store {b i : Nat} {cs cs' : Array Value} {v : Value} {f : Unit → HM β} (hw : W (cells b cs' :: L') (f ()) Q') (hx : Has L (cells b cs) L' := by repeat (first | with_reducible exact Go.H.has0 | apply Go.H.hasS)) (hc : (if i < cs.size then cs.toList.set i v else []) = cs'.toList := by rfl) (hn : 0 < cs'.size := by exact Nat.zero_lt_succ _) (hv : v.oneCell' = true := by rfl) : W L (HM.bind (HM.store1 (Addr.add ⟨b, 0, none⟩ i) v) f) Q' := fun h hs => by
  rw [HM.bind_apply, add_own]
  by_cases hi : i < cs.size
  · rw [if_pos hi] at hc
    refine store1_cells (hx.s hs) hi hv fun h' hs' => hw h' ?_
    have : cs' = cs.setIfInBounds i v := by
      apply Array.toList_inj.1; rw [← hc, Array.toList_setIfInBounds]
    rw [this]; exact hs'
  · rw [if_neg hi] at hc
    have := congrArg List.length hc
    simp at this
    omega
theorem W.storeN {b : Nat} {cs : Array Value} {vs : List Value} {f : Unit → HM β} (hw : W (cells b vs.toArray :: L') (f ()) Q') (hx : Has L (cells b cs) L' := by repeat (first | with_reducible exact Go.H.has0 | apply Go.H.hasS)) (hl : vs.length = cs.size := by rfl) (hv : vs.all (fun v => v.oneCell') = true := by rfl) : W L (HM.bind (HM.storeN ⟨b, 0, none⟩ vs) f) Q' := fun h hs =>
  storeN_all' (hx.s hs) hl hv fun h' hs' => hw h' hs'
theorem W.cells {b : Nat} {cs : Array Value} (cs' : Array Value) (hw : W (cells b cs' :: L') m Q) (hx : Has L (Go.H.cells b cs) L' := by repeat (first | with_reducible exact Go.H.has0 | apply Go.H.hasS)) (hc : cs = cs' := by rfl) : W L m Q := by subst hc; exact W.sub hw (fun m hs => hx m hs)
theorem W.call1 {P : Program} {k : Kind} {fn : FuncId} {args : Array Value} {f : k.ty → HM β} (hc : FW P fn args L (k.un fun x h' => f x h' Q')) : W L (HM.bind (HM.call1 P k fn args) f) Q' := hc
theorem W.callN {P : Program} {ks : List Kind} {fn : FuncId} {args : Array Value} {f : KTup ks → HM β} (hc : FW P fn args L (KTup.un ks fun x h' => f x h' Q')) : W L (HM.bind (HM.callN P ks fn args) f) Q' := hc
theorem At.un {k : Kind} {v : Value} {x : k.ty} {f : k.ty → HM β} (hw : W L (f x) Q') (hv : k.get v = some x := by rfl) : At L (k.un (fun x h' => f x h' Q') v) := fun h hs => ⟨x, Kind.get_val hv, hw h hs⟩
def unT (v : Value) : List Value := match v with | .tuple a => a.toList | _ => []
def isT (v : Value) : Bool := match v with | .tuple a => true | _ => false
theorem At.unN {ks : List Kind} {v : Value} {x : KTup ks} {f : KTup ks → HM β} (hw : W L (f x) Q') (hv : KTup.get ks (unT v) = some x := by rfl) (ht : isT v = true := by rfl) : At L (KTup.un ks (fun x h' => f x h' Q') v) := fun h hs => by
  refine ⟨x, ?_, hw h hs⟩
  cases v with
  | tuple a => exact congrArg Value.tuple (Array.toList_inj.1 (KTup.get_vals ks _ x hv))
  | _ => cases ht
section
variable {γ : Type} {enc : γ → List Value} {size : Nat} {s : Slc} {xs : List γ} {h0 : Heap}
def El (s : Slc) (size i : Nat) (a : Addr) : Prop := ∃ x, s.a = some x ∧ a = x.add (i * size)
def ElO (h0 : Heap) (l : List Value) (a : Addr) : Prop := ∀ j v, l[j]? = some v → cellH h0 (a.add j) = some v
theorem El.row (hr : RowAt enc size h0 s xs) {i : Nat} {x : γ} (hi : xs[i]? = some x) {a : Addr} (ha : El s size i a) : ElO h0 (enc x) a := by
  obtain ⟨y, h1, rfl⟩ := ha
  obtain ⟨a, h2, h3⟩ := hr.2.2 i x hi
  rw [h1] at h2
  cases h2
  exact h3
theorem W.idx {i : Nat} {e : Int} {f : Addr → HM β} (hi : i < xs.length) (hw : ∀ a, El s size i a → W L (f a) Q') (hx : Has L (ownS enc size s xs) L' := by repeat (first | with_reducible exact Go.H.has0 | apply Go.H.hasS)) (he : e = (i : Int) := by rfl) [Enc enc size] : W L (HM.bind (HM.idx s.a s.len e size) f) Q' := fun h hs => by
  have hr := (hx.s hs).own_row (Enc.len (enc := enc))
  obtain ⟨a, ha, hc⟩ := hr.2.2 i _ (List.getElem?_eq_getElem hi)
  refine ⟨a, ha, by omega, by have := hr.1; omega, ?_⟩
  subst he
  exact hw _ ⟨a, ha, by rw [Int.toNat_natCast]⟩ h hs
theorem W.idxo {i : Nat} {e : Int} {f : Addr → HM β} (hr : RowAt enc size h0 s xs) (hi : i < xs.length) (hw : ∀ a, El s size i a → W L (f a) Q') (he : e = (i : Int) := by rfl) : W L (HM.bind (HM.idx s.a s.len e size) f) Q' := fun h hs => by
  obtain ⟨a, ha, hc⟩ := hr.2.2 i _ (List.getElem?_eq_getElem hi)
  refine ⟨a, ha, by omega, by have := hr.1; omega, ?_⟩
  subst he
  exact hw _ ⟨a, ha, by rw [Int.toNat_natCast]⟩ h hs
theorem W.loadeN {ts : List Tag} {i : Nat} {a : Addr} {x : γ} {v : Tup ts} {f : Tup ts → HM β} (ha : El s size i a) (hi : xs[i]? = some x) (hw : W L (f v) Q') (hx : Has L (ownS enc size s xs) L' := by repeat (first | with_reducible exact Go.H.has0 | apply Go.H.hasS)) (hv : Tup.get ts (enc x) = some v := by rfl) [Enc enc size] : W L (HM.bind (HM.loadN ts a) f) Q' := fun h hs => by
  have := ha.row ((hx.s hs).own_row (Enc.len (enc := enc))) hi
  refine ⟨v, fun j u hu => ?_, hw h hs⟩
  rw [← Tup.get_vals ts _ v hv] at hu
  exact this j u hu
theorem W.loadoN {ts : List Tag} {i : Nat} {a : Addr} {x : γ} {v : Tup ts} {f : Tup ts → HM β} (hr : RowAt enc size h0 s xs) (ha : El s size i a) (hi : xs[i]? = some x) (hw : W L (f v) Q') (hx : Has L (old h0) L' := by repeat (first | with_reducible exact Go.H.has0 | apply Go.H.hasS)) (hv : Tup.get ts (enc x) = some v := by rfl) : W L (HM.bind (HM.loadN ts a) f) Q' := fun h hs => by
  have := ha.row hr hi
  refine ⟨v, fun j u hu => ?_, hw h hs⟩
  rw [← Tup.get_vals ts _ v hv] at hu
  exact (hx.s hs).old_cell (this j u hu)
theorem W.app1 {cs : Array Value} {T elem : TypeId} {bytes : Nat} {zero : Array Value} {f : Slc → HM β} (x : γ) (hw : ∀ s', W (ownS enc size s' (xs ++ [x]) :: L') (f s') Q') (hb : (xs.length + 1) * bytes ≤ 140737488355328) (hx : Has L (ownS enc size s xs) L' := by repeat (first | with_reducible exact Go.H.has0 | apply Go.H.hasS)) (hc : cs = (enc x).toArray := by rfl) (hz : zero.size = size := by rfl) (hb0 : 0 < bytes := by decide) [Enc enc size] :
    W L (HM.bind (HM.new (.cells cs T)) fun b => HM.bind (HM.append elem size bytes zero s 1 (srcSlc size ⟨some ⟨b, 0, none⟩, 1, 1⟩)) f) Q' := fun h hs => by
  subst hc
  exact app_new (T := T) (elem := elem) (x := x) (Enc.len (enc := enc)) (Enc.cell (enc := enc)) hz (hx.s hs) (Enc.pos enc) hb0 hb fun s' h' hs' => hw s' h' hs'
theorem own_len' : ∀ h R, sat h (ownS enc size s xs :: R) → s.len = xs.length := fun h R hs => hs.own_len
theorem W.nils (enc : γ → List Value) (size : Nat) (hw : W (ownS enc size ⟨none, 0, 0⟩ ([] : List γ) :: L) m Q) : W L m Q := fun h hs => hw h (ownS_nil hs)
theorem W.slo {n : Nat} {e : Int} {f : Slc → HM β} (hr : RowAt enc size h0 s xs) (hn : n ≤ xs.length) (hw : ∀ s', RowAt enc size h0 s' (xs.take n) → W L (f s') Q') (he : e = (n : Int) := by rfl) : W L (HM.bind (HM.slice s none (some e) none size) f) Q' := fun h hs => by
  subst he
  exact slice_row hr hn fun s' hr' => hw s' hr' h hs
end
section
variable {K V : Type} [DecidableEq K] {ek : K → Value}
end
section
variable {σ τ γ : Type} {s : σ} {body : σ → HM (σ ⊕ τ)} {f : τ → HM β}
theorem W.loop (I : γ → σ → Prop) (J : γ → σ → List Asn) (μ : γ → Nat) (g : γ) (h0 : I g s) (hL : Sub L (J g s))
    (hr : ∀ g s, I g s → ∀ K : σ ⊕ τ → Heap → Prop, (∀ g' s', μ g' < μ g → I g' s' → At (J g' s') (K (.inl s'))) → (∀ t L, W L (f t) Q' → At L (K (.inr t))) → W (J g s) (body s) K) :
    W L (HM.bind (HM.loop body s) f) Q' := fun h hs => by
  rw [HM.bind_apply]
  refine loop_k (γ := γ) (fun g s h => I g s ∧ sat h (J g s)) μ g ⟨h0, hL.s hs⟩ ?_
  rintro g s h ⟨hI, hJ⟩ K h1 h2
  exact hr g s hI K (fun g' s' hm hI' h' hs' => h1 g' s' h' hm ⟨hI', hs'⟩) (fun t L hw h' hs' => h2 t h' (hw h' hs')) h hJ
theorem W.for {c : σ → Bool} {B E : σ → HM (σ ⊕ τ)} (n : Nat) (I : Nat → σ → Prop) (J : Nat → σ → List Asn) (h0 : I 0 s) (hL : Sub L (J 0 s)) (hc : ∀ i s, i ≤ n → I i s → c s = decide (i < n))
    (hE : ∀ s, I n s → ∀ K : σ ⊕ τ → Heap → Prop, (∀ t L, W L (f t) Q' → At L (K (.inr t))) → W (J n s) (E s) K)
    (hB : ∀ i s, i < n → I i s → ∀ K : σ ⊕ τ → Heap → Prop, (∀ s', I (i + 1) s' → At (J (i + 1) s') (K (.inl s'))) → (∀ t L, W L (f t) Q' → At L (K (.inr t))) → W (J i s) (B s) K) :
    W L (HM.bind (HM.loop (fun s => HM.ite (c s) (B s) (E s)) s) f) Q' := fun h hs => by
  rw [HM.bind_apply]
  refine loop_for n (fun i s h => I i s ∧ sat h (J i s)) ⟨h0, hL.s hs⟩ (fun i s h hi hJ => hc i s hi hJ.1) (fun s h hJ K hd => ?_) (fun i s h hlt hJ K hnx hd => ?_)
  · exact hE s hJ.1 K (fun t L hw h' hs' => hd t h' (hw h' hs')) h hJ.2
  · exact hB i s hlt hJ.1 K (fun s' hI' h' hs' => hnx s' h' ⟨hI', hs'⟩) (fun t L hw h' hs' => hd t h' (hw h' hs')) h hJ.2
end
end
end Go.H
namespace Go.H
set_option linter.unusedSimpArgs false
set_option linter.unusedVariables false
section
variable {A B C D E F : Asn} {L L1 L2 L3 L4 L5 L' R : List Asn} {h : Heap}
theorem At.cls2 {q : Heap → Prop} (mk : ∀ h, sat h (B :: C :: L2) → sat h (A :: L2)) (hw : At (A :: L2) q) (hb : Has L B L1 := by repeat (first | with_reducible exact Go.H.has0 | apply Go.H.hasS)) (hc : Has L1 C L2 := by repeat (first | with_reducible exact Go.H.has0 | apply Go.H.hasS)) : At L q := fun h hs => hw h (mk h ((hb.then hc).s hs))
variable {K V σ τ β : Type} {ek : K → Value} {ev : V → Value} {r it : Nat} {l done todo : List (K × V)} {Q' : β → Heap → Prop}
end
end Go.H
namespace Go.Proofs.YtngpaokjbcjpgaaDoor
open Go.H Go.Proofs
set_option linter.unusedSimpArgs false
set_option linter.unusedVariables false
set_option maxRecDepth 100000
variable {h h0 : Heap} {L L' L1 L2 L3 R : List Asn} {Q : Value → Heap → Prop}
instance : Enc eT2 2 := ⟨eT2_len, eT2_cell, by decide⟩
theorem ltT_trans {x y z : TagT} (h1 : ltT x y) (h2 : ltT y z) : ltT x z := by unfold ltT at *; omega
theorem ltT_tri {x y : TagT} (h1 : ¬ ltT x y) (hne : x ≠ y) : ltT y x := by
  obtain ⟨a, b⟩ := x
  obtain ⟨c, d⟩ := y
  have : ¬ (a = c ∧ b = d) := fun ⟨h1, h2⟩ => hne (by rw [h1, h2])
  unfold ltT at *
  dsimp only at *
  omega
theorem sorted_eq : ∀ {xs ys : List TagT}, xs.Perm ys → xs.Pairwise (fun a b => ¬ ltT b a) → ys.Pairwise ltT → xs = ys
  | [], ys, hp, _, _ => hp.nil_eq
  | x :: xs, [], hp, _, _ => absurd hp.length_eq (by simp)
  | x :: xs, y :: ys, hp, h1, h2 => by
    rw [List.pairwise_cons] at h1 h2
    have : x = y := by
      by_cases e : x = y
      · exact e
      have hx : x ∈ ys := by
        rcases List.mem_cons.1 (hp.mem_iff.1 (List.mem_cons_self ..)) with h | h
        · exact absurd h e
        · exact h
      have hy : y ∈ xs := by
        rcases List.mem_cons.1 (hp.mem_iff.2 (List.mem_cons_self ..)) with h | h
        · exact absurd h.symm e
        · exact h
      exact absurd (h2.1 x hx) (h1.1 y hy)
    subst this
    rw [sorted_eq (List.perm_cons x |>.1 hp) h1.2 h2.2]
def insT (t : TagT) : List TagT → List TagT
  | [] => [t]
  | o :: r => if ltT t o then t :: o :: r else o :: insT t r
def stepT (t : TagT) (s : Bool × List TagT) (o : TagT) : Bool × List TagT :=
  if (!s.1 && decide (ltT t o)) = true then (true, (s.2 ++ [t]) ++ [o]) else (s.1, s.2 ++ [o])
def endT (t : TagT) (s : Bool × List TagT) : List TagT := if s.1 = true then s.2 else s.2 ++ [t]
theorem step_true (t : TagT) : ∀ (l acc : List TagT), l.foldl (stepT t) (true, acc) = (true, acc ++ l)
  | [], acc => by simp
  | o :: l, acc => by
    rw [List.foldl_cons]
    have : stepT t (true, acc) o = (true, acc ++ [o]) := by simp [stepT]
    rw [this, step_true t l]
    simp
theorem step_ins (t : TagT) : ∀ (l acc : List TagT), endT t (l.foldl (stepT t) (false, acc)) = acc ++ insT t l
  | [], acc => by simp [endT, insT]
  | o :: l, acc => by
    rw [List.foldl_cons, insT]
    by_cases c : ltT t o
    · have : stepT t (false, acc) o = (true, (acc ++ [t]) ++ [o]) := by simp [stepT, c]
      rw [this, step_true, if_pos c]
      simp [endT]
    · have : stepT t (false, acc) o = (false, acc ++ [o]) := by simp [stepT, c]
      rw [this, step_ins t l, if_neg c]
      simp
theorem step_len (t : TagT) : ∀ (l : List TagT) (s : Bool × List TagT), (l.foldl (stepT t) s).2.length ≤ s.2.length + 2 * l.length
  | [], s => by simp
  | o :: l, s => by
    rw [List.foldl_cons]
    have h1 := step_len t l (stepT t s o)
    have h2 : (stepT t s o).2.length ≤ s.2.length + 2 := by unfold stepT; split <;> simp
    rw [List.length_cons]
    omega
theorem ins_perm (t : TagT) : ∀ l, (insT t l).Perm (t :: l)
  | [] => .refl _
  | o :: l => by
    rw [insT]
    split
    · exact .refl _
    · exact ((ins_perm t l).cons o).trans (.swap t o l)
theorem ins_sorted {t : TagT} : ∀ {l : List TagT}, t ∉ l → l.Pairwise ltT → (insT t l).Pairwise ltT
  | [], _, _ => by simp [insT]
  | o :: l, hn, hp => by
    rw [List.pairwise_cons] at hp
    rw [List.mem_cons, not_or] at hn
    rw [insT]
    split
    · rename_i c
      rw [List.pairwise_cons, List.pairwise_cons]
      refine ⟨fun x hx => ?_, hp.1, hp.2⟩
      rcases List.mem_cons.1 hx with rfl | hx
      · exact c
      · exact ltT_trans c (hp.1 x hx)
    · rename_i c
      rw [List.pairwise_cons]
      refine ⟨fun x hx => ?_, ins_sorted hn.2 hp.2⟩
      rcases List.mem_cons.1 ((ins_perm t l).mem_iff.1 hx) with rfl | hx
      · exact ltT_tri c hn.1
      · exact hp.1 x hx
def addQ (most : Int) (l : List TagT) (t : TagT) : (Bool × Int) × List TagT :=
  if goodTag t then (if t ∈ l then ((false, 0), l) else if most ≤ l.length then ((false, 151), l) else ((true, 0), insT t l)) else ((false, 129), l)
theorem add_same {M : Int} {l T : List TagT} {t : TagT} (hp : T.Perm l) (hs : T.Pairwise ltT) :
    (addQ M T t).1 = (addR M l t).1 ∧ (addQ M T t).2.Perm (addR M l t).2 ∧ (addQ M T t).2.Pairwise ltT ∧ (addR M l t).2.length ≤ l.length + 1 ∧ 0 ≤ (addR M l t).1.2 ∧ (addR M l t).1.2 ≤ 151 := by
  unfold addQ addR
  by_cases g : goodTag t
  case neg => rw [if_neg g, if_neg g]; exact ⟨rfl, hp, hs, by simp, by simp⟩
  rw [if_pos g, if_pos g]
  by_cases hm : t ∈ l
  · rw [if_pos hm, if_pos (hp.mem_iff.2 hm)]; exact ⟨rfl, hp, hs, by simp, by simp⟩
  rw [if_neg hm, if_neg (fun h => hm (hp.mem_iff.1 h)), hp.length_eq]
  split
  · exact ⟨rfl, hp, hs, by simp, by simp⟩
  · refine ⟨rfl, ?_, ins_sorted (fun h => hm (hp.mem_iff.1 h)) hs, by simp, by simp⟩
    exact ((ins_perm t T).trans (hp.cons t)).trans (List.perm_append_singleton t l).symm
theorem tNew_w {most : Int} (hq : ∀ b, At (setA b (max 0 most) [] :: L) (Q (at0 b))) : FW Tryd.prog 4 #[.int .i64 most] L Q := fun h hs => setNew_spec hs most fun b h' hs' => hq b h' hs'
theorem tAdd_w {b : Nat} {most : Int} {l : List TagT} {t : TagT} (hq : At (setA b most (addR most l t).2 :: L1) (Q (.tuple #[.bool (addR most l t).1.1, .int .u8 (addR most l t).1.2]))) (hx : Has L (setA b most l) L1 := by repeat (first | with_reducible exact Go.H.has0 | apply Go.H.hasS)) :
    FW Tryd.prog 7 #[at0 b, e2 t] L Q := fun h hs => Add_spec (hx.s hs) fun h' hs' => hq h' hs'
theorem tHas_w {b : Nat} {most : Int} {l : List TagT} {t : TagT} (hq : At (setA b most l :: L1) (Q (.bool (decide (t ∈ l))))) (hx : Has L (setA b most l) L1 := by repeat (first | with_reducible exact Go.H.has0 | apply Go.H.hasS)) :
    FW Tryd.prog 10 #[at0 b, e2 t] L Q := fun h hs => Has_spec (hx.s hs) fun h' hs' => hq h' hs'
theorem tLen_w {b : Nat} {most : Int} {l : List TagT} (hq : At L (Q (.int .i64 l.length))) (hx : Has L (setA b most l) L1 := by repeat (first | with_reducible exact Go.H.has0 | apply Go.H.hasS)) :
    FW Tryd.prog 9 #[at0 b] L Q := fun h hs => Len_spec (hx.s hs) (hq h hs)
theorem tList_w {b : Nat} {most : Int} {l : List TagT} (hl : l.length ≤ 100000) (hq : ∀ (s : Slc) (ys : List TagT), ys.Perm l → ys.Pairwise (fun a b => ¬ ltT b a) → At (ownS eT2 2 s ys :: setA b most l :: L1) (Q (.slice s.a s.len s.cap))) (hx : Has L (setA b most l) L1 := by repeat (first | with_reducible exact Go.H.has0 | apply Go.H.hasS)) :
    FW Tryd.prog 12 #[at0 b] L Q := fun h hs => List_spec (hx.s hs) hl fun s ys h' h1 h2 hs' => hq s ys h1 h2 h' hs'
theorem wakes16_w (hq : At L (Q (.bool true))) : FW Tryd.prog 6 #[] L Q := fun h hs => wakes16_spec hs fun h' hs' => hq h' hs'
def setR (b : Nat) (most : Int) (l : List TagT) : Asn := exA fun s : Slc => star (cells b #[.int .i64 most, .slice s.a s.len s.cap]) (ownS eT2 2 s l)
theorem setR_iff {b : Nat} {most : Int} {l : List TagT} : sat h (setR b most l :: R) ↔ ∃ s : Slc, sat h (cells b #[.int .i64 most, .slice s.a s.len s.cap] :: ownS eT2 2 s l :: R) := by
  unfold setR
  rw [sat.ex_iff]
  simp only [sat.star_iff]
theorem setR_mk {s : Slc} {b : Nat} {most : Int} {l : List TagT} : ∀ h, sat h (cells b #[.int .i64 most, .slice s.a s.len s.cap] :: ownS eT2 2 s l :: R) → sat h (setR b most l :: R) := fun h hs => setR_iff.2 ⟨s, hs⟩
theorem rNew_w {most : Int} (hq : ∀ b, At (setR b (max 0 most) [] :: L) (Q (at0 b))) : FW Tryd.prog 5 #[.int .i64 most] L Q := by
  refine fun h hs => ref16_New_calls most h Q ((?_ : W L _ _) h hs)
  clear hs h
  unfold ref16_New
  refine W.cutk (fun x => x.1 = max 0 most) (fun K hK => W.ite (fun e => W.pure (hK _ ?_)) (fun e => W.pure (hK _ ?_))) (fun x hx => ?_)
  · have := of_decide_eq_true e; simp only; omega
  · have := of_decide_eq_false e; simp only; omega
  · rw [hx]
    refine W.newc fun b => W.pure fun h hs => ?_
    exact hq b h (setR_iff.2 ⟨⟨none, 0, 0⟩, sat.p1 (ownS_nil hs)⟩)
theorem rgood_w {t : TagT} (hq : At L (Q (.bool (decide (goodTag t))))) : FW Tryd.prog 15 #[e2 t] L Q := by
  obtain ⟨a, b⟩ := t
  refine fun h hs => ref16_Good_calls (a, b, ()) h Q ?_
  unfold ref16_Good
  refine new_cells hs fun tb h1 hs1 => ?_
  have c0 : cellH h1 ⟨tb, 0, none⟩ = some (.int .i64 a) := hs1.cell 0
  have c1 : cellH h1 ⟨tb, 1, none⟩ = some (.int .i64 b) := hs1.cell 1
  have hq' := hq h1 hs1.drop
  refine bind_cut (fun x h' => h' = h1 ∧ x.1 = decide (goodTag (a, b))) ?_ ?_
  · unfold goodTag
    by_cases g1 : 0 ≤ a <;> by_cases g2 : a < 8 <;> by_cases g3 : 0 < b <;> by_cases g4 : b ≤ 9007199254740992 <;> simp [add_own, c0, c1, g1, g2, g3, g4] <;> omega
  · rintro ⟨x, ⟨⟩⟩ h2 ⟨rfl, hx⟩
    simp only at hx
    subst hx
    exact hq'
theorem rHas_w {b : Nat} {most : Int} {l : List TagT} {t : TagT} (hb : l.length ≤ 1000000) (hq : At (setR b most l :: L1) (Q (.bool (decide (t ∈ l))))) (hx : Has L (setR b most l) L1 := by repeat (first | with_reducible exact Go.H.has0 | apply Go.H.hasS)) :
    FW Tryd.prog 11 #[at0 b, e2 t] L Q := by
  obtain ⟨u, v⟩ := t
  refine fun h hs => ref16_Has_calls (some ⟨b, 0, none⟩) (u, v, ()) h Q ((?_ : W L _ _) h hs)
  clear hs h
  unfold ref16_Has
  refine W.sub (L' := setR b most l :: L1) ?_ (Sub.cons hx Sub.rfl)
  clear hx
  refine W.newc fun x1 => ?_
  refine W.cells (b := x1) #[.int .i64 u, .int .i64 v] ?_
  refine W.opn (A := setR b most l) (g := fun s R => cells b #[.int .i64 most, .slice s.a s.len s.cap] :: ownS eT2 2 s l :: R) (fun h R hs => setR_iff.1 hs) fun s => ?_
  refine W.fact (own_len' (enc := eT2) (size := 2) (s := s) (xs := l)) fun l1 => ?_
  refine W.loop (γ := Nat) (fun i x => i ≤ l.length ∧ x.1 = (i : Int) ∧ (u, v) ∉ l.take i) (fun _ _ => _) (fun i => l.length - i) 0 ⟨Nat.zero_le _, rfl, by simp⟩ Sub.rfl ?_
  rintro i ⟨_, ⟨⟩⟩ ⟨hi, hI, hnot⟩ K hnx hd
  simp only at hI
  subst hI
  refine W.nonnil ?_
  refine W.load (b := b) (v := s) ?_
  by_cases hlt : i < l.length
  · refine W.tt (decide_eq_true (by omega)) ?_
    refine W.nonnil (W.load (b := b) (v := s) ?_)
    refine W.idx (enc := eT2) (xs := l) (i := i) hlt fun a ha => ?_
    refine W.loadeN (enc := eT2) (x := l[i]) (v := (l[i].1, l[i].2, ())) ha (List.getElem?_eq_getElem hlt) ?_
    refine W.loadN (b := x1) (v := (u, v, ())) ?_
    by_cases he : l[i] = (u, v)
    · refine W.tt (by simp [he]) (W.pure (hd _ _ (W.inr (W.pure ?_))))
      have e : decide ((u, v) ∈ l) = true := decide_eq_true (by rw [← he]; exact List.getElem_mem hlt)
      rw [e] at hq
      refine At.cls2 (setR_mk (s := s) (b := b) (most := most) (l := l)) ?_
      exact At.sub hq
    · refine W.ff ?_ (W.pure (hnx (i + 1) _ (by omega) ⟨hlt, ?_, ?_⟩))
      · have : ¬ (l[i].1 = u ∧ l[i].2 = v) := fun ⟨h1, h2⟩ => he (Prod.ext h1 h2)
        simpa using this
      · simp only; rw [wrap_id (by omega) (by omega)]; rfl
      · rw [List.take_succ_eq_append_getElem hlt, List.mem_append, List.mem_singleton, not_or]
        exact ⟨hnot, fun h => he h.symm⟩
  · refine W.ff (decide_eq_false (by omega)) (W.pure (hd _ _ (W.inl (W.pure ?_))))
    have e : decide ((u, v) ∈ l) = false := decide_eq_false (by rwa [List.take_of_length_le (by omega)] at hnot)
    rw [e] at hq
    refine At.cls2 (setR_mk (s := s) (b := b) (most := most) (l := l)) ?_
    exact At.sub hq
set_option maxHeartbeats 1000000 in
theorem rAdd_w {b : Nat} {most : Int} {l : List TagT} {t : TagT} (hb : l.length ≤ 1000000) (hq : At (setR b most (addQ most l t).2 :: L1) (Q (.tuple #[.bool (addQ most l t).1.1, .int .i64 (addQ most l t).1.2]))) (hx : Has L (setR b most l) L1 := by repeat (first | with_reducible exact Go.H.has0 | apply Go.H.hasS)) :
    FW Tryd.prog 8 #[at0 b, e2 t] L Q := by
  obtain ⟨u, v⟩ := t
  refine fun h hs => ref16_Add_calls (some ⟨b, 0, none⟩) (u, v, ()) h Q ((?_ : W L _ _) h hs)
  clear hs h
  unfold ref16_Add
  refine W.sub (L' := setR b most l :: L1) ?_ (Sub.cons hx Sub.rfl)
  clear hx
  refine W.newc fun x1 => ?_
  refine W.cells (b := x1) #[.int .i64 u, .int .i64 v] ?_
  refine W.loadN (b := x1) (v := (u, v, ())) ?_
  refine W.call1 (rgood_w (t := (u, v)) (At.un (x := decide (goodTag (u, v))) ?_))
  unfold addQ at hq
  by_cases g : goodTag (u, v)
  case neg =>
    rw [if_neg g] at hq
    exact W.tt (by simp [g]) (W.pure (At.sub hq))
  rw [if_pos g] at hq
  refine W.ff (by simp [g]) ?_
  refine W.loadN (b := x1) (v := (u, v, ())) ?_
  refine W.call1 (rHas_w (b := b) (most := most) (l := l) (t := (u, v)) hb (At.un (x := decide ((u, v) ∈ l)) ?_))
  by_cases g1 : (u, v) ∈ l
  · rw [if_pos g1] at hq
    exact W.tt (by simp [g1]) (W.pure (At.sub hq))
  rw [if_neg g1] at hq
  refine W.ff (by simp [g1]) ?_
  refine W.opn (A := setR b most l) (g := fun s R => cells b #[.int .i64 most, .slice s.a s.len s.cap] :: ownS eT2 2 s l :: R) (fun h R hs => setR_iff.1 hs) fun s => ?_
  refine W.fact (own_len' (enc := eT2) (size := 2) (s := s) (xs := l)) fun l1 => ?_
  refine W.nonnil (W.load (b := b) (v := s) ?_)
  refine W.nonnil (W.load (b := b) (v := most) ?_)
  by_cases g2 : most ≤ l.length
  · rw [if_pos g2] at hq
    refine W.tt (decide_eq_true (by omega)) (W.pure ?_)
    refine At.cls2 (setR_mk (s := s) (b := b) (most := most) (l := l)) ?_
    exact At.sub hq
  rw [if_neg g2] at hq
  refine W.ff (decide_eq_false (by omega)) ?_
  refine W.nils eT2 2 ?_
  refine W.loop (γ := Nat) (fun i x => i ≤ l.length ∧ x.2.2.1 = (i : Int) ∧ x.1 = ((l.take i).foldl (stepT (u, v)) (false, [])).1) (fun i x => ownS eT2 2 x.2.1 ((l.take i).foldl (stepT (u, v)) (false, [])).2 :: cells b #[.int .i64 most, .slice s.a s.len s.cap] :: ownS eT2 2 s l :: cells x1 #[.int .i64 u, .int .i64 v] :: L1) (fun i => l.length - i) 0 ⟨Nat.zero_le _, rfl, rfl⟩ ?_ ?_
  · show Sub _ (ownS eT2 2 ⟨none, 0, 0⟩ [] :: cells b #[.int .i64 most, .slice s.a s.len s.cap] :: ownS eT2 2 s l :: cells x1 #[.int .i64 u, .int .i64 v] :: L1)
    repeat (first | with_reducible exact Go.H.Sub.rfl | with_reducible exact Go.H.Sub.nil | refine Go.H.Sub.cons (by repeat (first | with_reducible exact Go.H.has0 | apply Go.H.hasS)) ?_ | refine Go.H.Sub.drop ?_)
  rintro i ⟨p, A, _, ⟨⟩⟩ ⟨hi, hI, hp⟩ K hnx hd
  simp only at hI hp
  subst hI
  dsimp only
  refine W.nonnil (W.load (b := b) (v := s) ?_)
  have hln := step_len (u, v) (l.take i) (false, [])
  have hti : (l.take i).length ≤ l.length := by rw [List.length_take]; omega
  simp only [List.length_nil] at hln
  by_cases hlt : i < l.length
  · have hst : (l.take (i + 1)).foldl (stepT (u, v)) (false, []) = stepT (u, v) ((l.take i).foldl (stepT (u, v)) (false, [])) l[i] := by
      rw [List.take_succ_eq_append_getElem hlt, List.foldl_append]; rfl
    have hy := List.getElem?_eq_getElem hlt
    have hnx2 := hnx (i + 1)
    rw [hst] at hnx2
    clear hnx hst hd
    generalize (l.take i).foldl (stepT (u, v)) (false, []) = S at hp hln hnx2 ⊢
    obtain ⟨p', acc⟩ := S
    simp only at hp hln hnx2 ⊢
    subst hp
    refine W.tt (decide_eq_true (by omega)) ?_
    refine W.nonnil (W.load (b := b) (v := s) ?_)
    refine W.idx (enc := eT2) (s := s) (xs := l) (i := i) hlt fun a ha => ?_
    refine W.loadeN (enc := eT2) (s := s) (x := l[i]) (v := (l[i].1, l[i].2, ())) ha hy ?_
    generalize l[i] = o at hnx2
    obtain ⟨ou, ov⟩ := o
    refine W.newc fun x18 => ?_
    refine W.storeN (b := x18) ?_
    refine W.cells (b := x18) #[.int .i64 ou, .int .i64 ov] ?_
    refine W.cutk (fun x => x.1 = (!p && decide (ltT (u, v) (ou, ov)))) (fun K hK => ?_) (fun x hx => ?_)
    · cases p with
      | true => exact W.ff rfl (W.pure (hK _ rfl))
      | false =>
        refine W.tt rfl ?_
        refine W.load (b := x1) (v := u) (W.load (b := x18) (v := ou) ?_)
        refine W.ite (fun e => W.pure (hK _ ?_)) (fun e => ?_)
        · have := of_decide_eq_true e
          simp [ltT, this]
        refine W.load (b := x1) (v := u) (W.load (b := x18) (v := ou) ?_)
        have e1 := of_decide_eq_false e
        refine W.ite (fun e => ?_) (fun e => W.pure (hK _ ?_))
        · refine W.load (b := x1) (v := v) (W.load (b := x18) (v := ov) (W.pure (hK _ ?_)))
          have e2 : u = ou := by simpa using e
          simp [ltT, e2]
        · have e2 : u ≠ ou := by simpa using e
          simp [ltT, e1, e2]
    · unfold stepT at hnx2
      rw [← hx] at hnx2
      obtain ⟨c, ⟨⟩⟩ := x
      simp only at hnx2 ⊢
      clear hx
      refine W.cutp (fun y => y.2.1 = (if c = true then true else p)) (fun y => ownS eT2 2 y.1 (if c = true then acc ++ [(u, v)] else acc) :: cells x18 #[.int .i64 ou, .int .i64 ov] :: cells b #[.int .i64 most, .slice s.a s.len s.cap] :: ownS eT2 2 s l :: cells x1 #[.int .i64 u, .int .i64 v] :: L1) (fun K hK => ?_) (fun y hy2 => ?_)
      · cases c with
        | true =>
          refine W.tt rfl ?_
          refine W.loadN (b := x1) (v := (u, v, ())) ?_
          refine W.app1 (enc := eT2) (xs := acc) (u, v) (fun s' => W.pure ?_) (by omega)
          have h9 := hK (s', true, ()) rfl
          simp only [if_true] at h9
          exact At.sub h9
        | false =>
          refine W.ff rfl (W.pure ?_)
          have h9 := hK (A, p, ()) rfl
          simp only [Bool.false_eq_true, if_false] at h9
          exact At.sub h9
      · obtain ⟨B, q, ⟨⟩⟩ := y
        simp only at hy2 ⊢
        refine W.loadN (b := x18) (v := (ou, ov, ())) ?_
        have hcl : (if c = true then acc ++ [(u, v)] else acc).length ≤ acc.length + 1 := by cases c <;> simp
        refine W.app1 (enc := eT2) (xs := if c = true then acc ++ [(u, v)] else acc) (ou, ov) (fun s' => W.pure ?_) (by omega)
        have h9 := hnx2 (q, s', IntKind.wrap .i64 ((i : Int) + 1), ()) (by omega) ⟨hlt, by simp only; rw [wrap_id (by omega) (by omega)]; rfl, by simp only; rw [hy2]; split <;> rfl⟩
        cases c with
        | true =>
          simp only [if_true] at h9 ⊢
          exact At.sub h9
        | false =>
          simp only [Bool.false_eq_true, if_false] at h9 ⊢
          exact At.sub h9
  · refine W.ff (decide_eq_false (by omega)) (W.pure (hd _ _ ?_))
    clear hnx hd
    have hins := step_ins (u, v) (l.take i) []
    rw [List.take_of_length_le (by omega), List.nil_append] at hins
    rw [List.take_of_length_le (by omega)] at hp hln
    rw [← hins] at hq
    generalize hS : l.foldl (stepT (u, v)) (false, []) = S at hp hln hq hins
    obtain ⟨p', acc⟩ := S
    simp only at hp hln
    subst hp
    have e9 : List.foldl (stepT (u, v)) (false, []) (List.take i l) = (p, acc) := by rw [List.take_of_length_le (by omega)]; exact hS
    rw [e9]
    dsimp only
    refine W.cutp (fun y => True) (fun y => ownS eT2 2 y.1 (endT (u, v) (p, acc)) :: cells b #[.int .i64 most, .slice s.a s.len s.cap] :: ownS eT2 2 s l :: cells x1 #[.int .i64 u, .int .i64 v] :: L1) (fun K hK => ?_) (fun y _ => ?_)
    · cases p with
      | true => exact W.ff rfl (W.pure (hK (A, ()) trivial))
      | false =>
        refine W.tt rfl ?_
        refine W.loadN (b := x1) (v := (u, v, ())) ?_
        refine W.app1 (enc := eT2) (xs := acc) (u, v) (fun s' => W.pure ?_) (by omega)
        have h9 := hK (s', ()) trivial
        simp only [endT, Bool.false_eq_true, if_false] at h9
        exact At.sub h9
    · obtain ⟨B, ⟨⟩⟩ := y
      dsimp only
      refine W.nonnil (W.store (b := b) (cs' := #[.int .i64 most, .slice B.a B.len B.cap]) ?_)
      refine W.pure ?_
      dsimp only at hq
      refine At.cls2 (setR_mk (s := B) (b := b) (most := most) (l := endT (u, v) (p, acc))) ?_
      exact At.sub hq
set_option maxHeartbeats 1000000 in
theorem TagsPlays_w {s1 : Slc} {xs0 : List TagT} {most : Int} {ask : TagT} (hr0 : RowAt eT2 2 h0 s1 xs0) (hq : ∀ h' R, sat h' (old h0 :: R) → Q (.bool true) h') :
    FW Tryd.prog 3 #[.int .i64 most, .slice s1.a s1.len s1.cap, e2 ask] [old h0] Q := by
  have fin : ∀ {L L'}, Has L (old h0) L' → At L (Q (.bool true)) := fun hx h hs => hq h _ (hx.s hs)
  obtain ⟨au, av⟩ := ask
  refine fun h hs => law16_TagsPlays_calls most s1 (au, av, ()) h Q ((?_ : W [old h0] _ _) h hs)
  clear hs h
  unfold law16_TagsPlays
  refine W.newc fun x1 => ?_
  refine W.cells (b := x1) #[.int .i64 au, .int .i64 av] ?_
  refine W.call1 (tNew_w fun b => At.un (x := some ⟨b, 0, none⟩) ?_)
  refine W.call1 (rNew_w fun r => At.un (x := some ⟨r, 0, none⟩) ?_)
  refine W.call1 (wakes16_w (At.un (x := true) ?_))
  refine W.ff rfl ?_
  have he : (if 100 < ((s1.len : Nat) : Int) then (100 : Int) else ((s1.len : Nat) : Int)) = ((min 100 xs0.length : Nat) : Int) := by rw [hr0.1]; split <;> omega
  rw [he]
  refine W.slo hr0 (Nat.min_le_right _ _) fun s' hr => ?_
  have hy1 : (xs0.take (min 100 xs0.length)).length ≤ 100 := by simp; omega
  generalize xs0.take (min 100 xs0.length) = ys at hr hy1
  have l1 := hr.1
  generalize max 0 most = M
  clear he
  refine W.loop (γ := Nat × List TagT × List TagT) (fun g x => g.1 ≤ ys.length ∧ x.1 = (g.1 : Int) ∧ g.2.1.length ≤ g.1 ∧ g.2.2.Perm g.2.1 ∧ g.2.2.Pairwise ltT) (fun g _ => setR r M g.2.2 :: setA b M g.2.1 :: cells x1 #[.int .i64 au, .int .i64 av] :: [old h0]) (fun g => ys.length - g.1) (0, [], []) ⟨Nat.zero_le _, rfl, Nat.le_refl _, .refl _, .nil⟩ (by repeat (first | with_reducible exact Go.H.Sub.rfl | with_reducible exact Go.H.Sub.nil | refine Go.H.Sub.cons (by repeat (first | with_reducible exact Go.H.has0 | apply Go.H.hasS)) ?_ | refine Go.H.Sub.drop ?_)) ?_
  rintro ⟨i, l, T⟩ ⟨_, ⟨⟩⟩ ⟨hi, hI, hll, hp, hpw⟩ K hnx hd
  simp only at hi hI hll hp hpw
  subst hI
  dsimp only
  have hTl := hp.length_eq
  by_cases hlt : i < ys.length
  · refine W.tt (decide_eq_true (by omega)) ?_
    clear hd
    refine W.idxo hr hlt fun a ha => ?_
    refine W.loadoN (x := ys[i]) (v := (ys[i].1, ys[i].2, ())) hr ha (List.getElem?_eq_getElem hlt) ?_
    generalize ys[i] = x
    obtain ⟨u, v⟩ := x
    dsimp only
    refine W.newc fun x10 => ?_
    refine W.storeN (b := x10) ?_
    refine W.cells (b := x10) #[.int .i64 u, .int .i64 v] ?_
    refine W.loadN (b := x10) (v := (u, v, ())) ?_
    refine W.callN (tAdd_w (b := b) (most := M) (l := l) (t := (u, v)) (At.unN (x := ((addR M l (u, v)).1.1, (addR M l (u, v)).1.2, ())) ?_))
    refine W.loadN (b := x10) (v := (u, v, ())) ?_
    refine W.callN (rAdd_w (b := r) (most := M) (l := T) (t := (u, v)) (by omega) (At.unN (x := ((addQ M T (u, v)).1.1, (addQ M T (u, v)).1.2, ())) ?_))
    obtain ⟨e1, hp2, hpw2, hl2, hc0, hc1⟩ := add_same (M := M) (t := (u, v)) hp hpw
    generalize addQ M T (u, v) = X at e1 hp2 hpw2 ⊢
    generalize addR M l (u, v) = Y at e1 hp2 hl2 hc0 hc1 ⊢
    obtain ⟨xa, T2⟩ := X
    obtain ⟨⟨y1, y2⟩, l2⟩ := Y
    simp only at e1 hp2 hpw2 hl2 hc0 hc1
    subst e1
    dsimp only
    have hT2 := hp2.length_eq
    refine W.cutk (fun x => x.1 = false) (fun K hK => ?_) (fun x hx => ?_)
    · refine W.ff (nbq _) ?_
      refine W.ff (by rw [wrap_id (by omega) (by omega)]; exact nbq _) ?_
      refine W.nonnil ?_
      refine W.opn (A := setR r M T2) (g := fun s R => cells r #[.int .i64 M, .slice s.a s.len s.cap] :: ownS eT2 2 s T2 :: R) (fun h R hs => setR_iff.1 hs) fun s => ?_
      refine W.fact (own_len' (enc := eT2) (size := 2) (s := s) (xs := T2)) fun ls => ?_
      refine W.load (b := r) (v := s) ?_
      refine W.call1 (tLen_w (b := b) (most := M) (l := l2) (At.un (x := (l2.length : Int)) ?_))
      refine W.req ?_ rfl
      refine W.load (b := r) (v := s) ?_
      refine W.req ?_ rfl
      refine W.ff (by rw [ls, hT2]; exact nbq _) ?_
      refine W.loadN (b := x10) (v := (u, v, ())) ?_
      refine W.loadN (b := x10) (v := (u, v, ())) ?_
      refine W.call1 (tHas_w (b := b) (most := M) (l := l2) (t := (u, v)) (At.un (x := decide ((u, v) ∈ l2)) ?_))
      refine W.loadN (b := x10) (v := (u, v, ())) ?_
      refine W.req ?_ rfl
      refine W.cls2 (setR_mk (s := s) (b := r) (most := M) (l := T2)) ?_
      refine W.call1 (rHas_w (b := r) (most := M) (l := T2) (t := (u, v)) (by omega) (At.un (x := decide ((u, v) ∈ T2)) ?_))
      refine W.pure (At.sub (hK _ ?_))
      simp only
      rw [decide_eq_decide.2 hp2.mem_iff]
      exact nbq _
    · refine W.ff hx (W.pure (At.sub (hnx (i + 1, l2, T2) (IntKind.wrap .i64 ((i : Int) + 1), ()) (by simp only; omega) ⟨hlt, ?_, ?_, hp2, hpw2⟩)))
      · simp only; rw [wrap_id (by omega) (by omega)]; rfl
      · simp only; omega
  · refine W.ff (decide_eq_false (by omega)) (W.pure (hd _ _ (W.inl ?_)))
    clear hd hnx
    refine W.call1 (tList_w (b := b) (most := M) (l := l) (by omega) (fun s zs hzp hzw => At.un (x := s) ?_))
    have hzT : zs = T := sorted_eq (hzp.trans hp.symm) hzw hpw
    subst hzT
    refine W.fact (own_len' (enc := eT2) (size := 2) (s := s) (xs := zs)) fun ls => ?_
    refine W.cutk (fun x => x.1 = false) (fun K hK => ?_) (fun x hx => ?_)
    · refine W.nonnil ?_
      refine W.opn (A := setR r M zs) (g := fun s R => cells r #[.int .i64 M, .slice s.a s.len s.cap] :: ownS eT2 2 s zs :: R) (fun h R hs => setR_iff.1 hs) fun s2 => ?_
      refine W.fact (own_len' (enc := eT2) (size := 2) (s := s2) (xs := zs)) fun ls2 => ?_
      refine W.load (b := r) (v := s2) ?_
      refine W.ff (by rw [ls, ls2]; exact nbq _) ?_
      refine W.loadN (b := x1) (v := (au, av, ())) ?_
      refine W.loadN (b := x1) (v := (au, av, ())) ?_
      refine W.call1 (tHas_w (b := b) (most := M) (l := l) (t := (au, av)) (At.un (x := decide ((au, av) ∈ l)) ?_))
      refine W.loadN (b := x1) (v := (au, av, ())) ?_
      refine W.req ?_ rfl
      refine W.cls2 (setR_mk (s := s2) (b := r) (most := M) (l := zs)) ?_
      refine W.call1 (rHas_w (b := r) (most := M) (l := zs) (t := (au, av)) (by omega) (At.un (x := decide ((au, av) ∈ zs)) ?_))
      refine W.pure (At.sub (hK _ ?_))
      simp only
      rw [decide_eq_decide.2 hzp.mem_iff]
      exact nbq _
    · refine W.ff hx ?_
      refine W.opn (A := setR r M zs) (g := fun s R => cells r #[.int .i64 M, .slice s.a s.len s.cap] :: ownS eT2 2 s zs :: R) (fun h R hs => setR_iff.1 hs) fun s2 => ?_
      refine W.fact (own_len' (enc := eT2) (size := 2) (s := s2) (xs := zs)) fun ls2 => ?_
      refine W.for zs.length (fun i x => x.1 = (i : Int)) (fun _ _ => _) rfl Sub.rfl (fun i x hi hI => by rw [hI, ls]; exact decide_eq_decide.2 (by omega)) ?_ ?_
      · rintro ⟨_, ⟨⟩⟩ hI K hd
        exact W.pure (hd _ _ (W.inl (W.pure (fin (by repeat (first | with_reducible exact Go.H.has0 | apply Go.H.hasS))))))
      · rintro j ⟨_, ⟨⟩⟩ hlt2 hI K hnx hd
        simp only at hI
        subst hI
        have hy := List.getElem?_eq_getElem hlt2
        refine W.idx (enc := eT2) (s := s) (xs := zs) (i := j) hlt2 fun a ha => ?_
        refine W.loadeN (enc := eT2) (s := s) (x := zs[j]) (v := (zs[j].1, zs[j].2, ())) ha hy ?_
        refine W.nonnil (W.load (b := r) (v := s2) ?_)
        refine W.idx (enc := eT2) (s := s2) (xs := zs) (i := j) hlt2 fun a2 ha2 => ?_
        refine W.loadeN (enc := eT2) (s := s2) (x := zs[j]) (v := (zs[j].1, zs[j].2, ())) ha2 hy ?_
        refine W.ff (by simp) (W.pure (hnx _ ?_))
        simp only; rw [wrap_id (by omega) (by omega)]; rfl
end Go.Proofs.YtngpaokjbcjpgaaDoor
namespace Go.Proofs.YtngpaokjbcjpgaaDoor
open Go.ChangeShapes Go.WideShapes Go.ChangeAt Go.RowKit Go.Proofs Go.H
set_option linter.unusedSimpArgs false
set_option linter.unusedVariables false
set_option maxRecDepth 100000
def laid17 : List (String × DataW Unit) := Rows.tagsPlaysRow.laid
noncomputable def laidWorld (os : Os) : World := World.doorLaid Tryd.prog 400 os
theorem laid_met (os : Os) (args : Array Value) : laidMetH Tryd.prog laid17 ((laidWorld os).forCall (fun _ _ => 0) ⟨#[], args, []⟩).memory :=
  laidMetH_of_parts3 (fuel := 8) (laidMet_of_run' 8 (by kernel_rfl) (by kernel_rfl)) (by kernel_rfl) (by kernel_rfl)
abbrev NoHyp (_ : Heap) : Prop := True
theorem nohyp_of_laid {W : World} (h : laidMetH Tryd.prog laid17 W) (hsh : W.ShapedOpen Tryd.prog) : NoHyp W.heap := trivial
abbrev good16 (x : Int × Int) : Prop := (Lit.int .i64 x.1).wf = true ∧ (Lit.int .i64 x.2).wf = true
section
variable {H : Type} {ec : TypeId × Value → H} {w : World} {base : Nat} {sp : Nat → Bool} {held : Bool} {ok : TypeId → DataW H → Prop} {top : Nat} {wt : TypeId → Nat}
theorem rd_Tag16 (hk : Go.R.OkLaw Tryd.prog ok top wt) : Go.R.RdG ec Tryd.prog w base sp held ok 24 (fun x : Int × Int => [.int .i64 x.1, .int .i64 x.2]) good16 :=
  Go.R.rg_struct hk Tryd.underlying24 (n := 2) (by kernel_rfl)
    (Go.R.rf_cons (c := 1) (by kernel_rfl) (by rfl) (Go.R.rg_int Tryd.underlying3) (Go.R.rf_one (c := 1) (by kernel_rfl) (by rfl) (by decide) (Go.R.rg_int Tryd.underlying2)))
theorem rd_Tags16 (hk : Go.R.OkLaw Tryd.prog ok top wt) : Go.R.RdG ec Tryd.prog w base sp held ok 22 (fun x : Slc × List (Int × Int) => [.slice x.1.a x.1.len x.1.cap]) (Go.R.GoodG (fun x : Int × Int => [.int .i64 x.1, .int .i64 x.2]) 2 (wt 24) top w.heap good16) :=
  Go.R.rg_slice hk Tryd.underlying22 (by kernel_rfl) rfl (rd_Tag16 hk)
end
end Go.Proofs.YtngpaokjbcjpgaaDoor
