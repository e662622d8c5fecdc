/-
  QFrontNil1: what the proof FrontNilProof reaches of our texts: HB, Hrd, Sf, Hv, Hu, Hwp, Xv, Hx, Hbt, Xs, Xo, Xp, Xm, Xn, Xt, Xu, Xw, Xa, Xb, Xd.
-/
import Derived.Test.YtkpjgmdaolohiaaGreatDoorQFrontNil0
import Derived.MapKept
import Derived.Below
import Derived.Laws.Append
import Derived.ChangeArms
import Derived.DataReads
import Derived.SizedLaws
import Derived.Handed
import Derived.OpenShut
import Derived.Test.YtkpjgmdaolohiaaGreatDoorProg
import Derived.KernelRfl
namespace Go.H
set_option linter.unusedSimpArgs false
set_option linter.unusedVariables false
open Go.MapKept (Stamped)
abbrev PH := Nat → Option Obj
def PH.sub (m : PH) (h : Heap) : Prop := ∀ k o, m k = some o → h[k]? = some o
def PH.disj (a b : PH) : Prop := ∀ k, a k = none ∨ b k = none
def PH.join (a b : PH) : PH := fun k => match a k with | some o => some o | none => b k
abbrev Asn := PH → Prop
def star (A B : Asn) : Asn := fun m => ∃ a b, a.disj b ∧ m = a.join b ∧ A a ∧ B b
def stars : List Asn → Asn
  | [] => fun _ => True
  | A :: L => star A (stars L)
def exA {α : Type} (f : α → Asn) : Asn := fun m => ∃ x, f x m
def pr (p : Prop) : Asn := fun _ => p
def blk (b : Nat) (o : Obj) : Asn := fun m => m b = some o
def cells (b : Nat) (cs : Array Value) : Asn := exA fun T => blk b (.cells cs T (0, 0))
def old (h0 : Heap) : Asn := fun m => ∀ (k : Nat) (o : Obj), h0[k]? = some o → m k = some o
def sat (h : Heap) (L : List Asn) : Prop := ∃ m, PH.sub m h ∧ stars L m
theorem join_none {a b : PH} {k : Nat} (h : a k = none) : a.join b k = b k := by simp [PH.join, h]
theorem join_left {a b : PH} {k : Nat} {o : Obj} (h : a k = some o) : a.join b k = some o := by simp [PH.join, h]
theorem join_right {a b : PH} {k : Nat} {o : Obj} (hd : a.disj b) (h : b k = some o) : a.join b k = some o := by
  rcases hd k with h1 | h1
  · rw [join_none h1]; exact h
  · rw [h] at h1; cases h1
theorem join_sub {a b : PH} {h : Heap} (hs : PH.sub (a.join b) h) (hd : a.disj b) : PH.sub a h ∧ PH.sub b h :=
  ⟨fun k o ho => hs k o (join_left ho), fun k o ho => hs k o (join_right hd ho)⟩
theorem sub_join {a b : PH} {h : Heap} (ha : PH.sub a h) (hb : PH.sub b h) : PH.sub (a.join b) h := by
  intro k o ho
  cases hk : a k with
  | some o' => rw [join_left hk] at ho; cases ho; exact ha k _ hk
  | none => rw [join_none hk] at ho; exact hb k o ho
theorem join_assoc (a b c : PH) : (a.join b).join c = a.join (b.join c) := by
  funext k; simp only [PH.join]; cases a k <;> rfl
theorem join_comm {a b : PH} (h : a.disj b) : a.join b = b.join a := by
  funext k; simp only [PH.join]
  rcases h k with h1 | h1
  · rw [h1]; cases b k <;> rfl
  · rw [h1]; cases a k <;> rfl
theorem disj_comm {a b : PH} (h : a.disj b) : b.disj a := fun k => (h k).symm
theorem disj_join {a b c : PH} (h1 : a.disj c) (h2 : b.disj c) : (a.join b).disj c := by
  intro k
  rcases h1 k with h | h
  · rw [join_none h]; exact h2 k
  · exact .inr h
theorem disj_of_join {a b c : PH} (h : (a.join b).disj c) (hd : a.disj b) : a.disj c ∧ b.disj c := by
  refine ⟨fun k => ?_, fun k => ?_⟩
  · rcases h k with h1 | h1
    · cases hk : a k with
      | none => exact .inl rfl
      | some o => rw [join_left hk] at h1; cases h1
    · exact .inr h1
  · rcases h k with h1 | h1
    · cases hk : b k with
      | none => exact .inl rfl
      | some o => rw [join_right hd hk] at h1; cases h1
    · exact .inr h1
theorem star_assoc {A B C : Asn} {m : PH} (h : star (star A B) C m) : star A (star B C) m := by
  obtain ⟨ab, c, hd, rfl, ⟨a, b, hd', rfl, ha, hb⟩, hc⟩ := h
  obtain ⟨h1, h2⟩ := disj_of_join hd hd'
  exact ⟨a, b.join c, disj_comm (disj_join (disj_comm hd') (disj_comm h1)), join_assoc a b c, ha, b, c, h2, rfl, hb, hc⟩
theorem star_assoc' {A B C : Asn} {m : PH} (h : star A (star B C) m) : star (star A B) C m := by
  obtain ⟨a, bc, hd, rfl, ha, b, c, hd', rfl, hb, hc⟩ := h
  obtain ⟨h1, h2⟩ := disj_of_join (disj_comm hd) hd'
  exact ⟨a.join b, c, disj_join (disj_comm h2) hd', (join_assoc a b c).symm, ⟨a, b, disj_comm h1, rfl, ha, hb⟩, hc⟩
theorem star_comm {A B : Asn} {m : PH} (h : star A B m) : star B A m := by
  obtain ⟨a, b, hd, rfl, ha, hb⟩ := h
  exact ⟨b, a, disj_comm hd, join_comm hd, hb, ha⟩
theorem star_mono {A A' B B' : Asn} (ha : ∀ m, A m → A' m) (hb : ∀ m, B m → B' m) {m : PH} (h : star A B m) : star A' B' m := by
  obtain ⟨a, b, hd, rfl, h1, h2⟩ := h
  exact ⟨a, b, hd, rfl, ha _ h1, hb _ h2⟩
section
variable {h : Heap} {A B C D E F G : Asn} {R : List Asn}
theorem sat.imp (hs : sat h (A :: R)) (ha : ∀ m, A m → B m) : sat h (B :: R) := by
  obtain ⟨m, h1, h2⟩ := hs
  exact ⟨m, h1, star_mono ha (fun _ h => h) h2⟩
theorem sat.tail {R' : List Asn} (hs : sat h (A :: R)) (hr : ∀ m, stars R m → stars R' m) : sat h (A :: R') := by
  obtain ⟨m, h1, h2⟩ := hs
  exact ⟨m, h1, star_mono (fun _ h => h) hr h2⟩
theorem stars_swap {m : PH} (h : stars (A :: B :: R) m) : stars (B :: A :: R) m :=
  star_assoc (star_mono (fun _ h => star_comm h) (fun _ h => h) (star_assoc' h))
theorem sat.p1 (hs : sat h (A :: B :: R)) : sat h (B :: A :: R) := let ⟨m, h1, h2⟩ := hs; ⟨m, h1, stars_swap h2⟩
theorem sat.drop (hs : sat h (A :: R)) : sat h R := by
  obtain ⟨m, h1, a, r, hd, rfl, ha, hr⟩ := hs
  exact ⟨r, (join_sub h1 hd).2, hr⟩
theorem sat.star_iff : sat h (star A B :: R) ↔ sat h (A :: B :: R) :=
  ⟨fun ⟨m, h1, h2⟩ => ⟨m, h1, star_assoc h2⟩, fun ⟨m, h1, h2⟩ => ⟨m, h1, star_assoc' h2⟩⟩
theorem sat.ex_iff {α : Type} {f : α → Asn} : sat h (exA f :: R) ↔ ∃ x, sat h (f x :: R) := by
  constructor
  · rintro ⟨m, h1, a, r, hd, rfl, ⟨x, ha⟩, hr⟩
    exact ⟨x, _, h1, a, r, hd, rfl, ha, hr⟩
  · rintro ⟨x, m, h1, a, r, hd, rfl, ha, hr⟩
    exact ⟨_, h1, a, r, hd, rfl, ⟨x, ha⟩, hr⟩
theorem sat.pr_iff {p : Prop} : sat h (pr p :: R) ↔ p ∧ sat h R := by
  constructor
  · intro hs
    refine ⟨?_, hs.drop⟩
    obtain ⟨m, h1, a, r, hd, rfl, ha, hr⟩ := hs
    exact ha
  · rintro ⟨hp, m, h1, h2⟩
    refine ⟨m, h1, fun _ => none, m, fun k => .inl rfl, ?_, hp, h2⟩
    funext k; rfl
theorem stars_append : ∀ (L R : List Asn) {m : PH}, star (stars L) (stars R) m ↔ stars (L ++ R) m
  | [], R, m => by
    constructor
    · rintro ⟨a, b, hd, rfl, -, hb⟩
      exact up R (a.join b) b (fun k o ho => join_right hd ho) hb
    · intro hr
      exact ⟨fun _ => none, m, fun k => .inl rfl, by funext k; rfl, trivial, hr⟩
  | A :: L, R, m => by
    constructor
    · intro hm
      exact star_mono (fun _ h => h) (fun _ h => (stars_append L R).1 h) (star_assoc hm)
    · intro hm
      exact star_assoc' (star_mono (fun _ h => h) (fun _ h => (stars_append L R).2 h) hm)
where
  up : ∀ (R : List Asn) (m m' : PH), (∀ k o, m' k = some o → m k = some o) → stars R m' → stars R m
    | [], _, _, _, _ => trivial
    | A :: R, m, m', hsub, ⟨a, b, hd, he, ha, hb⟩ => by
      subst he
      refine ⟨a, fun k => match a k with | some _ => none | none => m k, fun k => ?_, ?_, ha, ?_⟩
      · cases hk : a k with
        | none => exact .inl rfl
        | some o => exact .inr (by simp only [hk])
      · funext k
        cases hk : a k with
        | none => rw [join_none hk]; simp [hk]
        | some o => rw [join_left hk]; exact hsub k o (join_left hk)
      · refine up R _ b (fun k o ho => ?_) hb
        have hak : a k = none := by
          rcases hd k with h1 | h1
          · exact h1
          · rw [ho] at h1; cases h1
        simp only [hak]
        exact hsub k o (by rw [join_none hak]; exact ho)
theorem sat.stars_iff {L : List Asn} : sat h (stars L :: R) ↔ sat h (L ++ R) :=
  ⟨fun ⟨m, h1, h2⟩ => ⟨m, h1, (stars_append L R).1 h2⟩, fun ⟨m, h1, h2⟩ => ⟨m, h1, (stars_append L R).2 h2⟩⟩
theorem sat.get {b : Nat} {o : Obj} (hs : sat h (blk b o :: R)) : h[b]? = some o := by
  obtain ⟨m, h1, a, r, hd, rfl, ha, hr⟩ := hs
  exact h1 b o (join_left ha)
theorem sat.lt {b : Nat} {o : Obj} (hs : sat h (blk b o :: R)) : b < h.size := (Array.getElem?_eq_some_iff.1 hs.get).1
theorem sat.turn {b : Nat} {o o' : Obj} {h' : Heap} (hs : sat h (blk b o :: R)) (hb : h'[b]? = some o') (hk : ∀ k, k ≠ b → h'[k]? = h[k]?) : sat h' (blk b o' :: R) := by
  obtain ⟨m, h1, a, r, hd, rfl, ha, hr⟩ := hs
  have hrb : r b = none := by
    rcases hd b with h2 | h2
    · rw [ha] at h2; cases h2
    · exact h2
  refine ⟨PH.join (fun k => if k = b then some o' else none) r, ?_, _, r, fun k => ?_, rfl, by simp [blk], hr⟩
  · refine sub_join (fun k x hx => ?_) (fun k x hx => ?_)
    · have hx' : (if k = b then some o' else none) = some x := hx
      split at hx'
      · rename_i e; subst e; cases hx'; exact hb
      · cases hx'
    · rw [hk k (fun e => by subst e; rw [hrb] at hx; cases hx)]
      exact (join_sub h1 hd).2 k x hx
  · by_cases e : k = b
    · subst e; exact .inr hrb
    · exact .inl (by simp [e])
theorem sat.push {o : Obj} (hs : sat h R) : sat (h.push o) (blk h.size o :: R) := by
  obtain ⟨m, h1, hr⟩ := hs
  have hm : m h.size = none := by
    cases hh : m h.size with
    | none => rfl
    | some x =>
      have := h1 _ _ hh
      rw [Array.getElem?_eq_none (by omega)] at this
      cases this
  refine ⟨PH.join (fun k => if k = h.size then some o else none) m, ?_, _, m, fun k => ?_, rfl, by simp [blk], hr⟩
  · refine sub_join (fun k x hx => ?_) (fun k x hx => ?_)
    · have hx' : (if k = h.size then some o else none) = some x := hx
      split at hx'
      · rename_i e; subst e; cases hx'; simp
      · cases hx'
    · have := h1 k x hx
      have hlt := (Array.getElem?_eq_some_iff.1 this).1
      rw [Array.getElem?_push, if_neg (by omega)]
      exact this
  · by_cases e : k = h.size
    · subst e; exact .inr hm
    · exact .inl (by simp [e])
theorem sat.old_get {h0 : Heap} {k : Nat} {o : Obj} (hs : sat h (old h0 :: R)) (hk : h0[k]? = some o) : h[k]? = some o := by
  obtain ⟨m, h1, a, r, hd, rfl, ha, hr⟩ := hs
  exact h1 k o (join_left (ha k o hk))
theorem sat_old (h0 : Heap) : sat h0 [old h0] := by
  refine ⟨fun k => h0[k]?, fun k o ho => ho, fun k => h0[k]?, fun _ => none, fun k => .inr rfl, ?_, fun k o ho => ho, trivial⟩
  funext k
  simp only [PH.join]
  cases h0[k]? <;> rfl
theorem cells_iff {b : Nat} {cs : Array Value} : sat h (cells b cs :: R) ↔ ∃ T, sat h (blk b (.cells cs T (0, 0)) :: R) := sat.ex_iff
theorem sat.cell {b : Nat} {cs : Array Value} (hs : sat h (cells b cs :: R)) (i : Nat) : cellH h ⟨b, i, none⟩ = cs[i]? := by
  obtain ⟨T, hs⟩ := cells_iff.1 hs
  simp [cellH, hs.get]
theorem sat.free {b : Nat} {cs : Array Value} (hs : sat h (cells b cs :: R)) (i : Nat) : frozenH h ⟨b, i, none⟩ = false := by
  obtain ⟨T, hs⟩ := cells_iff.1 hs
  simp [frozenH, hs.get]
theorem sat.set {b : Nat} {cs : Array Value} (hs : sat h (cells b cs :: R)) (i : Nat) (v : Value) : sat (setCellH h ⟨b, i, none⟩ v) (cells b (cs.setIfInBounds i v) :: R) := by
  obtain ⟨T, hs⟩ := cells_iff.1 hs
  refine cells_iff.2 ⟨T, hs.turn ?_ ?_⟩
  · simp [setCellH, Array.getElem?_modify, hs.get]
  · intro k hk
    simp only [setCellH, Array.getElem?_modify]
    rw [if_neg (fun e => hk e.symm)]
theorem sat.push_cells {T : TypeId} {cs : Array Value} (hs : sat h R) : sat (h.push (.cells cs T)) (cells h.size cs :: R) := cells_iff.2 ⟨T, hs.push⟩
end
section
variable {α β : Type} {h : Heap} {Q : α → Heap → Prop} {R : List Asn}
@[simp] theorem HM.pure_apply (a : α) : HM.pure a h Q = Q a h := rfl
@[simp] theorem HM.bind_apply (m : HM β) (f : β → HM α) : HM.bind m f h Q = m h (fun b h' => f b h' Q) := rfl
@[simp] theorem HM.ite_apply (b : Bool) (x y : HM α) : HM.ite b x y h Q = if b = true then x h Q else y h Q := rfl
@[simp] theorem HM.both_apply (x y : HM α) : HM.both x y h Q = (x h Q ∧ y h Q) := rfl
@[simp] theorem HM.req_apply (p : Prop) (m : HM α) : HM.req p m h Q = (p ∧ m h Q) := rfl
@[simp] theorem HM.fail_apply : (HM.fail : HM α) h Q = False := rfl
@[simp] theorem HM.nonnil_some (a : Addr) (Q : Addr → Heap → Prop) : HM.nonnil (some a) h Q = Q a h := by simp [HM.nonnil]
theorem HM.load1_of {t : Tag} {a : Addr} {x : t.ty} {Q : t.ty → Heap → Prop} (hc : cellH h a = some (t.val x)) (hq : Q x h) : HM.load1 t a h Q := ⟨x, hc, hq⟩
@[simp] theorem Addr.add_at (b o n : Nat) : Addr.add ⟨b, o, none⟩ n = ⟨b, o + n, none⟩ := by
  cases n <;> simp [Addr.add]
@[simp] theorem load1_int (k : IntKind) (a : Addr) (Q : Int → Heap → Prop) : HM.load1 (.int k) a h Q = ∃ x, cellH h a = some (.int k x) ∧ Q x h := rfl
@[simp] theorem load1_bool (a : Addr) (Q : Bool → Heap → Prop) : HM.load1 .bool a h Q = ∃ x, cellH h a = some (.bool x) ∧ Q x h := rfl
@[simp] theorem load1_str (a : Addr) (Q : ByteArray → Heap → Prop) : HM.load1 .str a h Q = ∃ x, cellH h a = some (.string x) ∧ Q x h := rfl
@[simp] theorem load1_ptr (a : Addr) (Q : Option Addr → Heap → Prop) : HM.load1 .ptr a h Q = ∃ x, cellH h a = some (.pointer x) ∧ Q x h := rfl
@[simp] theorem load1_map (a : Addr) (Q : Option Nat → Heap → Prop) : HM.load1 .map a h Q = ∃ x, cellH h a = some (.map x) ∧ Q x h := rfl
@[simp] theorem load1_any (a : Addr) (Q : Value → Heap → Prop) : HM.load1 .any a h Q = ∃ x, cellH h a = some x ∧ Q x h := rfl
def slcOf : Option Value → Option Slc
  | some (.slice p n c) => some ⟨p, n, c⟩
  | _ => none
@[simp] theorem slcOf_slice (p : Option Addr) (n c : Nat) : slcOf (some (.slice p n c)) = some ⟨p, n, c⟩ := rfl
@[simp] theorem Slc.eta (s : Slc) : (⟨s.a, s.len, s.cap⟩ : Slc) = s := rfl
@[simp] theorem load1_slc (a : Addr) (Q : Slc → Heap → Prop) : HM.load1 .slc a h Q = ∃ x, slcOf (cellH h a) = some x ∧ Q x h := by
  refine propext ⟨fun ⟨x, h1, h2⟩ => ⟨x, by rw [h1]; rfl, h2⟩, fun ⟨x, h1, h2⟩ => ⟨x, ?_, h2⟩⟩
  unfold slcOf at h1
  split at h1
  · rename_i e; rw [e]; cases h1; rfl
  · cases h1
theorem store1_cells {b : Nat} {cs : Array Value} {i : Nat} {v : Value} {Q : Unit → Heap → Prop} (hs : sat h (cells b cs :: R)) (hi : i < cs.size) (hv : v.oneCell' = true)
    (hq : ∀ h', sat h' (cells b (cs.setIfInBounds i v) :: R) → Q () h') : HM.store1 ⟨b, i, none⟩ v h Q :=
  ⟨by rw [hs.cell i]; simp [hi], hs.free i, hv, hq _ (hs.set i v)⟩
theorem new_cells {cs : Array Value} {T : TypeId} {Q : Nat → Heap → Prop} (hs : sat h R) (hq : ∀ b h', sat h' (cells b cs :: R) → Q b h') : HM.new (.cells cs T) h Q := hq _ _ hs.push_cells
theorem new_blk {o : Obj} {Q : Nat → Heap → Prop} (hs : sat h R) (hq : ∀ b h', sat h' (blk b o :: R) → Q b h') : HM.new o h Q := hq _ _ hs.push
def Kind.un (k : Kind) (Q : k.ty → Heap → Prop) (v : Value) (h : Heap) : Prop := ∃ x, v = k.val x ∧ Q x h
def KTup.un (ks : List Kind) (Q : KTup ks → Heap → Prop) (v : Value) (h : Heap) : Prop := ∃ x, v = .tuple (KTup.vals ks x).toArray ∧ Q x h
@[simp] theorem HM.call1_apply (P : Program) (k : Kind) (f : FuncId) (args : Array Value) (Q : k.ty → Heap → Prop) : HM.call1 P k f args h Q = HCalls P f args h (k.un Q) := rfl
@[simp] theorem HM.callN_apply (P : Program) (ks : List Kind) (f : FuncId) (args : Array Value) (Q : KTup ks → Heap → Prop) : HM.callN P ks f args h Q = HCalls P f args h (KTup.un ks Q) := rfl
@[simp] theorem un_int (k : IntKind) (Q : Int → Heap → Prop) (n : Int) : Kind.un (.one (.int k)) Q (.int k n) h = Q n h := by simp [Kind.un, Kind.val, Tag.val]
@[simp] theorem un_bool (Q : Bool → Heap → Prop) (b : Bool) : Kind.un (.one .bool) Q (.bool b) h = Q b h := by
  simp only [Kind.un, Kind.val, Tag.val, Value.bool.injEq]
  exact propext ⟨fun ⟨x, h1, h2⟩ => h1 ▸ h2, fun h => ⟨b, rfl, h⟩⟩
@[simp] theorem un_str (Q : ByteArray → Heap → Prop) (b : ByteArray) : Kind.un (.one .str) Q (.string b) h = Q b h := by simp [Kind.un, Kind.val, Tag.val]
@[simp] theorem un_ptr (Q : Option Addr → Heap → Prop) (b : Option Addr) : Kind.un (.one .ptr) Q (.pointer b) h = Q b h := by simp [Kind.un, Kind.val, Tag.val]
@[simp] theorem un_map (Q : Option Nat → Heap → Prop) (b : Option Nat) : Kind.un (.one .map) Q (.map b) h = Q b h := by simp [Kind.un, Kind.val, Tag.val]
@[simp] theorem un_any (Q : Value → Heap → Prop) (b : Value) : Kind.un (.one .any) Q b h = Q b h := by simp [Kind.un, Kind.val, Tag.val]
@[simp] theorem un_slc (Q : Slc → Heap → Prop) (a : Option Addr) (n c : Nat) : Kind.un (.one .slc) Q (.slice a n c) h = Q ⟨a, n, c⟩ h := by
  refine propext ⟨?_, fun hq => ⟨⟨a, n, c⟩, rfl, hq⟩⟩
  rintro ⟨x, h1, h2⟩
  cases h1
  exact h2
@[simp] theorem un2 (k l : Kind) (Q : KTup [k, l] → Heap → Prop) (v w : Value) : KTup.un [k, l] Q (.tuple #[v, w]) h = k.un (fun x _ => l.un (fun y h => Q (x, y, ()) h) w h) v h := by
  refine propext ⟨?_, ?_⟩
  · rintro ⟨⟨x, y, u⟩, h1, h2⟩
    have h1 : #[v, w] = [k.val x, l.val y].toArray := Value.tuple.inj h1
    have h1 := congrArg Array.toList h1
    simp at h1
    exact ⟨x, h1.1, y, h1.2, h2⟩
  · rintro ⟨x, h1, y, h2, h3⟩
    exact ⟨(x, y, ()), by rw [h1, h2]; rfl, h3⟩
@[simp] theorem un3 (k l m : Kind) (Q : KTup [k, l, m] → Heap → Prop) (v w z : Value) : KTup.un [k, l, m] Q (.tuple #[v, w, z]) h = k.un (fun x _ => l.un (fun y _ => m.un (fun t h => Q (x, y, t, ()) h) z h) w h) v h := by
  refine propext ⟨?_, ?_⟩
  · rintro ⟨⟨x, y, t, u⟩, h1, h2⟩
    have h1 : #[v, w, z] = [k.val x, l.val y, m.val t].toArray := Value.tuple.inj h1
    have h1 := congrArg Array.toList h1
    simp at h1
    exact ⟨x, h1.1, y, h1.2.1, t, h1.2.2, h2⟩
  · rintro ⟨x, h1, y, h2, t, h3, h4⟩
    exact ⟨(x, y, t, ()), by rw [h1, h2, h3]; rfl, h4⟩
@[simp] theorem un0 (Q : KTup [] → Heap → Prop) : KTup.un [] Q (.tuple #[]) h = Q () h := by
  refine propext ⟨fun ⟨x, _, h2⟩ => h2, fun h => ⟨(), rfl, h⟩⟩
@[simp] theorem packed0 (x : Unit) : packed [] x = .tuple #[] := rfl
@[simp] theorem packed1 (k : Kind) (x : k.ty) : packed [k] (x, ()) = k.val x := rfl
@[simp] theorem packed2 (k l : Kind) (x : k.ty) (y : l.ty) : packed [k, l] (x, y, ()) = .tuple #[k.val x, l.val y] := rfl
@[simp] theorem packed3 (k l m : Kind) (x : k.ty) (y : l.ty) (z : m.ty) : packed [k, l, m] (x, y, z, ()) = .tuple #[k.val x, l.val y, m.val z] := rfl
@[simp] theorem val_one (t : Tag) (x : t.ty) : Kind.val (.one t) x = t.val x := rfl
@[simp] theorem val_int (k : IntKind) (x : Int) : Tag.val (.int k) x = .int k x := rfl
@[simp] theorem val_bool (x : Bool) : Tag.val .bool x = .bool x := rfl
@[simp] theorem val_str (x : ByteArray) : Tag.val .str x = .string x := rfl
@[simp] theorem val_ptr (x : Option Addr) : Tag.val .ptr x = .pointer x := rfl
@[simp] theorem val_map (x : Option Nat) : Tag.val .map x = .map x := rfl
@[simp] theorem val_any (x : Value) : Tag.val .any x = x := rfl
@[simp] theorem val_slc (x : Slc) : Tag.val .slc x = .slice x.a x.len x.cap := rfl
@[simp] theorem ex_int {k : IntKind} {n : Int} {Q : Int → Prop} : (∃ x : Int, Value.int k n = .int k x ∧ Q x) = Q n := by simp
theorem loop_of {σ τ : Type} {body : σ → HM (σ ⊕ τ)} {s : σ} {Q : τ → Heap → Prop} (I : σ → Heap → Prop) (μ : σ → Heap → Nat) (h0 : I s h) (hr : ∀ s h, I s h → body s h fun r h' => match r with
      | .inl s' => I s' h' ∧ μ s' h' < μ s h
      | .inr t => Q t h') : HM.loop body s h Q := ⟨I, μ, h0, hr⟩
end
section
variable {K V : Type} [DecidableEq K]
def mget (l : List (K × V)) (k : K) : Option V := (l.find? (fun p => decide (p.1 = k))).map (·.2)
def mset : List (K × V) → K → V → List (K × V)
  | [], k, v => [(k, v)]
  | (a, b) :: l, k, v => if a = k then (k, v) :: l else (a, b) :: mset l k v
def mdel : List (K × V) → K → List (K × V)
  | [], _ => []
  | (a, b) :: l, k => if a = k then l else (a, b) :: mdel l k
@[simp] theorem mget_nil (k : K) : mget ([] : List (K × V)) k = none := rfl
theorem mget_cons (a : K) (b : V) (l : List (K × V)) (k : K) : mget ((a, b) :: l) k = if a = k then some b else mget l k := by
  by_cases h : a = k <;> simp [mget, List.find?, h]
def Ents (ek : K → Value) (ev : V → Value) (l : List (K × V)) (es : List MapEntry) : Prop := es.map (fun e => (e.key, e.val)) = l.map (fun p => (ek p.1, ev p.2))
structure KeyLaw (kd : SameK) (ek : K → Value) : Prop where
  same : ∀ a b, kd (ek a) (ek b) = some (decide (a = b))
  bits : ∀ a, Instr.sameBits 10000 (ek a) (ek a) = true
theorem place_of {kd : SameK} {ek : K → Value} (hk : KeyLaw kd ek) {ev : V → Value} (k : K) : ∀ (l : List (K × V)) (es : List MapEntry) (i : Nat), Ents ek ev l es →
    (mget l k = none ∧ placeAt kd (ek k) es i = some none) ∨ ∃ v j e, mget l k = some v ∧ placeAt kd (ek k) es i = some (some (i + j, ev v)) ∧ es[j]? = some e ∧ e.key = ek k
  | [], [], i, _ => .inl ⟨rfl, rfl⟩
  | [], _ :: _, i, h => by simp [Ents] at h
  | _ :: _, [], i, h => by simp [Ents] at h
  | (a, b) :: l, e :: es, i, h => by
    simp only [Ents, List.map_cons, List.cons.injEq, Prod.mk.injEq] at h
    obtain ⟨⟨h1, h2⟩, h3⟩ := h
    simp only [placeAt, h1, hk.same, mget_cons]
    by_cases hka : k = a
    · subst hka
      right
      exact ⟨b, 0, e, by simp, by simp [h2], rfl, h1⟩
    · have hak : ¬ a = k := fun hh => hka hh.symm
      simp only [hka, hak, decide_false, if_false]
      rcases place_of hk k l es (i + 1) h3 with ⟨h4, h5⟩ | ⟨v, j, e', h4, h5, h6, h7⟩
      · exact .inl ⟨h4, h5⟩
      · exact .inr ⟨v, j + 1, e', h4, by rw [h5]; congr 3; omega, by simpa using h6, h7⟩
theorem ents_set {ek : K → Value} (hinj : ∀ a b, ek a = ek b → a = b) {ev : V → Value} (k : K) (x : V) : ∀ (l : List (K × V)) (es : List MapEntry), Ents ek ev l es → ∀ (i : Nat) (o : Nat × Value) (kd : SameK), KeyLaw kd ek →
    placeAt kd (ek k) es i = some (some o) → Ents ek ev (mset l k x) (es.modify (o.1 - i) fun e => { e with key := ek k, val := ev x }) ∧ i ≤ o.1
  | [], [], _, i, o, kd, _, hf => by simp [placeAt] at hf
  | [], _ :: _, h, _, _, _, _, _ => by simp [Ents] at h
  | _ :: _, [], h, _, _, _, _, _ => by simp [Ents] at h
  | (a, b) :: l, e :: es, h, i, o, kd, hk, hf => by
    simp only [Ents, List.map_cons, List.cons.injEq, Prod.mk.injEq] at h
    obtain ⟨⟨h1, h2⟩, h3⟩ := h
    simp only [placeAt, h1, hk.same] at hf
    by_cases hka : k = a
    · subst hka
      simp only [decide_true, Option.some.injEq] at hf
      subst hf
      simp only [Nat.sub_self, mset, if_true]
      refine ⟨?_, Nat.le_refl _⟩
      simp [Ents, List.modify_zero_cons] at h3 ⊢
      exact h3
    · simp only [hka, decide_false] at hf
      obtain ⟨h4, h5⟩ := ents_set hinj k x l es h3 (i + 1) o kd hk hf
      refine ⟨?_, by omega⟩
      rw [show o.1 - i = (o.1 - (i + 1)) + 1 from by omega]
      simp only [mset, if_neg (fun hh : a = k => hka hh.symm), List.modify_succ_cons]
      simp only [Ents, List.map_cons, h1, h2]
      rw [h4]
theorem mset_none : ∀ (l : List (K × V)) (k : K) (v : V), mget l k = none → mset l k v = l ++ [(k, v)]
  | [], _, _, _ => rfl
  | (a, b) :: l, k, v, h => by
    rw [mget_cons] at h
    by_cases hak : a = k
    · rw [if_pos hak] at h; cases h
    · rw [if_neg hak] at h
      simp only [mset, if_neg hak, List.cons_append, mset_none l k v h]
theorem ents_del {ek : K → Value} {ev : V → Value} (k : K) : ∀ (l : List (K × V)) (es : List MapEntry), Ents ek ev l es → ∀ (i : Nat) (o : Nat × Value) (kd : SameK), KeyLaw kd ek →
    placeAt kd (ek k) es i = some (some o) → Ents ek ev (mdel l k) (es.eraseIdx (o.1 - i)) ∧ i ≤ o.1
  | [], [], _, i, o, kd, _, hf => by simp [placeAt] at hf
  | [], _ :: _, h, _, _, _, _, _ => by simp [Ents] at h
  | _ :: _, [], h, _, _, _, _, _ => by simp [Ents] at h
  | (a, b) :: l, e :: es, h, i, o, kd, hk, hf => by
    simp only [Ents, List.map_cons, List.cons.injEq, Prod.mk.injEq] at h
    obtain ⟨⟨h1, h2⟩, h3⟩ := h
    simp only [placeAt, h1, hk.same] at hf
    by_cases hka : k = a
    · subst hka
      simp only [decide_true, Option.some.injEq] at hf
      subst hf
      simp only [Nat.sub_self, mdel, if_true]
      exact ⟨h3, Nat.le_refl _⟩
    · simp only [hka, decide_false] at hf
      obtain ⟨h4, h5⟩ := ents_del k l es h3 (i + 1) o kd hk hf
      refine ⟨?_, by omega⟩
      rw [show o.1 - i = (o.1 - (i + 1)) + 1 from by omega]
      simp only [mdel, if_neg (fun hh : a = k => hka hh.symm), List.eraseIdx_cons_succ]
      simp only [Ents, List.map_cons, h1, h2]
      rw [h4]
theorem mdel_none : ∀ (l : List (K × V)) (k : K), mget l k = none → mdel l k = l
  | [], _, _ => rfl
  | (a, b) :: l, k, h => by
    rw [mget_cons] at h
    by_cases hak : a = k
    · rw [if_pos hak] at h; cases h
    · rw [if_neg hak] at h
      simp only [mdel, if_neg hak, mdel_none l k h]
end
section
variable {K V : Type}
def mapA (ek : K → Value) (ev : V → Value) (r : Nat) (l : List (K × V)) : Asn :=
  exA fun x : Array MapEntry × Nat => star (pr (Ents ek ev l x.1.toList ∧ Stamped x.1 x.2)) (blk r (.map x.1 x.2))
variable {h : Heap} {R : List Asn} {ek : K → Value}
theorem mapA_iff {ev : V → Value} {r : Nat} {l : List (K × V)} : sat h (mapA ek ev r l :: R) ↔ ∃ es clock, (Ents ek ev l es.toList ∧ Stamped es clock) ∧ sat h (blk r (.map es clock) :: R) := by
  unfold mapA
  rw [sat.ex_iff]
  constructor
  · rintro ⟨⟨es, c⟩, hs⟩
    rw [sat.star_iff, sat.pr_iff] at hs
    exact ⟨es, c, hs⟩
  · rintro ⟨es, c, hs⟩
    exact ⟨(es, c), by rw [sat.star_iff, sat.pr_iff]; exact hs⟩
theorem len_map {ev : V → Value} {r : Nat} {l : List (K × V)} {Q : Int → Heap → Prop} (hs : sat h (mapA ek ev r l :: R)) (hq : Q (l.length : Int) h) : HM.mapLen (some r) h Q := by
  obtain ⟨es, c, ⟨he, hst⟩, hs⟩ := mapA_iff.1 hs
  refine ⟨es.toList, c, by simpa [entriesH] using hs.get, ?_⟩
  have := congrArg List.length he
  simp at this
  simpa [this] using hq
end
section
variable {K V : Type} [DecidableEq K] {h : Heap} {R : List Asn} {ek : K → Value}
theorem mget_none_iff (l : List (K × V)) (k : K) : mget l k = none ↔ k ∉ l.map (·.1) := by
  induction l with
  | nil => simp
  | cons p l ih =>
    obtain ⟨a, b⟩ := p
    rw [mget_cons]
    by_cases h : a = k
    · simp [h]
    · rw [if_neg h, ih]
      simp [Ne.symm h]
theorem set_map {kd : SameK} (hk : KeyLaw kd ek) (hinj : ∀ a b, ek a = ek b → a = b) {ev : V → Value} {r : Nat} {l : List (K × V)} {k : K} {x : V} {Q : Unit → Heap → Prop}
    (hs : sat h (mapA ek ev r l :: R)) (hq : ∀ h', sat h' (mapA ek ev r (mset l k x) :: R) → Q () h') : HM.mapSet kd (some r) (ek k) (ev x) h Q := by
  obtain ⟨es, c, ⟨he, hst⟩, hs⟩ := mapA_iff.1 hs
  have hlt := hs.lt
  rcases place_of hk k l es.toList 0 he with ⟨h1, h2⟩ | ⟨v, j, e, h1, h2, h3, h4⟩
  · refine ⟨r, es, c, none, rfl, hs.get, h2, hq _ (mapA_iff.2 ⟨_, _, ⟨?_, ?_⟩, hs.turn (o' := .map (es.push { key := ek k, val := ev x, born := c }) (c + 1)) (by simp [hlt]) (fun k hk => ?_)⟩)⟩
    · rw [mset_none l k x h1]
      simp only [Ents, Array.toList_push, List.map_append, List.map_cons, List.map_nil]
      rw [he]
    · refine Go.MapKept.stamped_push hst fun y hy hyk => ?_
      have e : es.toList.map (·.key) = (l.map (·.1)).map ek := by
        have := congrArg (List.map Prod.fst) he
        simpa [Function.comp_def] using this
      have hm : ek k ∈ (l.map (·.1)).map ek := by rw [← e, ← hyk]; exact List.mem_map_of_mem hy
      obtain ⟨k', hk', he'⟩ := List.mem_map.1 hm
      exact (mget_none_iff l k).1 h1 (hinj _ _ he' ▸ hk')
    · rw [Array.getElem?_setIfInBounds, if_neg (fun e => hk e.symm)]
  · have h3' : es[0 + j]? = some e := by simpa using h3
    refine ⟨r, es, c, some (0 + j, ev v), rfl, hs.get, h2, ?_, hk.bits k, hq _ (mapA_iff.2 ⟨_, _, ⟨?_, ?_⟩, hs.turn (o' := .map (es.modify (0 + j) fun e => { e with key := ek k, val := ev x }) c) (by simp [hlt]) (fun k hk => ?_)⟩)⟩
    · rw [h3']; exact h4
    · have := (ents_set hinj k x l es.toList he 0 _ kd hk h2).1
      simpa using this
    · refine Go.MapKept.stamped_modify hst _ _ (fun _ _ => rfl) (fun e' _ he' => ?_)
      rw [h3'] at he'
      cases he'
      exact h4.symm
    · rw [Array.getElem?_setIfInBounds, if_neg (fun e => hk e.symm)]
theorem del_map {kd : SameK} (hk : KeyLaw kd ek) {ev : V → Value} {r : Nat} {l : List (K × V)} {k : K} {Q : Unit → Heap → Prop}
    (hs : sat h (mapA ek ev r l :: R)) (hq : ∀ h', sat h' (mapA ek ev r (mdel l k) :: R) → Q () h') : HM.mapDel kd (some r) (ek k) h Q := by
  obtain ⟨es, c, ⟨he, hst⟩, hs⟩ := mapA_iff.1 hs
  have hlt := hs.lt
  rcases place_of hk k l es.toList 0 he with ⟨h1, h2⟩ | ⟨v, j, e, h1, h2, h3, h4⟩
  · refine ⟨es, c, none, hs.get, h2, hq _ (mapA_iff.2 ⟨es, c, ⟨by rw [mdel_none l k h1]; exact he, hst⟩, hs.turn (by simp [hlt]) (fun k hk => ?_)⟩)⟩
    rw [Array.getElem?_setIfInBounds, if_neg (fun e => hk e.symm)]
  · refine ⟨es, c, some (0 + j, ev v), hs.get, h2, hq _ (mapA_iff.2 ⟨_, _, ⟨?_, Go.MapKept.stamped_erase hst (0 + j)⟩, hs.turn (o' := .map (es.eraseIdxIfInBounds (0 + j)) c) (by simp [hlt]) (fun k hk => ?_)⟩)⟩
    · have := (ents_del k l es.toList he 0 _ kd hk h2).1
      have hj : j < es.size := by
        have := (List.getElem?_eq_some_iff.1 h3).1
        simpa using this
      simpa [Array.eraseIdxIfInBounds, hj] using this
    · rw [Array.getElem?_setIfInBounds, if_neg (fun e => hk e.symm)]
end
theorem key_int (k : IntKind) : KeyLaw (Instr.sameNow (.int k)) (fun n : Int => Value.int k n) := ⟨fun a b => by simp [Instr.sameNow]; exact Bool.eq_iff_iff.2 (by simp), fun a => by simp [Instr.sameBits]⟩
theorem key_str : KeyLaw (Instr.sameNow .string) (fun s : ByteArray => Value.string s) := ⟨fun a b => by
  simp only [Instr.sameNow, Option.some.injEq]
  exact (beq_toListBytes a b).trans (str_eq a b), fun a => by simp [Instr.sameBits, beq_toListBytes]⟩
end Go.H
namespace Go.H
set_option linter.unusedSimpArgs false
set_option linter.unusedVariables false
class Mono {α : Type} (m : HM α) : Prop where
  mono : ∀ (h : Heap) (Q1 Q2 : α → Heap → Prop), (∀ a h', Q1 a h' → Q2 a h') → m h Q1 → m h Q2
section
variable {α β σ τ : Type}
instance mono_pure (a : α) : Mono (HM.pure a) := ⟨fun _ _ _ hq hm => hq _ _ hm⟩
instance mono_bind (m : HM α) (f : α → HM β) [Mono m] [hf : ∀ a, Mono (f a)] : Mono (HM.bind m f) :=
  ⟨fun h _ _ hq hm => Mono.mono (m := m) h _ _ (fun a h' hx => (hf a).mono h' _ _ hq hx) hm⟩
instance : Mono (HM.fail : HM α) := ⟨fun _ _ _ _ hm => hm⟩
instance mono_both (x y : HM α) [hx : Mono x] [hy : Mono y] : Mono (HM.both x y) := ⟨fun h Q Q' hq hm => ⟨hx.mono h Q Q' hq hm.1, hy.mono h Q Q' hq hm.2⟩⟩
instance mono_ite (b : Bool) (x y : HM α) [Mono x] [Mono y] : Mono (HM.ite b x y) := ⟨fun h _ _ hq hm => by
  cases b
  · exact Mono.mono (m := y) h _ _ hq hm
  · exact Mono.mono (m := x) h _ _ hq hm⟩
instance mono_req (p : Prop) (m : HM α) [Mono m] : Mono (HM.req p m) := ⟨fun h _ _ hq hm => ⟨hm.1, Mono.mono (m := m) h _ _ hq hm.2⟩⟩
instance mono_loop (body : σ → HM (σ ⊕ τ)) (s : σ) [hb : ∀ s, Mono (body s)] : Mono (HM.loop body s) := ⟨fun _ _ _ hq => by
  rintro ⟨I, μ, h0, hr⟩
  refine ⟨I, μ, h0, fun s h hi => (hb s).mono h _ _ ?_ (hr s h hi)⟩
  intro r h' hx
  cases r with
  | inl _ => exact hx
  | inr _ => exact hq _ _ hx⟩
instance mono_elim (f : α → HM τ) (g : β → HM τ) (x : α ⊕ β) [hf : ∀ a, Mono (f a)] [hg : ∀ b, Mono (g b)] : Mono (Sum.elim f g x : HM τ) := by
  cases x with
  | inl a => exact hf a
  | inr b => exact hg b
instance (t : Tag) (a : Addr) : Mono (α := no_index (Tag.ty t)) (HM.load1 t a) := ⟨fun _ _ _ hq ⟨x, h1, h2⟩ => ⟨x, h1, hq _ _ h2⟩⟩
instance (ts : List Tag) (a : Addr) : Mono (α := no_index (Tup ts)) (HM.loadN ts a) := ⟨fun _ _ _ hq ⟨x, h1, h2⟩ => ⟨x, h1, hq _ _ h2⟩⟩
instance (a : Addr) (v : Value) : Mono (HM.store1 a v) := ⟨fun _ _ _ hq ⟨x, h1, h2, h3⟩ => ⟨x, h1, h2, hq _ _ h3⟩⟩
instance (a : Addr) (vs : List Value) : Mono (HM.storeN a vs) := ⟨fun _ _ _ hq ⟨x, h1⟩ => ⟨x, hq _ _ h1⟩⟩
instance (o : Obj) : Mono (HM.new o) := ⟨fun _ _ _ hq hm => hq _ _ hm⟩
instance (p : Option Addr) : Mono (HM.nonnil p) := ⟨fun _ _ _ hq ⟨x, h1, h2⟩ => ⟨x, h1, hq _ _ h2⟩⟩
instance (a : Option Addr) (len : Nat) (i : Int) (size : Nat) : Mono (HM.idx a len i size) := ⟨fun _ _ _ hq ⟨x, h1, h2, h3, h4⟩ => ⟨x, h1, h2, h3, hq _ _ h4⟩⟩
instance (s : ByteArray) (i : Int) : Mono (HM.strIdx s i) := ⟨fun _ _ _ hq ⟨x, h1, h2, h3⟩ => ⟨x, h1, h2, hq _ _ h3⟩⟩
instance (P : Program) (k : Kind) (f : FuncId) (args : Array Value) : Mono (α := no_index (Kind.ty k)) (HM.call1 P k f args) := ⟨fun _ _ _ hq hm => HCalls.mono hm fun _ _ ⟨x, h1, h2⟩ => ⟨x, h1, hq _ _ h2⟩⟩
instance (P : Program) (ks : List Kind) (f : FuncId) (args : Array Value) : Mono (α := no_index (KTup ks)) (HM.callN P ks f args) := ⟨fun _ _ _ hq hm => HCalls.mono hm fun _ _ ⟨x, h1, h2⟩ => ⟨x, h1, hq _ _ h2⟩⟩
instance (P : Program) (k : Kind) (v : Value) (args : Array Value) : Mono (α := no_index (Kind.ty k)) (HM.callV1 P k v args) := ⟨fun _ _ _ hq ⟨f, first, captured, h1, h2, hm⟩ => ⟨f, first, captured, h1, h2, HCalls.mono hm fun _ _ ⟨x, h1, h2⟩ => ⟨x, h1, hq _ _ h2⟩⟩⟩
instance (P : Program) (ks : List Kind) (v : Value) (args : Array Value) : Mono (α := no_index (KTup ks)) (HM.callVN P ks v args) := ⟨fun _ _ _ hq ⟨f, first, captured, h1, h2, hm⟩ => ⟨f, first, captured, h1, h2, HCalls.mono hm fun _ _ ⟨x, h1, h2⟩ => ⟨x, h1, hq _ _ h2⟩⟩⟩
instance (s : Slc) (lo hi mx : Option Int) (size : Nat) : Mono (HM.slice s lo hi mx size) := ⟨fun _ _ _ hq ⟨l, hh, m, h1, h2, h3, h4⟩ => ⟨l, hh, m, h1, h2, h3, hq _ _ h4⟩⟩
instance (s : ByteArray) (lo hi : Option Int) : Mono (HM.substr s lo hi) := ⟨fun _ _ _ hq ⟨l, hh, h1, h2, h4⟩ => ⟨l, hh, h1, h2, hq _ _ h4⟩⟩
instance (elem : TypeId) (size bytes : Nat) (zero : Array Value) (s : Slc) (n : Nat) (src : Heap → Array Value → Prop) : Mono (HM.append elem size bytes zero s n src) := ⟨fun h Q1 Q2 hq hm => by
  refine ⟨fun hc => ?_, fun hc => ?_⟩
  · obtain ⟨vs, h1, h2⟩ := hm.1 hc
    refine ⟨vs, h1, ?_⟩
    cases hs : s.a with
    | none => rw [hs] at h2; exact hq _ _ h2
    | some a => rw [hs] at h2; exact ⟨h2.1, hq _ _ h2.2⟩
  · obtain ⟨h1, h2, old, vs, h3, h4, h5⟩ := hm.2 hc
    exact ⟨h1, h2, old, vs, h3, h4, fun c hc hc2 => hq _ _ (h5 c hc hc2)⟩⟩
instance (elem : TypeId) (bytes : Nat) (zero : Array Value) (n c : Int) : Mono (HM.makeSlice elem bytes zero n c) := ⟨fun _ _ _ hq ⟨h1, h2, h3, h4, h5⟩ => ⟨h1, h2, h3, h4, hq _ _ h5⟩⟩
instance (d : Slc) (n : Nat) (src : Nat → Heap → Array Value → Prop) : Mono (HM.copy d n src) := ⟨fun h Q1 Q2 hq ⟨vs, h1, h2⟩ => by
  refine ⟨vs, h1, ?_⟩
  cases hs : d.a with
  | none => rw [hs] at h2; exact hq _ _ h2
  | some a => rw [hs] at h2; exact ⟨h2.1, hq _ _ h2.2⟩⟩
instance (kd : SameK) (zero : Value) (k : Kind) (r : Option Nat) (key : Value) : Mono (α := no_index (Kind.ty k × Bool)) (HM.lookup kd zero k r key) := ⟨fun _ _ _ hq ⟨es, c, o, x, h1, h2, h3, h4⟩ => ⟨es, c, o, x, h1, h2, h3, hq _ _ h4⟩⟩
instance (kd : SameK) (r : Option Nat) (key val : Value) : Mono (HM.mapSet kd r key val) := ⟨fun h Q1 Q2 hq ⟨b, es, c, o, h1, h2, h3, h4⟩ => by
  refine ⟨b, es, c, o, h1, h2, h3, ?_⟩
  cases o with
  | none => exact hq _ _ h4
  | some o => exact ⟨h4.1, h4.2.1, hq _ _ h4.2.2⟩⟩
instance (kd : SameK) (r : Option Nat) (key : Value) : Mono (HM.mapDel kd r key) := ⟨fun h Q1 Q2 hq hm => by
  cases r with
  | none => exact hq _ _ hm
  | some b =>
    obtain ⟨es, c, o, h1, h2, h3⟩ := hm
    refine ⟨es, c, o, h1, h2, ?_⟩
    cases o with
    | none => exact hq _ _ h3
    | some o => exact hq _ _ h3⟩
instance (zero : Array Value) (s : Slc) : Mono (HM.clearS zero s) := ⟨fun h Q1 Q2 hq hm => by
  unfold HM.clearS at hm ⊢
  cases ha : s.a with
  | none => simp only [ha] at hm ⊢; exact hq _ _ hm
  | some a =>
    simp only [ha] at hm ⊢
    by_cases hn : s.len = 0
    · rw [if_pos hn] at hm ⊢; exact hq _ _ hm
    · rw [if_neg hn] at hm ⊢; exact ⟨hm.1, hq _ _ hm.2⟩⟩
instance (r : Option Nat) : Mono (HM.clearM r) := ⟨fun h Q1 Q2 hq hm => by
  cases r with
  | none => exact hq _ _ hm
  | some r => obtain ⟨es, c, h1, h2⟩ := hm; exact ⟨es, c, h1, hq _ _ h2⟩⟩
instance (r : Option Nat) : Mono (HM.rangeM r) := ⟨fun h Q1 Q2 hq hm => by
  cases r with
  | none => exact hq _ _ hm
  | some r => obtain ⟨es, c, h1, h2⟩ := hm; exact ⟨es, c, h1, hq _ _ h2⟩⟩
instance (b : Nat) : Mono (HM.nextS b) := ⟨fun h Q1 Q2 hq ⟨s, p, h1, h2, h3⟩ => ⟨s, p, h1, fun hp => hq _ _ (h2 hp), fun hp => hq _ _ (h3 hp)⟩⟩
instance (b : Nat) : Mono (HM.nextM b) := ⟨fun h Q1 Q2 hq ⟨m, since, seen, last, h1, h2⟩ => ⟨m, since, seen, last, h1, by
  cases m with
  | none => exact hq _ _ h2
  | some m =>
    obtain ⟨es, c, h3, h4, h5, h6⟩ := h2
    exact ⟨es, c, h3, h4, fun hh => hq _ _ (h5 hh), fun e he hs => hq _ _ (h6 e he hs)⟩⟩⟩
instance (kk kv : Kind) (b : Nat) : Mono (α := no_index (Kind.ty kk × Kind.ty kv)) (HM.entryM kk kv b) := ⟨fun h Q1 Q2 hq ⟨m, since, seen, stepped, es, stamp, e, k, v, h1, h2, h3, h4, h5, h6, h7⟩ => ⟨m, since, seen, stepped, es, stamp, e, k, v, h1, h2, h3, h4, h5, h6, hq _ _ h7⟩⟩
instance (kd : SameK) (zero : Value) (k : Kind) (r : Option Nat) (key : Value) : Mono (α := no_index (Kind.ty k × Int)) (HM.mapEntry kd zero k r key) := ⟨fun h Q1 Q2 hq ⟨b, es, c, o, h1, h2, h3, h4⟩ => ⟨b, es, c, o, h1, h2, h3, by
  cases o with
  | none => obtain ⟨x, h5, h6⟩ := h4; exact ⟨x, h5, hq _ _ h6⟩
  | some p => obtain ⟨h7, h8, x, h5, h6⟩ := h4; exact ⟨h7, h8, x, h5, hq _ _ h6⟩⟩⟩
instance (r : Option Nat) (st : Int) (v : Value) : Mono (HM.entryStore r st v) := ⟨fun h Q1 Q2 hq ⟨b, es, c, i, h1, h2, h3, h4⟩ => ⟨b, es, c, i, h1, h2, h3, hq _ _ h4⟩⟩
instance mono_opt (o : Option α) (a : HM β) (f : α → HM β) [ha : Mono a] [hf : ∀ x, Mono (f x)] : Mono (HM.opt o a f) := ⟨fun h Q1 Q2 hq hm => by
  cases o with
  | none => exact ha.mono _ _ _ hq hm
  | some x => exact (hf x).mono _ _ _ hq hm⟩
instance (s : Slc) : Mono (HM.strOf s) := ⟨fun _ _ _ hq ⟨ns, h1, h2⟩ => ⟨ns, h1, hq _ _ h2⟩⟩
instance (r : Option Nat) : Mono (HM.mapLen r) := ⟨fun _ _ _ hq ⟨es, c, h1, h2⟩ => ⟨es, c, h1, hq _ _ h2⟩⟩
def Next {γ σ : Type} (I : γ → σ → Heap → Prop) (μ : γ → Nat) (g : γ) (s : σ) (h : Heap) : Prop := ∃ g', μ g' < μ g ∧ I g' s h
end
end Go.H
namespace Go.H
set_option linter.unusedSimpArgs false
set_option linter.unusedVariables false
open Go.MapKept (Stamped)
section
variable {K V : Type}
def PairE (ek : K → Value) (ev : V → Value) (l : List (K × V)) (es : List MapEntry) : Prop := es.map (fun e => (e.key, e.val)) = l.map (fun p => (ek p.1, ev p.2))
structure ItF (ek : K → Value) (ev : V → Value) (l done todo : List (K × V)) (es : Array MapEntry) (clock : Nat) (seen : Array Nat) (des tes : List MapEntry) : Prop where
  ents : Ents ek ev l es.toList
  stamped : Stamped es clock
  perm : (des ++ tes).Perm es.toList
  seen : seen.toList = des.map (·.born)
  done : PairE ek ev done des
  todo : PairE ek ev todo tes
def itA (ek : K → Value) (ev : V → Value) (m : Nat) (l : List (K × V)) (it : Nat) (done todo : List (K × V)) : Asn :=
  exA fun x : Array MapEntry × Nat × Array Nat × List MapEntry × List MapEntry =>
    star (pr (ItF ek ev l done todo x.1 x.2.1 x.2.2.1 x.2.2.2.1 x.2.2.2.2)) (star (blk it (.mapIter (some m) x.2.1 x.2.2.1 x.2.1)) (blk m (.map x.1 x.2.1)))
variable {h : Heap} {R : List Asn} {ek : K → Value} {ev : V → Value} {m it : Nat} {l done todo : List (K × V)}
theorem itA_iff : sat h (itA ek ev m l it done todo :: R) ↔ ∃ es clock seen des tes, ItF ek ev l done todo es clock seen des tes ∧ sat h (blk it (.mapIter (some m) clock seen clock) :: blk m (.map es clock) :: R) := by
  unfold itA
  rw [sat.ex_iff]
  constructor
  · rintro ⟨⟨es, c, s, d, t⟩, hs⟩
    rw [sat.star_iff, sat.pr_iff, sat.star_iff] at hs
    exact ⟨es, c, s, d, t, hs⟩
  · rintro ⟨es, c, s, d, t, hs⟩
    exact ⟨(es, c, s, d, t), by rw [sat.star_iff, sat.pr_iff, sat.star_iff]; exact hs⟩
theorem range_map {Q : Nat → Heap → Prop} (hs : sat h (mapA ek ev m l :: R)) (hq : ∀ it h', sat h' (itA ek ev m l it [] l :: R) → Q it h') : HM.rangeM (some m) h Q := by
  obtain ⟨es, c, ⟨he, hst⟩, hs⟩ := mapA_iff.1 hs
  refine ⟨es, c, hs.get, ?_⟩
  refine hq _ _ (itA_iff.2 ⟨es, c, #[], [], es.toList, ⟨he, hst, by simp, rfl, rfl, he⟩, ?_⟩)
  exact hs.push
theorem itA_map (hs : sat h (itA ek ev m l it done todo :: R)) : sat h (mapA ek ev m l :: R) := by
  obtain ⟨es, c, s, d, t, hf, hs⟩ := itA_iff.1 hs
  exact mapA_iff.2 ⟨es, c, ⟨hf.ents, hf.stamped⟩, hs.drop⟩
theorem next_map {Q : Option (Value × Value) → Heap → Prop} (hs : sat h (itA ek ev m l it done todo :: R)) (h0 : todo = [] → Q none h)
    (h1 : ∀ (p : K × V) (t1 t2 : List (K × V)), todo = t1 ++ p :: t2 → ∀ h', sat h' (itA ek ev m l it (done ++ [p]) (t1 ++ t2) :: R) → Q (some (ek p.1, ev p.2)) h') : HM.nextM it h Q := by
  obtain ⟨es, c, seen, des, tes, hf, hs⟩ := itA_iff.1 hs
  have hborn : ∀ e ∈ es, e.born < c := fun e he => hf.stamped.1 e (by simpa using he)
  have hnd : (es.toList.map (·.born)).Nodup := hf.stamped.2.1
  have hnd' : ((des ++ tes).map (·.born)).Nodup := (hf.perm.map (·.born)).nodup_iff.2 hnd
  rw [List.map_append, List.nodup_append] at hnd'
  have hmem : ∀ e : MapEntry, e ∈ es ↔ e ∈ des ∨ e ∈ tes := fun e => by
    rw [← Array.mem_toList_iff, ← hf.perm.mem_iff, List.mem_append]
  have hseen : ∀ b, seen.contains b = true ↔ b ∈ des.map (·.born) := fun b => by
    rw [← hf.seen]; simp
  have htes : ∀ e ∈ es, seen.contains e.born = false → e ∈ tes := fun e he hc => by
    rcases (hmem e).1 he with hd | ht
    · exact absurd ((hseen e.born).2 (List.mem_map_of_mem hd)) (by rw [hc]; simp)
    · exact ht
  refine ⟨some m, c, seen, c, hs.get, es, c, hs.p1.get, ?_, fun hall => ?_, fun e he hc => ?_⟩
  · by_cases hz : es.isEmpty = true
    · simp [hz]
    · have hne : es ≠ #[] := by simpa using hz
      obtain ⟨e, he⟩ : ∃ e, e ∈ es := ⟨es[0]'(Array.size_pos_iff.2 hne), Array.getElem_mem _⟩
      have hlt := hborn e he
      have : es.all (fun e => decide (e.born ≥ c)) = false := by
        cases hh : es.all (fun e => decide (e.born ≥ c)) with
        | false => rfl
        | true =>
          rw [Array.all_eq_true_iff_forall_mem] at hh
          have := hh e he
          simp at this
          omega
      simp [this]
  ·
    refine h0 ?_
    have : tes = [] := by
      cases tes with
      | nil => rfl
      | cons e t =>
        have he : e ∈ es := (hmem e).2 (.inr (List.mem_cons_self ..))
        have hnc : seen.contains e.born = false := by
          cases hh : seen.contains e.born with
          | false => rfl
          | true =>
            exact absurd rfl (hnd'.2.2 e.born ((hseen _).1 hh) e.born (by simp))
        have := hall e he hnc
        have := hborn e he
        omega
    have ht := hf.todo
    rw [this] at ht
    simp only [PairE, List.map_nil] at ht
    exact List.map_eq_nil_iff.1 ht.symm
  · have ht := htes e he hc
    obtain ⟨t1, t2, rfl⟩ := List.append_of_mem ht
    have htd := hf.todo
    simp only [PairE, List.map_append, List.map_cons] at htd
    obtain ⟨l1, l2', e1, e2, e3⟩ := List.map_eq_append_iff.1 htd.symm
    obtain ⟨p, l2, e4, e5, e6⟩ := List.map_eq_cons_iff.1 e3
    subst e4
    have e5' : (ek p.1, ev p.2) = (e.key, e.val) := e5
    obtain ⟨k1, k2⟩ := Prod.mk.inj e5'
    rw [← k1, ← k2]
    have hlt := hs.lt
    refine h1 p l1 l2 e1 _ (itA_iff.2 ⟨es, c, seen.push e.born, des ++ [e], t1 ++ t2, ⟨hf.ents, hf.stamped, ?_, ?_, ?_, ?_⟩, ?_⟩)
    · refine List.Perm.trans ?_ hf.perm
      rw [List.append_assoc]
      refine List.Perm.append_left des ?_
      show (e :: (t1 ++ t2)).Perm _
      exact List.perm_middle.symm
    · simp [hf.seen]
    · simp only [PairE, List.map_append, List.map_cons, List.map_nil]
      rw [hf.done, e5']
    · simp only [PairE, List.map_append]
      rw [e2, e6]
    · exact hs.turn (o' := .mapIter (some m) c (seen.push e.born) c) (by simp [hlt]) (fun k hk => by rw [Array.getElem?_setIfInBounds, if_neg (fun e => hk e.symm)])
theorem entry_map {kk kv : Kind} {p : K × V} {x : kk.ty} {y : kv.ty} {Q : kk.ty × kv.ty → Heap → Prop} (hk : ek p.1 = kk.val x) (hv : ev p.2 = kv.val y)
    (hs : sat h (itA ek ev m l it (done ++ [p]) todo :: R)) (hq : Q (x, y) h) : HM.entryM kk kv it h Q := by
  obtain ⟨es, c, seen, des, tes, hf, hs⟩ := itA_iff.1 hs
  have hd := hf.done
  simp only [PairE, List.map_append, List.map_cons, List.map_nil] at hd
  obtain ⟨d1, d2', e1, e2, e3⟩ := List.map_eq_append_iff.1 hd
  obtain ⟨e, d2, e4, e5, e6⟩ := List.map_eq_cons_iff.1 e3
  have : d2 = [] := List.map_eq_nil_iff.1 e6
  subst this e4 e1
  obtain ⟨k1, k2⟩ := Prod.mk.inj e5
  have hnd : (es.toList.map (·.born)).Nodup := hf.stamped.2.1
  have hem : e ∈ es.toList := hf.perm.mem_iff.1 (by simp)
  have hfind : es.find? (fun x => x.born == e.born) = some e := by
    rw [← Array.find?_toList]
    obtain ⟨a, b, hab⟩ := List.append_of_mem hem
    rw [hab]
    rw [hab, List.map_append, List.map_cons, List.nodup_append] at hnd
    rw [List.find?_append]
    have : a.find? (fun x => x.born == e.born) = none := by
      rw [List.find?_eq_none]
      intro x hx
      have := hnd.2.2 x.born (List.mem_map_of_mem hx) e.born (by simp)
      simpa using this
    rw [this]
    simp
  have hback : seen.back? = some e.born := by
    have hsn := hf.seen
    rw [List.map_append, List.map_cons, List.map_nil] at hsn
    rw [← Array.getLast?_toList, hsn]
    simp
  exact ⟨m, c, seen, c, es, e.born, e, x, y, hs.get, hback, hs.p1.get, hfind, k1.trans hk, k2.trans hv, hq⟩
end
@[simp] theorem opt_none {α β : Type} (a : HM β) (f : α → HM β) {h : Heap} {Q : β → Heap → Prop} : HM.opt none a f h Q = a h Q := rfl
@[simp] theorem opt_some {α β : Type} (x : α) (a : HM β) (f : α → HM β) {h : Heap} {Q : β → Heap → Prop} : HM.opt (some x) a f h Q = f x h Q := rfl
section
variable {α : Type} {f : α → Asn} {h : Heap} {R : List Asn}
end
section
variable {K V : Type} [DecidableEq K]
end
end Go.H
namespace Go.H
set_option linter.unusedSimpArgs false
set_option linter.unusedVariables false
open Go.RowKit
theorem below_of {w w' : World} {R : List Asn} (hs : Same w w') (ho : sat w'.heap (old w.heap :: R)) : Below w.heap.size w w' := by
  refine ⟨hs.os, hs.tape, hs.output, ?_, fun k hk => ?_⟩
  · rcases Nat.eq_zero_or_pos w.heap.size with h0 | hp
    · omega
    · have hg : w.heap[w.heap.size - 1]? = some w.heap[w.heap.size - 1] := Array.getElem?_eq_getElem (by omega)
      have := (Array.getElem?_eq_some_iff.1 (ho.old_get hg)).1
      omega
  · rw [ho.old_get (Array.getElem?_eq_getElem hk), Array.getElem?_eq_getElem hk]
theorem walk_of {P : Program} {f : FuncId} {args : Array Value} {w : World} {v : Value}
    (hc : HCalls P f args w.heap fun v' h' => v' = v ∧ ∃ R, sat h' (old w.heap :: R)) : Calls P f args w fun e w' => e = .returned v ∧ Below w.heap.size w w' :=
  (hc w rfl).mono fun e w' ⟨_, he, hs, hv, R, ho⟩ => ⟨by rw [he, hv], below_of hs ho⟩
def RowAt {α : Type} (enc : α → List Value) (size : Nat) (h0 : Heap) (s : Slc) (xs : List α) : Prop :=
  s.len = xs.length ∧ s.len ≤ s.cap ∧ ∀ (i : Nat) x, xs[i]? = some x → ∃ a, s.a = some a ∧ ∀ j v, (enc x)[j]? = some v → cellH h0 ((a.add (i * size)).add j) = some v
section
variable {α β : Type} {enc : α → List Value} {size : Nat} {h0 h : Heap} {s : Slc} {xs : List α}
end
end Go.H
namespace Go.H
set_option linter.unusedSimpArgs false
set_option linter.unusedVariables false
section
variable {h h' : Heap} {A : Asn} {R : List Asn}
theorem sat.grow (hs : sat h R) (hg : ∀ (k : Nat) o, h[k]? = some o → h'[k]? = some o) : sat h' R := by
  obtain ⟨m, h1, h2⟩ := hs
  exact ⟨m, fun k o ho => hg k o (h1 k o ho), h2⟩
theorem sat.came (hs : sat h R) (hg : ∀ (k : Nat) o, h[k]? = some o → h'[k]? = some o) {b : Nat} {o : Obj} (hb : h.size ≤ b) (ho : h'[b]? = some o) : sat h' (blk b o :: R) := by
  obtain ⟨m, h1, h2⟩ := hs
  have hm : m b = none := by
    cases hx : m b with
    | none => rfl
    | some x =>
      have := (Array.getElem?_eq_some_iff.1 (h1 _ _ hx)).1
      omega
  refine ⟨PH.join (fun k => if k = b then some o else none) m, sub_join (fun k x hx => ?_) (fun k x hx => hg k x (h1 k x hx)), _, m, fun k => ?_, rfl, by simp [blk], h2⟩
  · have hx' : (if k = b then some o else none) = some x := hx
    split at hx'
    · rename_i e; subst e; cases hx'; exact ho
    · cases hx'
  · by_cases e : k = b
    · subst e; exact .inr hm
    · exact .inl (by simp [e])
theorem sat.came_cells (hs : sat h R) (hg : ∀ (k : Nat) o, h[k]? = some o → h'[k]? = some o) {b : Nat} {cs : Array Value} {T : TypeId} (hb : h.size ≤ b) (ho : h'[b]? = some (.cells cs T (0, 0))) : sat h' (cells b cs :: R) :=
  cells_iff.2 ⟨T, hs.came hg hb ho⟩
end
section
variable {α : Type} {enc : α → List Value} {size : Nat} {h h0 h' : Heap} {s : Slc} {xs : List α} {R : List Asn}
end
structure OwnF {α : Type} (enc : α → List Value) (size : Nat) (s : Slc) (xs : List α) (b o : Nat) (cs : Array Value) : Prop where
  a : s.a = some ⟨b, o * size, none⟩
  le : s.len ≤ s.cap
  len : s.len = xs.length
  csize : (o + s.cap) * size ≤ cs.size
  front : (cs.toList.drop (o * size)).take (s.len * size) = xs.flatMap enc
def ownS {α : Type} (enc : α → List Value) (size : Nat) (s : Slc) (xs : List α) : Asn := fun m =>
  (s.len = 0 ∧ s.cap = 0 ∧ xs = []) ∨ exA (fun x : Nat × Nat × Array Value => star (pr (OwnF enc size s xs x.1 x.2.1 x.2.2)) (cells x.1 x.2.2)) m
section
variable {α : Type} {enc : α → List Value} {size : Nat} {h : Heap} {s : Slc} {xs : List α} {R : List Asn}
theorem ownS_cases (hs : sat h (ownS enc size s xs :: R)) : (s.len = 0 ∧ s.cap = 0 ∧ xs = [] ∧ sat h R) ∨ ∃ b o cs, OwnF enc size s xs b o cs ∧ sat h (cells b cs :: R) := by
  obtain ⟨m, h1, a, r, hd, rfl, ha, hr⟩ := id hs
  rcases ha with ⟨h2, h3, h4⟩ | ha
  · exact .inl ⟨h2, h3, h4, hs.drop⟩
  · have hs' : sat h (exA (fun x : Nat × Nat × Array Value => star (pr (OwnF enc size s xs x.1 x.2.1 x.2.2)) (cells x.1 x.2.2)) :: R) := ⟨_, h1, a, r, hd, rfl, ha, hr⟩
    rw [sat.ex_iff] at hs'
    obtain ⟨⟨b, o, cs⟩, hs'⟩ := hs'
    rw [sat.star_iff, sat.pr_iff] at hs'
    exact .inr ⟨b, o, cs, hs'⟩
theorem ownS_none {a : Option Addr} (hs : sat h R) : sat h (ownS enc size ⟨a, 0, 0⟩ [] :: R) := by
  obtain ⟨m, h1, h2⟩ := hs
  exact ⟨m, h1, fun _ => none, m, fun k => .inl rfl, by funext k; rfl, .inl ⟨rfl, rfl, rfl⟩, h2⟩
theorem ownS_nil (hs : sat h R) : sat h (ownS enc size ⟨none, 0, 0⟩ [] :: R) := ownS_none hs
theorem ownS_mk {b o : Nat} {cs : Array Value} (ho : OwnF enc size s xs b o cs) (hs : sat h (cells b cs :: R)) : sat h (ownS enc size s xs :: R) := by
  have hs' : sat h (exA (fun x : Nat × Nat × Array Value => star (pr (OwnF enc size s xs x.1 x.2.1 x.2.2)) (cells x.1 x.2.2)) :: R) := by
    rw [sat.ex_iff]
    refine ⟨(b, o, cs), ?_⟩
    rw [sat.star_iff, sat.pr_iff]
    exact ⟨ho, hs⟩
  exact hs'.imp fun m hm => .inr hm
theorem sat.own_len (hs : sat h (ownS enc size s xs :: R)) : s.len = xs.length := by
  rcases ownS_cases hs with ⟨h1, h2, rfl, -⟩ | ⟨b, o, cs, ho, -⟩
  · exact h1
  · exact ho.len
theorem sat.own_le (hs : sat h (ownS enc size s xs :: R)) : s.len ≤ s.cap := by
  rcases ownS_cases hs with ⟨h1, h2, rfl, -⟩ | ⟨b, o, cs, ho, -⟩
  · omega
  · exact ho.le
theorem flat_get (henc : ∀ x, (enc x).length = size) : ∀ (xs : List α) (i : Nat) (x : α), xs[i]? = some x → ∀ j v, (enc x)[j]? = some v → (xs.flatMap enc)[i * size + j]? = some v
  | [], i, x, hx, _, _, _ => by simp at hx
  | y :: xs, 0, x, hx, j, v, hv => by
    simp only [List.getElem?_cons_zero, Option.some.injEq] at hx
    subst hx
    rw [List.flatMap_cons, Nat.zero_mul, Nat.zero_add]
    have hj := (List.getElem?_eq_some_iff.1 hv).1
    rw [List.getElem?_append_left hj]
    exact hv
  | y :: xs, i + 1, x, hx, j, v, hv => by
    rw [List.getElem?_cons_succ] at hx
    rw [List.flatMap_cons, List.getElem?_append_right (by rw [henc]; rw [Nat.succ_mul]; omega), henc]
    rw [show (i + 1) * size + j - size = i * size + j from by rw [Nat.succ_mul]; omega]
    exact flat_get henc xs i x hx j v hv
theorem flat_len (henc : ∀ x, (enc x).length = size) (xs : List α) : (xs.flatMap enc).length = xs.length * size := by
  induction xs with
  | nil => simp
  | cons x xs ih => rw [List.flatMap_cons, List.length_append, ih, henc, List.length_cons, Nat.succ_mul]; omega
theorem sat.own_row (henc : ∀ x, (enc x).length = size) (hs : sat h (ownS enc size s xs :: R)) : RowAt enc size h s xs := by
  rcases ownS_cases hs with ⟨h1, h2, rfl, -⟩ | ⟨b, o, cs, ho, hs⟩
  · exact ⟨h1, by omega, fun i x hx => by simp at hx⟩
  · refine ⟨ho.len, ho.le, fun i x hx => ⟨_, ho.a, fun j v hv => ?_⟩⟩
    rw [Addr.add_at, Addr.add_at, hs.cell]
    have h1 := flat_get henc xs i x hx j v hv
    rw [← ho.front, List.getElem?_take] at h1
    split at h1
    · rw [List.getElem?_drop] at h1
      rw [show o * size + i * size + j = o * size + (i * size + j) from by omega]
      simpa using h1
    · cases h1
theorem slice_own {lo hi : Nat} {mx : Option Int} {Q : Slc → Heap → Prop} {ol oh : Option Int} (hs : sat h (ownS enc size s xs :: R)) (henc : ∀ x, (enc x).length = size)
    (h1 : lo ≤ hi) (h2 : hi ≤ xs.length) (e1 : optLe ol (lo = 0) lo hi) (e2 : optLe oh (hi = s.len) hi s.cap)
    (hq : ∀ s', sat h (ownS enc size s' ((xs.take hi).drop lo) :: R) → Q s' h) : HM.slice s ol oh none size h Q := by
  have hl := hs.own_len
  have hc := hs.own_le
  refine ⟨lo, hi, s.cap, rfl, ?_, e1, hq _ ?_⟩
  · cases oh with
    | none => exact ⟨rfl, e2⟩
    | some x => exact e2
  rcases ownS_cases hs with ⟨g1, g2, rfl, hs1⟩ | ⟨b, o, cs, ho, hs1⟩
  · have : hi = 0 := by simpa using h2
    subst this
    have : lo = 0 := by omega
    subst this
    simp only [sliceOf, g2, if_true, List.take_nil, List.drop_nil, Nat.sub_self]
    exact ownS_none hs1
  · by_cases hm : s.cap = lo
    · have e0 : lo = xs.length := by omega
      simp only [sliceOf, hm, if_true, Nat.sub_self]
      rw [List.drop_of_length_le (by simp; omega), show hi - lo = 0 from by omega]
      exact ownS_none hs.drop
    · refine ownS_mk (b := b) (o := o + lo) (cs := cs) ⟨?_, ?_, ?_, ?_, ?_⟩ hs1
      · simp only [sliceOf, if_neg hm, ho.a, Option.map_some, Addr.add_at, Nat.add_mul]
      · simp only [sliceOf]; omega
      · simp only [sliceOf, List.length_drop, List.length_take]; omega
      · simp only [sliceOf]
        rw [show o + lo + (s.cap - lo) = o + s.cap from by omega]
        exact ho.csize
      · simp only [sliceOf]
        have hf := ho.front
        have e3 : ((xs.take hi).drop lo).flatMap enc = ((xs.flatMap enc).take (hi * size)).drop (lo * size) := by
          have key : ∀ (l : List α) (n : Nat), (l.flatMap enc).take (n * size) = (l.take n).flatMap enc ∧ (l.flatMap enc).drop (n * size) = (l.drop n).flatMap enc := by
            intro l
            induction l with
            | nil => intro n; simp
            | cons x l ih =>
              intro n
              cases n with
              | zero => simp
              | succ n =>
                have hx := henc x
                rw [List.flatMap_cons, Nat.succ_mul, List.take_succ_cons, List.drop_succ_cons, List.flatMap_cons]
                refine ⟨?_, ?_⟩
                · rw [List.take_append, hx, List.take_of_length_le (by omega), show n * size + size - size = n * size from by omega, (ih n).1]
                · rw [List.drop_append, hx, List.drop_of_length_le (by omega), show n * size + size - size = n * size from by omega, (ih n).2, List.nil_append]
          rw [(key xs hi).1, (key (xs.take hi) lo).2]
        rw [e3, ← hf]
        rw [List.take_take, Nat.min_eq_left (Nat.mul_le_mul_right _ (by omega : hi ≤ s.len)), List.drop_take, List.drop_drop, Nat.add_mul, ← Nat.sub_mul]
theorem sat.setCells {b : Nat} : ∀ (vs : List Value) (cs : Array Value) (o i : Nat) {h : Heap} {R : List Asn}, sat h (cells b cs :: R) → o + i + vs.length ≤ cs.size →
    ∃ cs' : Array Value, cs'.size = cs.size ∧ cs'.toList = cs.toList.take (o + i) ++ vs ++ cs.toList.drop (o + i + vs.length) ∧ sat (setCellsH h ⟨b, o, none⟩ vs i) (cells b cs' :: R)
  | [], cs, o, i, h, R, hs, hl => ⟨cs, rfl, by simp, hs⟩
  | v :: vs, cs, o, i, h, R, hs, hl => by
    simp only [List.length_cons] at hl
    have h1 := hs.set (o + i) v
    obtain ⟨cs', e1, e2, h2⟩ := sat.setCells vs (cs.setIfInBounds (o + i) v) o (i + 1) h1 (by simp; omega)
    refine ⟨cs', by simpa using e1, ?_, by simpa [setCellsH] using h2⟩
    rw [e2, Array.toList_setIfInBounds]
    have hlen : o + i < cs.toList.length := by simp; omega
    rw [show o + (i + 1) = (o + i) + 1 from by omega, List.take_succ_eq_append_getElem (by simpa using hlen)]
    rw [List.getElem_set_self, List.take_set_of_le (Nat.le_refl _), List.drop_set_of_lt (by omega)]
    simp only [List.length_cons, List.append_assoc, List.cons_append, List.nil_append]
    rw [show o + i + 1 + vs.length = o + i + (vs.length + 1) from by omega]
theorem cells_set_ok {b : Nat} {cs : Array Value} {o : Nat} {vs : List Value} (hs : sat h (cells b cs :: R)) (hl : o + vs.length ≤ cs.size) (hv : ∀ v ∈ vs, v.oneCell' = true) :
    ∀ (i : Nat) v, vs[i]? = some v → (cellH h (Addr.add ⟨b, o, none⟩ i)).isSome = true ∧ frozenH h (Addr.add ⟨b, o, none⟩ i) = false ∧ v.oneCell' = true := by
  intro i v hi
  have hlt := (List.getElem?_eq_some_iff.1 hi).1
  rw [Addr.add_at]
  refine ⟨?_, hs.free _, hv v (List.mem_of_getElem? hi)⟩
  rw [hs.cell]
  simp
  omega
theorem append_own (henc : ∀ x, (enc x).length = size) (hcell : ∀ x, ∀ v ∈ enc x, v.oneCell' = true) {elem : TypeId} {bytes n : Nat} {zero : Array Value} (hz : zero.size = size) {src : Heap → Array Value → Prop} {ys : List α} {Q : Slc → Heap → Prop}
    (hs : sat h (ownS enc size s xs :: R)) (hn : ys.length = n) (hsrc : src h (ys.flatMap enc).toArray) (hsz : 0 < size) (hb0 : 0 < bytes) (hb : (xs.length + n) * bytes ≤ 140737488355328)
    (hq : ∀ s' h', sat h' (ownS enc size s' (xs ++ ys) :: R) → Q s' h') : HM.append elem size bytes zero s n src h Q := by
  have hl := hs.own_len
  have hbig : xs.length + n ≤ 140737488355328 := Nat.le_trans (Nat.le_mul_of_pos_right _ hb0) hb
  constructor
  · intro hc
    refine ⟨_, hsrc, ?_⟩
    rcases ownS_cases hs with ⟨g1, g2, rfl, hs1⟩ | ⟨b, o, cs, ho, hs⟩
    · have h0 : n = 0 := by omega
      subst h0
      have hy : ys = [] := List.eq_nil_of_length_eq_zero hn
      subst hy
      obtain ⟨sa, sl, sc⟩ := s
      simp only at g1 g2
      subst g1 g2
      cases sa with
      | none => exact hq _ _ (ownS_none hs1)
      | some a => exact ⟨fun i v hv => by simp at hv, hq _ _ (ownS_none hs1)⟩
    · rw [ho.a]
      simp only [Addr.add_at]
      have hlen : (o * size + s.len * size) + (ys.flatMap enc).length ≤ cs.size := by
        refine Nat.le_trans ?_ ho.csize
        rw [flat_len henc, hn, ← Nat.add_mul, ← Nat.add_mul]
        exact Nat.mul_le_mul_right _ (by omega)
      refine ⟨?_, ?_⟩
      · have := cells_set_ok (o := o * size + s.len * size) (vs := ys.flatMap enc) hs hlen (fun v hv => by
          obtain ⟨x, _, hx⟩ := List.mem_flatMap.1 hv
          exact hcell x v hx)
        simpa using this
      · obtain ⟨cs', e1, e2, hs'⟩ := sat.setCells (ys.flatMap enc) cs (o * size + s.len * size) 0 hs (by simpa using hlen)
        refine hq _ _ (ownS_mk (b := b) (o := o) (cs := cs') ⟨rfl, hc, by simp [ho.len, hn], by rw [e1]; exact ho.csize, ?_⟩ (by simpa using hs'))
        rw [e2]
        simp only [Nat.add_zero]
        have hcl : cs.toList.length = cs.size := by simp
        have d1 : ((cs.toList.take (o * size + s.len * size) ++ ys.flatMap enc ++ cs.toList.drop (o * size + s.len * size + (ys.flatMap enc).length)).drop (o * size)) =
            xs.flatMap enc ++ ys.flatMap enc ++ cs.toList.drop (o * size + s.len * size + (ys.flatMap enc).length) := by
          rw [List.append_assoc, List.drop_append_of_le_length (by rw [List.length_take, hcl]; omega), List.drop_take, show o * size + s.len * size - o * size = s.len * size from by omega, ho.front, List.append_assoc]
        rw [d1, List.flatMap_append]
        have e3 : (s.len + n) * size = (xs.flatMap enc ++ ys.flatMap enc).length := by
          rw [List.length_append, flat_len henc, flat_len henc, Nat.add_mul, ho.len, hn]
        rw [e3, List.take_left']
        rfl
  · intro hc
    refine ⟨by omega, growslice_fits hc (by rw [hl]; exact hb), ?_⟩
    have hnew : ∀ old : Array Value, old.toList = xs.flatMap enc → ∀ c, s.len + n ≤ c → ∀ R', sat h R' →
        sat (h.push (.cells (old ++ (ys.flatMap enc).toArray ++ Builtin.zeroCells zero (c - (s.len + n))) elem)) (ownS enc size ⟨some ⟨h.size, 0, none⟩, s.len + n, c⟩ (xs ++ ys) :: R') := by
      intro old hold c hcc R' hR'
      have ho : old.size = s.len * size := by
        have := congrArg List.length hold
        rw [flat_len henc] at this
        simpa [hl] using this
      refine ownS_mk (o := 0) ⟨by simp, hcc, by simp [hl, hn], Nat.le_of_eq ?_, ?_⟩ hR'.push_cells
      · simp only [Nat.zero_add, Array.size_append, ho, Builtin.zeroCells, Array.size_map, Array.size_range, hz, List.size_toArray, flat_len henc, hn]
        rw [← Nat.add_mul, ← Nat.add_mul]
        congr 1
        omega
      · simp only [Array.toList_append, hold, List.flatMap_append, Nat.zero_mul, List.drop_zero]
        rw [List.take_append_of_le_length (by simp only [List.length_append, flat_len henc]; rw [hl, Nat.add_mul, hn]; exact Nat.le_refl _)]
        rw [List.take_of_length_le]
        simp only [List.length_append, flat_len henc]
        rw [hl, Nat.add_mul, hn]
        exact Nat.le_refl _
    rcases ownS_cases hs with ⟨g1, g2, rfl, hs1⟩ | ⟨b, o, cs, ho, hs⟩
    · refine ⟨#[], _, ?_, hsrc, fun c hcc _ => hq _ _ (hnew #[] rfl c hcc R hs1)⟩
      rw [g1, Nat.zero_mul]
      cases s.a with
      | none => rfl
      | some a => exact ⟨rfl, fun i v hv => by simp at hv⟩
    · refine ⟨(xs.flatMap enc).toArray, _, ?_, hsrc, fun c hcc _ => hq _ _ (hnew _ (by simp) c hcc R hs.drop)⟩
      simp only [readsH, ho.a]
      refine ⟨by simp [flat_len henc, ho.len], fun i v hi => ?_⟩
      rw [Addr.add_at, hs.cell]
      have h1 : (xs.flatMap enc)[i]? = some v := by simpa using hi
      rw [← ho.front, List.getElem?_take] at h1
      split at h1
      · rw [List.getElem?_drop] at h1
        simpa using h1
      · cases h1
theorem add_own (b i : Nat) : (⟨b, 0, none⟩ : Addr).add i = ⟨b, i, none⟩ := by
  cases i with
  | zero => rfl
  | succ i => simp [Addr.add]
theorem loadN_cells {b : Nat} {cs : Array Value} {ts : List Tag} (x : Tup ts) {Q : Tup ts → Heap → Prop} (hs : sat h (cells b cs :: R)) (he : cs = (Tup.vals ts x).toArray) (hq : Q x h) : HM.loadN ts ⟨b, 0, none⟩ h Q := by
  refine ⟨x, fun i v hv => ?_, hq⟩
  have := hs.cell i
  rw [he] at this
  have e : (⟨b, 0, none⟩ : Addr).add i = ⟨b, i, none⟩ := by
    cases i with
    | zero => rfl
    | succ i => simp [Addr.add]
  rw [e, this]
  simpa using hv
theorem storeN_all {b : Nat} {cs : Array Value} {vs : List Value} {Q : Unit → Heap → Prop} (hs : sat h (cells b cs :: R)) (hl : vs.length = cs.size) (hv : ∀ v ∈ vs, v.oneCell' = true)
    (hq : ∀ h', sat h' (cells b vs.toArray :: R) → Q () h') : HM.storeN ⟨b, 0, none⟩ vs h Q := by
  refine ⟨cells_set_ok (o := 0) hs (by omega) hv, ?_⟩
  obtain ⟨cs', e1, e2, hs'⟩ := sat.setCells vs cs 0 0 hs (by omega)
  have e3 : cs' = vs.toArray := by
    apply Array.toList_inj.1
    rw [e2]
    simp only [Nat.add_zero, Nat.zero_add, List.take_zero, List.nil_append]
    rw [List.drop_of_length_le (by simp; omega)]
    simp
  subst e3
  exact hq _ hs'
theorem storeN_all' {b : Nat} {cs : Array Value} {vs : List Value} {Q : Unit → Heap → Prop} (hs : sat h (cells b cs :: R)) (hl : vs.length = cs.size) (hv : vs.all (fun v => v.oneCell') = true)
    (hq : ∀ h', sat h' (cells b vs.toArray :: R) → Q () h') : HM.storeN ⟨b, 0, none⟩ vs h Q :=
  storeN_all hs hl (List.all_eq_true.1 hv) hq
end
end Go.H
namespace Go.R
open Go.H
set_option linter.unusedSimpArgs false
set_option linter.unusedVariables false
theorem weightsAll_mem {H : Type} {P : Program} {e : TypeId} : ∀ {l : List (DataW H)} {d : DataW H}, d ∈ l → ∀ n ∈ d.weights P e, n ∈ DataW.weightsAll P e l
  | [], _, h, _, _ => by simp at h
  | x :: l, d, h, n, hn => by
    simp only [DataW.weightsAll, List.mem_append]
    rcases List.mem_cons.1 h with rfl | h
    · exact .inl hn
    · exact .inr (weightsAll_mem h n hn)
theorem list_of {α : Type} {p : Nat → α → Prop} : ∀ (n : Nat), (∀ i, i < n → ∃ x, p i x) → ∃ xs : List α, xs.length = n ∧ ∀ (i : Nat) x, xs[i]? = some x → p i x
  | 0, _ => ⟨[], rfl, fun i x hx => by simp at hx⟩
  | n + 1, hp => by
    obtain ⟨xs, h1, h2⟩ := list_of n (fun i hi => hp i (by omega))
    obtain ⟨x, hx⟩ := hp n (by omega)
    refine ⟨xs ++ [x], by simp [h1], fun i y hy => ?_⟩
    rw [List.getElem?_append] at hy
    split at hy
    · exact h2 i y hy
    · rename_i hi
      have h3 := (List.getElem?_eq_some_iff.1 hy).1
      simp only [List.length_cons, List.length_nil] at h3
      have hin : i = n := by omega
      subst hin
      rw [h1, Nat.sub_self] at hy
      cases hy
      exact hx
structure OkLaw {H : Type} (P : Program) (ok : TypeId → DataW H → Prop) (top : Nat) (wt : TypeId → Nat) : Prop where
  str : ∀ {t : TypeId} {bs : List UInt8}, ok t (.lit (.string bs)) → bs.length ≤ top
  elem : ∀ {t e : TypeId} {elems rest : List (DataW H)} {d : DataW H}, P.underlying t = some (.slice e) → ok t (.slice elems rest) → d ∈ elems → ok e d
  cnt : ∀ {t e : TypeId} {elems rest : List (DataW H)}, P.underlying t = some (.slice e) → ok t (.slice elems rest) → elems.length * wt e ≤ top
  field : ∀ {t : TypeId} {fs : Array Field} {parts : List (DataW H)} {j : Nat} {f : Field} {d : DataW H}, P.underlying t = some (.struct fs) → ok t (.agg parts) → fs[j]? = some f → parts[j]? = some d → ok f.type d
  arr : ∀ {t e : TypeId} {n : Nat} {parts : List (DataW H)} {d : DataW H}, P.underlying t = some (.array n e) → ok t (.agg parts) → d ∈ parts → ok e d
def okW {H : Type} (P : Program) (t : TypeId) (d : DataW H) : Prop := ∀ n ∈ d.weights P t, n ≤ reachBytes
theorem okW_law {H : Type} (P : Program) : OkLaw (H := H) P (okW P) reachBytes P.bytesOf where
  str h := h _ (by simp [DataW.weights])
  elem ht h hd := fun n hn => h n (by
    simp only [DataW.weights, ht, List.mem_cons, List.mem_append]
    exact .inr (.inl (weightsAll_mem hd _ hn)))
  cnt ht h := Nat.le_trans (Nat.mul_le_mul_right _ (Nat.le_add_right _ _)) (h _ (by simp only [DataW.weights, ht, List.mem_cons]; exact .inl rfl))
  field {t fs parts j f d} ht h hf hd := fun n hn => h n (by
    simp only [DataW.weights, ht]
    exact DataW.weights_mem_each (j := j) (t := f.type) (d := d) (by rw [List.getElem?_map, Array.getElem?_toList, hf]; rfl) hd _ hn)
  arr ht h hd := fun n hn => h n (by
    simp only [DataW.weights, ht]
    exact weightsAll_mem hd _ hn)
theorem okWide_agg {P : Program} {w : World} {t : TypeId} {fs : Array Field} {r : Reach} {b0 : Nat} {v : Value} (ht : P.underlying t = some (.struct fs)) (h : Value.okWide P w r b0 t v) : ∃ cs, v = .agg cs := by
  simp only [Value.okWide, ht] at h
  obtain ⟨cs, h1, _⟩ := h
  exact ⟨cs, h1⟩
structure GoodG {α : Type} (enc : α → List Value) (size wt top : Nat) (h : Heap) (good : α → Prop) (x : Slc × List α) : Prop where
  row : RowAt enc size h x.1 x.2
  good : ∀ y ∈ x.2, good y
  cap : x.1.cap ≤ maxLen
  reach : x.2.length * wt ≤ top
section
variable {H : Type} (ec : TypeId × Value → H) (P : Program) (w : World) (base : Nat) (sp : Nat → Bool) (held : Bool) (ok : TypeId → DataW H → Prop)
def RdG {α : Type} (t : TypeId) (enc : α → List Value) (good : α → Prop) : Prop :=
  ∀ fuel cs y, DataW.trod ec P w base sp held fuel t cs = some y → ok t y.1 → ∃ x, cs = enc x ∧ good x
def RdF {α : Type} (fs : List Field) (o n : Nat) (enc : α → List Value) (good : α → Prop) : Prop :=
  ∀ fuel (cs : List Value) (xs : List (DataW H × List MemPlace)), cs.length = n → xs.length = fs.length →
    (∀ (j : Nat) f, fs[j]? = some f → DataW.trod ec P w base sp held fuel f.type ((cs.drop f.offset).take (P.cellsOf f.type)) = xs[j]?) →
    (∀ (j : Nat) f d, fs[j]? = some f → xs[j]? = some d → ok f.type d.1) → ∃ x, cs.drop o = enc x ∧ good x
end
section
variable {H : Type} {ec : TypeId × Value → H} {P : Program} {w : World} {base : Nat} {sp : Nat → Bool} {held : Bool} {ok : TypeId → DataW H → Prop} {top : Nat} {wt : TypeId → Nat}
theorem rg_map {α β : Type} {t : TypeId} {enc : α → List Value} {good : α → Prop} {enc' : β → List Value} {good' : β → Prop} (f : α → β)
    (h : RdG ec P w base sp held ok t enc good) (he : ∀ x, enc x = enc' (f x)) (hg : ∀ x, good x → good' (f x)) : RdG ec P w base sp held ok t enc' good' := fun fuel cs y hy hw => by
  obtain ⟨x, h1, h2⟩ := h fuel cs y hy hw
  exact ⟨f x, h1.trans (he x), hg x h2⟩
theorem rg_int {t : TypeId} {k : IntKind} (ht : P.underlying t = some (.int k)) : RdG ec P w base sp held ok t (fun x : Int => [.int k x]) (fun x => (Lit.int k x).wf = true) := fun _ _ _ h _ => by
  obtain ⟨n, h1, _, h2⟩ := DataW.trod_int ht h
  exact ⟨n, h1, h2⟩
theorem rg_bool {t : TypeId} (ht : P.underlying t = some .bool) : RdG ec P w base sp held ok t (fun x : Bool => [.bool x]) (fun _ => True) := fun _ _ _ h _ => by
  obtain ⟨n, h1, _⟩ := DataW.trod_bool ht h
  exact ⟨n, h1, trivial⟩
theorem rg_str (hk : OkLaw P ok top wt) {t : TypeId} (ht : P.underlying t = some .string) : RdG ec P w base sp held ok t (fun x : ByteArray => [.string x]) (fun x => x.size ≤ top) := fun _ _ _ h hw => by
  obtain ⟨n, h1, rfl, h2⟩ := DataW.trod_string ht h
  refine ⟨n, h1, ?_⟩
  have := hk.str hw
  rwa [Array.length_toList] at this
theorem rg_slice (hk : OkLaw P ok top wt) {α : Type} {t e : TypeId} {enc : α → List Value} {good : α → Prop} (ht : P.underlying t = some (.slice e)) {size k : Nat} (hc : P.cellsOf e = size) (hb : wt e = k) (he : RdG ec P w base sp held ok e enc good) :
    RdG ec P w base sp held ok t (fun x : Slc × List α => [.slice x.1.a x.1.len x.1.cap]) (GoodG enc size k top w.heap good) := fun fuel cs y h hw => by
  subst hc hb
  rcases DataW.trod_slice ht h with ⟨rfl, _⟩ | ⟨a, len, cap, elems, rest, n, _, rfl, rfl, _, hl, hm, hlen, hel, _, _⟩
  · exact ⟨(⟨none, 0, 0⟩, []), rfl, ⟨rfl, Nat.le_refl _, fun i x hx => by simp at hx⟩, fun y hy => by simp at hy, Nat.zero_le _, by simp⟩
  · have hw2 : ∀ i (hi : i < elems.length), ok e (elems[i]'hi).1 := fun i hi => hk.elem ht hw (List.mem_map_of_mem (List.getElem_mem hi))
    have hw3 := hk.cnt ht hw
    have h1 : ∀ i, i < len → ∃ x, good x ∧ ∀ j v, (enc x)[j]? = some v → cellH w.heap ((a.add (i * P.cellsOf e)).add j) = some v := by
      intro i hi
      have h2 := hel i hi
      rw [List.getElem?_eq_getElem (by omega), Option.bind_eq_some_iff] at h2
      obtain ⟨cs', h3, h4⟩ := h2
      obtain ⟨x, rfl, hg⟩ := he _ _ _ h4 (hw2 i (by omega))
      obtain ⟨_, h5, h6⟩ := World.cells?_some h3
      refine ⟨x, hg, fun j v hv => ?_⟩
      rw [← cell_eq, h6 j (by rw [← h5]; exact (List.getElem?_eq_some_iff.1 hv).1)]
      exact hv
    obtain ⟨xs, h2, h3⟩ := list_of len h1
    refine ⟨(⟨some a, len, cap⟩, xs), rfl, ⟨h2.symm, hl, fun i x hx => ⟨a, rfl, (h3 i x hx).2⟩⟩, fun y hy => ?_, hm, ?_⟩
    · obtain ⟨i, hi⟩ := List.getElem?_of_mem hy
      exact (h3 i y hi).1
    · simp only
      rw [List.length_map] at hw3
      rw [h2, ← hlen]
      exact hw3
theorem rf_cons {α β : Type} {f : Field} {fs : List Field} {o n : Nat} {c : Nat} {e0 : α → List Value} {g0 : α → Prop} {e1 : β → List Value} {g1 : β → Prop} (hc : P.cellsOf f.type = c) (ho : f.offset = o)
    (h0 : RdG ec P w base sp held ok f.type e0 g0) (h1 : RdF ec P w base sp held ok fs (o + c) n e1 g1) : RdF ec P w base sp held ok (f :: fs) o n (fun x : α × β => e0 x.1 ++ e1 x.2) (fun x => g0 x.1 ∧ g1 x.2) := fun fuel cs xs hl hx hf hok => by
  subst hc ho
  cases xs with
  | nil => simp at hx
  | cons y xs =>
    obtain ⟨x0, c0, k0⟩ := h0 fuel _ y (hf 0 f rfl) (hok 0 f y rfl rfl)
    obtain ⟨x1, c1, k1⟩ := h1 fuel cs xs hl (by simpa using hx) (fun j f' hj => by have := hf (j + 1) f' (by simpa using hj); simpa using this) (fun j f' d hj hd => hok (j + 1) f' d (by simpa using hj) (by simpa using hd))
    refine ⟨(x0, x1), ?_, k0, k1⟩
    simp only [← c0, ← c1]
    rw [← List.drop_drop, List.take_append_drop]
theorem rf_one {α : Type} {f : Field} {o n : Nat} {c : Nat} {e0 : α → List Value} {g0 : α → Prop} (hc : P.cellsOf f.type = c) (ho : f.offset = o) (hn : n ≤ o + c)
    (h0 : RdG ec P w base sp held ok f.type e0 g0) : RdF ec P w base sp held ok [f] o n e0 g0 := fun fuel cs xs hl hx hf hok => by
  subst hc ho
  cases xs with
  | nil => simp at hx
  | cons y xs =>
    obtain ⟨x0, c0, k0⟩ := h0 fuel _ y (hf 0 f rfl) (hok 0 f y rfl rfl)
    refine ⟨x0, ?_, k0⟩
    rw [← c0, List.take_of_length_le (by rw [List.length_drop]; omega)]
theorem rg_struct (hk : OkLaw P ok top wt) {α : Type} {t : TypeId} {fs : Array Field} {n : Nat} {enc : α → List Value} {good : α → Prop} (ht : P.underlying t = some (.struct fs)) (hn : P.cellsOf t = n) (h : RdF ec P w base sp held ok fs.toList 0 n enc good) :
    RdG ec P w base sp held ok t enc good := fun fuel cs y hy hw => by
  obtain ⟨xs, m, _, rfl, hl, hx, hf⟩ := DataW.trod_struct ht hy
  obtain ⟨x, h1, h2⟩ := h m cs xs (hl.trans hn) (by simpa using hx) (fun j f hj => hf j f (by simpa using hj)) (fun j f d hj hd => hk.field ht hw (by simpa using hj) (by rw [List.getElem?_map, hd]; rfl))
  exact ⟨x, by simpa using h1, h2⟩
end
end Go.R
namespace Go.Proofs
variable {H : Type} {enc : TypeId × Value → H}
theorem returnsInHanded_shapedR {a : Assume} {C : Checked} {os : Os} {f : FuncId} {fn : Func} {s : ChangeSpec} {conds : List PathCond} {apart fresh handsOn again : Bool} {X : World → Array Value → Prop}
    (hX : ∀ (w w' : World) (args : Array Value), w.heap = w'.heap → X w args → X w' args)
    (own : ownKnob C.prog.godebug = none) (started : os.Started) (noInit : C.prog.inits.idxOf? f = none) (hfn : C.prog.funcs[f]? = some fn)
    (witness : ∃ (w : World) (tape : Tape) (i : Input), w.os = os ∧ (w.forCall tape i).Shaped C.prog ∧ i.vars = [] ∧ Input.okWide C.prog (w.forCall tape i) .any w.heap.size f i ∧
      ((s.pre enc C.prog fn conds apart (w.forCall tape i).memory i.args ∧ X (w.forCall tape i).memory i.args) ∧ sizedMet enc C.prog fn (OpenSpec.ofChange s) apart (w.forCall tape i).memory i.args) ∧ a.holds C.prog (lone (Frame.enter C.prog f i.args .normal) [] (w.forCall tape i)))
    (contract : ∀ (W : World) (base : Nat) (args : Array Value) (ds gs : List (DataW H)) (before : List MemPlace),
      (∀ (j : Nat) t v, fn.params[j]? = some t → args[j]? = some v → Value.okWide C.prog W .any base t v) →
      DataW.Whole enc C.prog fn.params.toList s.vars apart W args.toList ds gs before →
      conds.all (PathCond.test C.prog ⟨fn.params.toList, ds, s.plain.varTypes C.prog, gs⟩) = true →
      (DataW.weightsEach C.prog (fn.params.toList ++ s.plain.varTypes C.prog) (ds ++ gs)).all (· ≤ reachBytes) = true → X W args → W.ShapedOpen C.prog →
      a.holds C.prog (lone (Frame.enter C.prog f args .normal) [] W) →
      Calls C.prog f args W fun e W' => ∃ v, e = .returned v ∧ s.post enc C.prog fn apart fresh handsOn again W args v W') :
    ReturnsInHanded a C os f .any (fun w args => (s.pre enc C.prog fn conds apart w args ∧ X w args) ∧ sizedMet enc C.prog fn (OpenSpec.ofChange s) apart w args) (s.post enc C.prog fn apart fresh handsOn again) := by
  refine returnsInHanded_of_calls own started noInit witness ?_
  intro w tape i _ hsh _ hok hpre hholds
  obtain ⟨_, _, _, fn', hfn', _, _, _, _, hval⟩ := hok
  have e : fn' = fn := Option.some.inj (hfn'.symm.trans hfn)
  subst e
  obtain ⟨⟨⟨ds, gs, before, hw, hc⟩, hx⟩, hz⟩ := hpre
  have hw' := DataW.Whole.of_heap (w' := w.forCall tape i) (by rfl) hw
  refine (contract (w.forCall tape i) w.heap.size i.args ds gs before hval hw' hc (hz.weights hw) (hX _ _ _ (by rfl) hx) hsh hholds).mono fun e W' ⟨v, he, hp⟩ => ?_
  subst he
  exact ChangeSpec.post_blind hp
end Go.Proofs
namespace Go.Proofs.YtkpjgmdaolohiaaGreatDoor
open Go.H Go.Proofs
set_option linter.unusedVariables false
set_option linter.unusedSimpArgs false
set_option maxRecDepth 100000
set_option maxHeartbeats 4000000
theorem calls_of_eq {P : Program} {C : List Nat} {n : Nat} {live lc : List Nat} {f : FuncId} {fn : Func} {ks : List Kind} {args : List Value} {h : Heap} {Q : Value → Heap → Prop} {m : HM (KTup ks)} (hf : P.funcs[f]? = some fn) (hb : fn.body.isSome = true) (hn : fn.ntmps = n) (hlen : Nat.ble args.length n = true)
    (hC : ∀ f, f ∈ C → CallOK P f) (hm : P.follows .mixedOrders = true) (he : denFn P C n live lc fn.results.toList ks (bodyOf fn) args = m) (hd : m h fun x h' => Q (packed ks x) h') : HCalls P f args.toArray h Q :=
  calls_of_den hf hb hn hlen hC hm (he ▸ hd)
theorem orders : Tryz.prog.follows .mixedOrders = true := by kernel_rfl
theorem CN {P : Program} : ∀ f, f ∈ ([] : List Nat) → CallOK P f := fun f hf => by cases hf
theorem CC {P : Program} {a : Nat} {l : List Nat} (h : CallOK P a) (hl : ∀ f, f ∈ l → CallOK P f) : ∀ f, f ∈ a :: l → CallOK P f := fun f hf => by
  rcases List.mem_cons.1 hf with rfl | hf
  · exact h
  · exact hl f hf
abbrev tS0 : List Tag := [.int .i64, .bool, .bool, .int .i64, .int .i64, .str, .str, .int .u8, .slc, .slc, .str, .bool, .int .i64, .bool, .str, .str, .int .i64, .bool, .slc, .bool, .bool, .str, .str, .bool, .slc, .slc]
abbrev yS0 : Type := Int × Bool × Bool × Int × Int × ByteArray × ByteArray × Int × Slc × Slc × ByteArray × Bool × Int × Bool × ByteArray × ByteArray × Int × Bool × Slc × Bool × Bool × ByteArray × ByteArray × Bool × Slc × Slc × Unit
abbrev aS0 (x : yS0) : Array Value := #[.int .i64 x.1, .bool x.2.1, .bool x.2.2.1, .int .i64 x.2.2.2.1, .int .i64 x.2.2.2.2.1, .string x.2.2.2.2.2.1, .string x.2.2.2.2.2.2.1, .int .u8 x.2.2.2.2.2.2.2.1, .slice x.2.2.2.2.2.2.2.2.1.a x.2.2.2.2.2.2.2.2.1.len x.2.2.2.2.2.2.2.2.1.cap, .slice x.2.2.2.2.2.2.2.2.2.1.a x.2.2.2.2.2.2.2.2.2.1.len x.2.2.2.2.2.2.2.2.2.1.cap, .string x.2.2.2.2.2.2.2.2.2.2.1, .bool x.2.2.2.2.2.2.2.2.2.2.2.1, .int .i64 x.2.2.2.2.2.2.2.2.2.2.2.2.1, .bool x.2.2.2.2.2.2.2.2.2.2.2.2.2.1, .string x.2.2.2.2.2.2.2.2.2.2.2.2.2.2.1, .string x.2.2.2.2.2.2.2.2.2.2.2.2.2.2.2.1, .int .i64 x.2.2.2.2.2.2.2.2.2.2.2.2.2.2.2.2.1, .bool x.2.2.2.2.2.2.2.2.2.2.2.2.2.2.2.2.2.1, .slice x.2.2.2.2.2.2.2.2.2.2.2.2.2.2.2.2.2.2.1.a x.2.2.2.2.2.2.2.2.2.2.2.2.2.2.2.2.2.2.1.len x.2.2.2.2.2.2.2.2.2.2.2.2.2.2.2.2.2.2.1.cap, .bool x.2.2.2.2.2.2.2.2.2.2.2.2.2.2.2.2.2.2.2.1, .bool x.2.2.2.2.2.2.2.2.2.2.2.2.2.2.2.2.2.2.2.2.1, .string x.2.2.2.2.2.2.2.2.2.2.2.2.2.2.2.2.2.2.2.2.2.1, .string x.2.2.2.2.2.2.2.2.2.2.2.2.2.2.2.2.2.2.2.2.2.2.1, .bool x.2.2.2.2.2.2.2.2.2.2.2.2.2.2.2.2.2.2.2.2.2.2.2.1, .slice x.2.2.2.2.2.2.2.2.2.2.2.2.2.2.2.2.2.2.2.2.2.2.2.2.1.a x.2.2.2.2.2.2.2.2.2.2.2.2.2.2.2.2.2.2.2.2.2.2.2.2.1.len x.2.2.2.2.2.2.2.2.2.2.2.2.2.2.2.2.2.2.2.2.2.2.2.2.1.cap, .slice x.2.2.2.2.2.2.2.2.2.2.2.2.2.2.2.2.2.2.2.2.2.2.2.2.2.1.a x.2.2.2.2.2.2.2.2.2.2.2.2.2.2.2.2.2.2.2.2.2.2.2.2.2.1.len x.2.2.2.2.2.2.2.2.2.2.2.2.2.2.2.2.2.2.2.2.2.2.2.2.2.1.cap]
abbrev lS0 (x : yS0) : List Value := [.int .i64 x.1, .bool x.2.1, .bool x.2.2.1, .int .i64 x.2.2.2.1, .int .i64 x.2.2.2.2.1, .string x.2.2.2.2.2.1, .string x.2.2.2.2.2.2.1, .int .u8 x.2.2.2.2.2.2.2.1, .slice x.2.2.2.2.2.2.2.2.1.a x.2.2.2.2.2.2.2.2.1.len x.2.2.2.2.2.2.2.2.1.cap, .slice x.2.2.2.2.2.2.2.2.2.1.a x.2.2.2.2.2.2.2.2.2.1.len x.2.2.2.2.2.2.2.2.2.1.cap, .string x.2.2.2.2.2.2.2.2.2.2.1, .bool x.2.2.2.2.2.2.2.2.2.2.2.1, .int .i64 x.2.2.2.2.2.2.2.2.2.2.2.2.1, .bool x.2.2.2.2.2.2.2.2.2.2.2.2.2.1, .string x.2.2.2.2.2.2.2.2.2.2.2.2.2.2.1, .string x.2.2.2.2.2.2.2.2.2.2.2.2.2.2.2.1, .int .i64 x.2.2.2.2.2.2.2.2.2.2.2.2.2.2.2.2.1, .bool x.2.2.2.2.2.2.2.2.2.2.2.2.2.2.2.2.2.1, .slice x.2.2.2.2.2.2.2.2.2.2.2.2.2.2.2.2.2.2.1.a x.2.2.2.2.2.2.2.2.2.2.2.2.2.2.2.2.2.2.1.len x.2.2.2.2.2.2.2.2.2.2.2.2.2.2.2.2.2.2.1.cap, .bool x.2.2.2.2.2.2.2.2.2.2.2.2.2.2.2.2.2.2.2.1, .bool x.2.2.2.2.2.2.2.2.2.2.2.2.2.2.2.2.2.2.2.2.1, .string x.2.2.2.2.2.2.2.2.2.2.2.2.2.2.2.2.2.2.2.2.2.1, .string x.2.2.2.2.2.2.2.2.2.2.2.2.2.2.2.2.2.2.2.2.2.2.1, .bool x.2.2.2.2.2.2.2.2.2.2.2.2.2.2.2.2.2.2.2.2.2.2.2.1, .slice x.2.2.2.2.2.2.2.2.2.2.2.2.2.2.2.2.2.2.2.2.2.2.2.2.1.a x.2.2.2.2.2.2.2.2.2.2.2.2.2.2.2.2.2.2.2.2.2.2.2.2.1.len x.2.2.2.2.2.2.2.2.2.2.2.2.2.2.2.2.2.2.2.2.2.2.2.2.1.cap, .slice x.2.2.2.2.2.2.2.2.2.2.2.2.2.2.2.2.2.2.2.2.2.2.2.2.2.1.a x.2.2.2.2.2.2.2.2.2.2.2.2.2.2.2.2.2.2.2.2.2.2.2.2.2.1.len x.2.2.2.2.2.2.2.2.2.2.2.2.2.2.2.2.2.2.2.2.2.2.2.2.2.1.cap]
abbrev zS0 : Array Value := #[.int .i64 0, .bool false, .bool false, .int .i64 0, .int .i64 0, .string (ByteArray.mk #[]), .string (ByteArray.mk #[]), .int .u8 0, .slice none 0 0, .slice none 0 0, .string (ByteArray.mk #[]), .bool false, .int .i64 0, .bool false, .string (ByteArray.mk #[]), .string (ByteArray.mk #[]), .int .i64 0, .bool false, .slice none 0 0, .bool false, .bool false, .string (ByteArray.mk #[]), .string (ByteArray.mk #[]), .bool false, .slice none 0 0, .slice none 0 0]
abbrev tS1 : List Tag := [.str, .str, .int .i64, .bool, .str]
abbrev yS1 : Type := ByteArray × ByteArray × Int × Bool × ByteArray × Unit
abbrev aS1 (x : yS1) : Array Value := #[.string x.1, .string x.2.1, .int .i64 x.2.2.1, .bool x.2.2.2.1, .string x.2.2.2.2.1]
def law20_FrontNil (p0 : Int × Int × Slc × ByteArray × Bool × ByteArray × ByteArray × Int × Bool × ByteArray × Unit) : HM (Bool × Unit) :=
  HM.bind (α := Nat) (HM.new (.cells #[.int .i64 p0.1, .int .i64 p0.2.1, .slice p0.2.2.1.a p0.2.2.1.len p0.2.2.1.cap, .string p0.2.2.2.1, .bool p0.2.2.2.2.1, .string p0.2.2.2.2.2.1, .string p0.2.2.2.2.2.2.1, .int .i64 p0.2.2.2.2.2.2.2.1, .bool p0.2.2.2.2.2.2.2.2.1, .string p0.2.2.2.2.2.2.2.2.2.1] 26)) fun x1 =>
  HM.bind (α := Int) (HM.load1 (.int .i64) (Addr.add ⟨x1, 0, none⟩ 1)) fun x2 =>
  HM.bind (α := ByteArray) (HM.load1 .str (Addr.add ⟨x1, 0, none⟩ 3)) fun x3 =>
  HM.bind (α := Bool) (HM.load1 .bool (Addr.add ⟨x1, 0, none⟩ 4)) fun x4 =>
  HM.bind (α := Int) (HM.load1 (.int .i64) (Addr.add ⟨x1, 0, none⟩ 1)) fun x5 =>
  HM.bind (α := Bool) (HM.load1 .bool (Addr.add ⟨x1, 0, none⟩ 4)) fun x6 =>
  HM.both (
  HM.bind (α := Slc × Slc × Unit) (HM.call1 Tryz.prog (.agg [.slc, .slc]) 4 #[.pointer none, .int .i64 x2, .string x3, .bool x4]) fun x7 =>
  HM.bind (α := Bool) (HM.load1 .bool (Addr.add ⟨x1, 0, none⟩ 4)) fun x8 =>
  HM.req ((.bool x8 : Value) = .bool x6) <|
  HM.bind (α := Int) (HM.load1 (.int .i64) (Addr.add ⟨x1, 0, none⟩ 1)) fun x9 =>
  HM.req ((.int .i64 x9 : Value) = .int .i64 x5) <|
  HM.both (
  HM.bind (α := Slc × Slc × Unit) (HM.call1 Tryz.prog (.agg [.slc, .slc]) 5 #[.pointer none, .int .i64 x5, .bool x6]) fun x10 =>
  HM.both (
  HM.bind (α := Nat) (HM.new (.cells #[.slice none 0 0, .slice none 0 0] 31)) fun x11 =>
  HM.bind (α := Bool) (HM.load1 .bool (Addr.add ⟨x1, 0, none⟩ 4)) fun x12 =>
  HM.req ((.bool x12 : Value) = .bool x6) <|
  HM.bind (α := Int) (HM.load1 (.int .i64) (Addr.add ⟨x1, 0, none⟩ 1)) fun x13 =>
  HM.req ((.int .i64 x13 : Value) = .int .i64 x5) <|
  HM.bind (α := Bool) (HM.load1 .bool (Addr.add ⟨x1, 0, none⟩ 4)) fun x14 =>
  HM.req ((.bool x14 : Value) = .bool x4) <|
  HM.bind (α := ByteArray) (HM.load1 .str (Addr.add ⟨x1, 0, none⟩ 3)) fun x15 =>
  HM.req ((.string x15 : Value) = .string x3) <|
  HM.bind (α := Int) (HM.load1 (.int .i64) (Addr.add ⟨x1, 0, none⟩ 1)) fun x16 =>
  HM.req ((.int .i64 x16 : Value) = .int .i64 x2) <|
  HM.bind (α := Nat) (HM.new (.cells #[.slice none 0 0, .slice none 0 0] 31)) fun x17 =>
  HM.bind (α := Bool) (HM.load1 .bool (Addr.add ⟨x1, 0, none⟩ 4)) fun x18 =>
  HM.req ((.bool x18 : Value) = .bool x6) <|
  HM.bind (α := Int) (HM.load1 (.int .i64) (Addr.add ⟨x1, 0, none⟩ 1)) fun x19 =>
  HM.req ((.int .i64 x19 : Value) = .int .i64 x5) <|
  HM.bind (α := Bool) (HM.load1 .bool (Addr.add ⟨x1, 0, none⟩ 4)) fun x20 =>
  HM.req ((.bool x20 : Value) = .bool x4) <|
  HM.bind (α := ByteArray) (HM.load1 .str (Addr.add ⟨x1, 0, none⟩ 3)) fun x21 =>
  HM.req ((.string x21 : Value) = .string x3) <|
  HM.bind (α := Int) (HM.load1 (.int .i64) (Addr.add ⟨x1, 0, none⟩ 1)) fun x22 =>
  HM.req ((.int .i64 x22 : Value) = .int .i64 x2) <|
  HM.bind (α := Unit) (HM.storeN ⟨x11, 0, none⟩ [.slice x7.1.a x7.1.len x7.1.cap, .slice x7.2.1.a x7.2.1.len x7.2.1.cap]) fun _ =>
  HM.bind (α := Unit) (HM.storeN ⟨x17, 0, none⟩ [.slice x10.1.a x10.1.len x10.1.cap, .slice x10.2.1.a x10.2.1.len x10.2.1.cap]) fun _ =>
  HM.bind (α := Unit) (HM.callN Tryz.prog [] 6 #[.pointer none]) fun x23 =>
  HM.bind (α := Bool × Unit) (HM.bind (α := Bool) (HM.call1 Tryz.prog (.one .bool) 7 #[]) fun x24 =>
  HM.ite x24 (
  HM.bind (α := Slc) (HM.load1 .slc (Addr.add ⟨x11, 0, none⟩ 0)) fun x25 =>
  HM.bind (α := Slc) (HM.load1 .slc (Addr.add ⟨x11, 0, none⟩ 1)) fun x26 =>
  HM.bind (α := Slc) (HM.load1 .slc (Addr.add ⟨x17, 0, none⟩ 0)) fun x27 =>
  HM.bind (α := Slc) (HM.load1 .slc (Addr.add ⟨x17, 0, none⟩ 1)) fun x28 =>
  HM.ite ((IntKind.wrap .i64 ((IntKind.wrap .i64 ((IntKind.wrap .i64 (((x25.len : Nat) : Int) + ((x26.len : Nat) : Int))) + ((x27.len : Nat) : Int))) + ((x28.len : Nat) : Int))) == 0) (
  HM.bind (α := yS1) (HM.loadN tS1 (Addr.add ⟨x1, 0, none⟩ 5)) fun x29 =>
  HM.bind (α := Slc) (HM.call1 Tryz.prog (.one .slc) 8 #[.pointer none, .agg (aS1 x29)]) fun x30 =>
  HM.ite (((x30.len : Nat) : Int) == 0) (
  HM.bind (α := Option Addr) (HM.call1 Tryz.prog (.one .ptr) 9 #[.pointer none]) fun x31 =>
  HM.pure (Option.isNone x31, ())) (
  HM.pure (false, ()))) (
  HM.pure (false, ()))) (
  HM.pure (false, ()))) fun x32 =>
  HM.pure (x32.1, ())) (
  HM.bind (α := Nat) (HM.new (.cells #[.slice none 0 0, .slice none 0 0] 31)) fun x33 =>
  HM.bind (α := Bool) (HM.load1 .bool (Addr.add ⟨x1, 0, none⟩ 4)) fun x34 =>
  HM.req ((.bool x34 : Value) = .bool x6) <|
  HM.bind (α := Int) (HM.load1 (.int .i64) (Addr.add ⟨x1, 0, none⟩ 1)) fun x35 =>
  HM.req ((.int .i64 x35 : Value) = .int .i64 x5) <|
  HM.bind (α := Bool) (HM.load1 .bool (Addr.add ⟨x1, 0, none⟩ 4)) fun x36 =>
  HM.req ((.bool x36 : Value) = .bool x4) <|
  HM.bind (α := ByteArray) (HM.load1 .str (Addr.add ⟨x1, 0, none⟩ 3)) fun x37 =>
  HM.req ((.string x37 : Value) = .string x3) <|
  HM.bind (α := Int) (HM.load1 (.int .i64) (Addr.add ⟨x1, 0, none⟩ 1)) fun x38 =>
  HM.req ((.int .i64 x38 : Value) = .int .i64 x2) <|
  HM.bind (α := Nat) (HM.new (.cells #[.slice none 0 0, .slice none 0 0] 31)) fun x39 =>
  HM.bind (α := Bool) (HM.load1 .bool (Addr.add ⟨x1, 0, none⟩ 4)) fun x40 =>
  HM.req ((.bool x40 : Value) = .bool x6) <|
  HM.bind (α := Int) (HM.load1 (.int .i64) (Addr.add ⟨x1, 0, none⟩ 1)) fun x41 =>
  HM.req ((.int .i64 x41 : Value) = .int .i64 x5) <|
  HM.bind (α := Bool) (HM.load1 .bool (Addr.add ⟨x1, 0, none⟩ 4)) fun x42 =>
  HM.req ((.bool x42 : Value) = .bool x4) <|
  HM.bind (α := ByteArray) (HM.load1 .str (Addr.add ⟨x1, 0, none⟩ 3)) fun x43 =>
  HM.req ((.string x43 : Value) = .string x3) <|
  HM.bind (α := Int) (HM.load1 (.int .i64) (Addr.add ⟨x1, 0, none⟩ 1)) fun x44 =>
  HM.req ((.int .i64 x44 : Value) = .int .i64 x2) <|
  HM.bind (α := Unit) (HM.storeN ⟨x39, 0, none⟩ [.slice x7.1.a x7.1.len x7.1.cap, .slice x7.2.1.a x7.2.1.len x7.2.1.cap]) fun _ =>
  HM.bind (α := Unit) (HM.storeN ⟨x33, 0, none⟩ [.slice x10.1.a x10.1.len x10.1.cap, .slice x10.2.1.a x10.2.1.len x10.2.1.cap]) fun _ =>
  HM.bind (α := Unit) (HM.callN Tryz.prog [] 6 #[.pointer none]) fun x45 =>
  HM.bind (α := Bool × Unit) (HM.bind (α := Bool) (HM.call1 Tryz.prog (.one .bool) 7 #[]) fun x46 =>
  HM.ite x46 (
  HM.bind (α := Slc) (HM.load1 .slc (Addr.add ⟨x39, 0, none⟩ 0)) fun x47 =>
  HM.bind (α := Slc) (HM.load1 .slc (Addr.add ⟨x39, 0, none⟩ 1)) fun x48 =>
  HM.bind (α := Slc) (HM.load1 .slc (Addr.add ⟨x33, 0, none⟩ 0)) fun x49 =>
  HM.bind (α := Slc) (HM.load1 .slc (Addr.add ⟨x33, 0, none⟩ 1)) fun x50 =>
  HM.ite ((IntKind.wrap .i64 ((IntKind.wrap .i64 ((IntKind.wrap .i64 (((x47.len : Nat) : Int) + ((x48.len : Nat) : Int))) + ((x49.len : Nat) : Int))) + ((x50.len : Nat) : Int))) == 0) (
  HM.bind (α := yS1) (HM.loadN tS1 (Addr.add ⟨x1, 0, none⟩ 5)) fun x51 =>
  HM.bind (α := Slc) (HM.call1 Tryz.prog (.one .slc) 8 #[.pointer none, .agg (aS1 x51)]) fun x52 =>
  HM.ite (((x52.len : Nat) : Int) == 0) (
  HM.bind (α := Option Addr) (HM.call1 Tryz.prog (.one .ptr) 9 #[.pointer none]) fun x53 =>
  HM.pure (Option.isNone x53, ())) (
  HM.pure (false, ()))) (
  HM.pure (false, ()))) (
  HM.pure (false, ()))) fun x54 =>
  HM.pure (x54.1, ()))) (
  HM.both (
  HM.bind (α := Nat) (HM.new (.cells #[.slice none 0 0, .slice none 0 0] 31)) fun x55 =>
  HM.bind (α := Bool) (HM.load1 .bool (Addr.add ⟨x1, 0, none⟩ 4)) fun x56 =>
  HM.req ((.bool x56 : Value) = .bool x6) <|
  HM.bind (α := Int) (HM.load1 (.int .i64) (Addr.add ⟨x1, 0, none⟩ 1)) fun x57 =>
  HM.req ((.int .i64 x57 : Value) = .int .i64 x5) <|
  HM.bind (α := Bool) (HM.load1 .bool (Addr.add ⟨x1, 0, none⟩ 4)) fun x58 =>
  HM.req ((.bool x58 : Value) = .bool x4) <|
  HM.bind (α := ByteArray) (HM.load1 .str (Addr.add ⟨x1, 0, none⟩ 3)) fun x59 =>
  HM.req ((.string x59 : Value) = .string x3) <|
  HM.bind (α := Int) (HM.load1 (.int .i64) (Addr.add ⟨x1, 0, none⟩ 1)) fun x60 =>
  HM.req ((.int .i64 x60 : Value) = .int .i64 x2) <|
  HM.both (
  HM.bind (α := Slc × Slc × Unit) (HM.call1 Tryz.prog (.agg [.slc, .slc]) 5 #[.pointer none, .int .i64 x5, .bool x6]) fun x61 =>
  HM.bind (α := Nat) (HM.new (.cells #[.slice none 0 0, .slice none 0 0] 31)) fun x62 =>
  HM.bind (α := Bool) (HM.load1 .bool (Addr.add ⟨x1, 0, none⟩ 4)) fun x63 =>
  HM.req ((.bool x63 : Value) = .bool x6) <|
  HM.bind (α := Int) (HM.load1 (.int .i64) (Addr.add ⟨x1, 0, none⟩ 1)) fun x64 =>
  HM.req ((.int .i64 x64 : Value) = .int .i64 x5) <|
  HM.bind (α := Bool) (HM.load1 .bool (Addr.add ⟨x1, 0, none⟩ 4)) fun x65 =>
  HM.req ((.bool x65 : Value) = .bool x4) <|
  HM.bind (α := ByteArray) (HM.load1 .str (Addr.add ⟨x1, 0, none⟩ 3)) fun x66 =>
  HM.req ((.string x66 : Value) = .string x3) <|
  HM.bind (α := Int) (HM.load1 (.int .i64) (Addr.add ⟨x1, 0, none⟩ 1)) fun x67 =>
  HM.req ((.int .i64 x67 : Value) = .int .i64 x2) <|
  HM.bind (α := Unit) (HM.storeN ⟨x55, 0, none⟩ [.slice x7.1.a x7.1.len x7.1.cap, .slice x7.2.1.a x7.2.1.len x7.2.1.cap]) fun _ =>
  HM.bind (α := Unit) (HM.storeN ⟨x62, 0, none⟩ [.slice x61.1.a x61.1.len x61.1.cap, .slice x61.2.1.a x61.2.1.len x61.2.1.cap]) fun _ =>
  HM.bind (α := Unit) (HM.callN Tryz.prog [] 6 #[.pointer none]) fun x68 =>
  HM.bind (α := Bool × Unit) (HM.bind (α := Bool) (HM.call1 Tryz.prog (.one .bool) 7 #[]) fun x69 =>
  HM.ite x69 (
  HM.bind (α := Slc) (HM.load1 .slc (Addr.add ⟨x55, 0, none⟩ 0)) fun x70 =>
  HM.bind (α := Slc) (HM.load1 .slc (Addr.add ⟨x55, 0, none⟩ 1)) fun x71 =>
  HM.bind (α := Slc) (HM.load1 .slc (Addr.add ⟨x62, 0, none⟩ 0)) fun x72 =>
  HM.bind (α := Slc) (HM.load1 .slc (Addr.add ⟨x62, 0, none⟩ 1)) fun x73 =>
  HM.ite ((IntKind.wrap .i64 ((IntKind.wrap .i64 ((IntKind.wrap .i64 (((x70.len : Nat) : Int) + ((x71.len : Nat) : Int))) + ((x72.len : Nat) : Int))) + ((x73.len : Nat) : Int))) == 0) (
  HM.bind (α := yS1) (HM.loadN tS1 (Addr.add ⟨x1, 0, none⟩ 5)) fun x74 =>
  HM.bind (α := Slc) (HM.call1 Tryz.prog (.one .slc) 8 #[.pointer none, .agg (aS1 x74)]) fun x75 =>
  HM.ite (((x75.len : Nat) : Int) == 0) (
  HM.bind (α := Option Addr) (HM.call1 Tryz.prog (.one .ptr) 9 #[.pointer none]) fun x76 =>
  HM.pure (Option.isNone x76, ())) (
  HM.pure (false, ()))) (
  HM.pure (false, ()))) (
  HM.pure (false, ()))) fun x77 =>
  HM.pure (x77.1, ())) (
  HM.bind (α := Nat) (HM.new (.cells #[.slice none 0 0, .slice none 0 0] 31)) fun x78 =>
  HM.bind (α := Bool) (HM.load1 .bool (Addr.add ⟨x1, 0, none⟩ 4)) fun x79 =>
  HM.req ((.bool x79 : Value) = .bool x6) <|
  HM.bind (α := Int) (HM.load1 (.int .i64) (Addr.add ⟨x1, 0, none⟩ 1)) fun x80 =>
  HM.req ((.int .i64 x80 : Value) = .int .i64 x5) <|
  HM.bind (α := Bool) (HM.load1 .bool (Addr.add ⟨x1, 0, none⟩ 4)) fun x81 =>
  HM.req ((.bool x81 : Value) = .bool x4) <|
  HM.bind (α := ByteArray) (HM.load1 .str (Addr.add ⟨x1, 0, none⟩ 3)) fun x82 =>
  HM.req ((.string x82 : Value) = .string x3) <|
  HM.bind (α := Int) (HM.load1 (.int .i64) (Addr.add ⟨x1, 0, none⟩ 1)) fun x83 =>
  HM.req ((.int .i64 x83 : Value) = .int .i64 x2) <|
  HM.bind (α := Slc × Slc × Unit) (HM.call1 Tryz.prog (.agg [.slc, .slc]) 5 #[.pointer none, .int .i64 x5, .bool x6]) fun x84 =>
  HM.bind (α := Unit) (HM.storeN ⟨x55, 0, none⟩ [.slice x7.1.a x7.1.len x7.1.cap, .slice x7.2.1.a x7.2.1.len x7.2.1.cap]) fun _ =>
  HM.bind (α := Unit) (HM.storeN ⟨x78, 0, none⟩ [.slice x84.1.a x84.1.len x84.1.cap, .slice x84.2.1.a x84.2.1.len x84.2.1.cap]) fun _ =>
  HM.bind (α := Unit) (HM.callN Tryz.prog [] 6 #[.pointer none]) fun x85 =>
  HM.bind (α := Bool × Unit) (HM.bind (α := Bool) (HM.call1 Tryz.prog (.one .bool) 7 #[]) fun x86 =>
  HM.ite x86 (
  HM.bind (α := Slc) (HM.load1 .slc (Addr.add ⟨x55, 0, none⟩ 0)) fun x87 =>
  HM.bind (α := Slc) (HM.load1 .slc (Addr.add ⟨x55, 0, none⟩ 1)) fun x88 =>
  HM.bind (α := Slc) (HM.load1 .slc (Addr.add ⟨x78, 0, none⟩ 0)) fun x89 =>
  HM.bind (α := Slc) (HM.load1 .slc (Addr.add ⟨x78, 0, none⟩ 1)) fun x90 =>
  HM.ite ((IntKind.wrap .i64 ((IntKind.wrap .i64 ((IntKind.wrap .i64 (((x87.len : Nat) : Int) + ((x88.len : Nat) : Int))) + ((x89.len : Nat) : Int))) + ((x90.len : Nat) : Int))) == 0) (
  HM.bind (α := yS1) (HM.loadN tS1 (Addr.add ⟨x1, 0, none⟩ 5)) fun x91 =>
  HM.bind (α := Slc) (HM.call1 Tryz.prog (.one .slc) 8 #[.pointer none, .agg (aS1 x91)]) fun x92 =>
  HM.ite (((x92.len : Nat) : Int) == 0) (
  HM.bind (α := Option Addr) (HM.call1 Tryz.prog (.one .ptr) 9 #[.pointer none]) fun x93 =>
  HM.pure (Option.isNone x93, ())) (
  HM.pure (false, ()))) (
  HM.pure (false, ()))) (
  HM.pure (false, ()))) fun x94 =>
  HM.pure (x94.1, ()))) (
  HM.bind (α := Nat) (HM.new (.cells #[.slice none 0 0, .slice none 0 0] 31)) fun x95 =>
  HM.bind (α := Bool) (HM.load1 .bool (Addr.add ⟨x1, 0, none⟩ 4)) fun x96 =>
  HM.req ((.bool x96 : Value) = .bool x6) <|
  HM.bind (α := Int) (HM.load1 (.int .i64) (Addr.add ⟨x1, 0, none⟩ 1)) fun x97 =>
  HM.req ((.int .i64 x97 : Value) = .int .i64 x5) <|
  HM.bind (α := Bool) (HM.load1 .bool (Addr.add ⟨x1, 0, none⟩ 4)) fun x98 =>
  HM.req ((.bool x98 : Value) = .bool x4) <|
  HM.bind (α := ByteArray) (HM.load1 .str (Addr.add ⟨x1, 0, none⟩ 3)) fun x99 =>
  HM.req ((.string x99 : Value) = .string x3) <|
  HM.bind (α := Int) (HM.load1 (.int .i64) (Addr.add ⟨x1, 0, none⟩ 1)) fun x100 =>
  HM.req ((.int .i64 x100 : Value) = .int .i64 x2) <|
  HM.both (
  HM.bind (α := Slc × Slc × Unit) (HM.call1 Tryz.prog (.agg [.slc, .slc]) 5 #[.pointer none, .int .i64 x5, .bool x6]) fun x101 =>
  HM.bind (α := Nat) (HM.new (.cells #[.slice none 0 0, .slice none 0 0] 31)) fun x102 =>
  HM.bind (α := Bool) (HM.load1 .bool (Addr.add ⟨x1, 0, none⟩ 4)) fun x103 =>
  HM.req ((.bool x103 : Value) = .bool x6) <|
  HM.bind (α := Int) (HM.load1 (.int .i64) (Addr.add ⟨x1, 0, none⟩ 1)) fun x104 =>
  HM.req ((.int .i64 x104 : Value) = .int .i64 x5) <|
  HM.bind (α := Bool) (HM.load1 .bool (Addr.add ⟨x1, 0, none⟩ 4)) fun x105 =>
  HM.req ((.bool x105 : Value) = .bool x4) <|
  HM.bind (α := ByteArray) (HM.load1 .str (Addr.add ⟨x1, 0, none⟩ 3)) fun x106 =>
  HM.req ((.string x106 : Value) = .string x3) <|
  HM.bind (α := Int) (HM.load1 (.int .i64) (Addr.add ⟨x1, 0, none⟩ 1)) fun x107 =>
  HM.req ((.int .i64 x107 : Value) = .int .i64 x2) <|
  HM.bind (α := Unit) (HM.storeN ⟨x102, 0, none⟩ [.slice x7.1.a x7.1.len x7.1.cap, .slice x7.2.1.a x7.2.1.len x7.2.1.cap]) fun _ =>
  HM.bind (α := Unit) (HM.storeN ⟨x95, 0, none⟩ [.slice x101.1.a x101.1.len x101.1.cap, .slice x101.2.1.a x101.2.1.len x101.2.1.cap]) fun _ =>
  HM.bind (α := Unit) (HM.callN Tryz.prog [] 6 #[.pointer none]) fun x108 =>
  HM.bind (α := Bool × Unit) (HM.bind (α := Bool) (HM.call1 Tryz.prog (.one .bool) 7 #[]) fun x109 =>
  HM.ite x109 (
  HM.bind (α := Slc) (HM.load1 .slc (Addr.add ⟨x102, 0, none⟩ 0)) fun x110 =>
  HM.bind (α := Slc) (HM.load1 .slc (Addr.add ⟨x102, 0, none⟩ 1)) fun x111 =>
  HM.bind (α := Slc) (HM.load1 .slc (Addr.add ⟨x95, 0, none⟩ 0)) fun x112 =>
  HM.bind (α := Slc) (HM.load1 .slc (Addr.add ⟨x95, 0, none⟩ 1)) fun x113 =>
  HM.ite ((IntKind.wrap .i64 ((IntKind.wrap .i64 ((IntKind.wrap .i64 (((x110.len : Nat) : Int) + ((x111.len : Nat) : Int))) + ((x112.len : Nat) : Int))) + ((x113.len : Nat) : Int))) == 0) (
  HM.bind (α := yS1) (HM.loadN tS1 (Addr.add ⟨x1, 0, none⟩ 5)) fun x114 =>
  HM.bind (α := Slc) (HM.call1 Tryz.prog (.one .slc) 8 #[.pointer none, .agg (aS1 x114)]) fun x115 =>
  HM.ite (((x115.len : Nat) : Int) == 0) (
  HM.bind (α := Option Addr) (HM.call1 Tryz.prog (.one .ptr) 9 #[.pointer none]) fun x116 =>
  HM.pure (Option.isNone x116, ())) (
  HM.pure (false, ()))) (
  HM.pure (false, ()))) (
  HM.pure (false, ()))) fun x117 =>
  HM.pure (x117.1, ())) (
  HM.bind (α := Nat) (HM.new (.cells #[.slice none 0 0, .slice none 0 0] 31)) fun x118 =>
  HM.bind (α := Bool) (HM.load1 .bool (Addr.add ⟨x1, 0, none⟩ 4)) fun x119 =>
  HM.req ((.bool x119 : Value) = .bool x6) <|
  HM.bind (α := Int) (HM.load1 (.int .i64) (Addr.add ⟨x1, 0, none⟩ 1)) fun x120 =>
  HM.req ((.int .i64 x120 : Value) = .int .i64 x5) <|
  HM.bind (α := Bool) (HM.load1 .bool (Addr.add ⟨x1, 0, none⟩ 4)) fun x121 =>
  HM.req ((.bool x121 : Value) = .bool x4) <|
  HM.bind (α := ByteArray) (HM.load1 .str (Addr.add ⟨x1, 0, none⟩ 3)) fun x122 =>
  HM.req ((.string x122 : Value) = .string x3) <|
  HM.bind (α := Int) (HM.load1 (.int .i64) (Addr.add ⟨x1, 0, none⟩ 1)) fun x123 =>
  HM.req ((.int .i64 x123 : Value) = .int .i64 x2) <|
  HM.bind (α := Slc × Slc × Unit) (HM.call1 Tryz.prog (.agg [.slc, .slc]) 5 #[.pointer none, .int .i64 x5, .bool x6]) fun x124 =>
  HM.bind (α := Unit) (HM.storeN ⟨x118, 0, none⟩ [.slice x7.1.a x7.1.len x7.1.cap, .slice x7.2.1.a x7.2.1.len x7.2.1.cap]) fun _ =>
  HM.bind (α := Unit) (HM.storeN ⟨x95, 0, none⟩ [.slice x124.1.a x124.1.len x124.1.cap, .slice x124.2.1.a x124.2.1.len x124.2.1.cap]) fun _ =>
  HM.bind (α := Unit) (HM.callN Tryz.prog [] 6 #[.pointer none]) fun x125 =>
  HM.bind (α := Bool × Unit) (HM.bind (α := Bool) (HM.call1 Tryz.prog (.one .bool) 7 #[]) fun x126 =>
  HM.ite x126 (
  HM.bind (α := Slc) (HM.load1 .slc (Addr.add ⟨x118, 0, none⟩ 0)) fun x127 =>
  HM.bind (α := Slc) (HM.load1 .slc (Addr.add ⟨x118, 0, none⟩ 1)) fun x128 =>
  HM.bind (α := Slc) (HM.load1 .slc (Addr.add ⟨x95, 0, none⟩ 0)) fun x129 =>
  HM.bind (α := Slc) (HM.load1 .slc (Addr.add ⟨x95, 0, none⟩ 1)) fun x130 =>
  HM.ite ((IntKind.wrap .i64 ((IntKind.wrap .i64 ((IntKind.wrap .i64 (((x127.len : Nat) : Int) + ((x128.len : Nat) : Int))) + ((x129.len : Nat) : Int))) + ((x130.len : Nat) : Int))) == 0) (
  HM.bind (α := yS1) (HM.loadN tS1 (Addr.add ⟨x1, 0, none⟩ 5)) fun x131 =>
  HM.bind (α := Slc) (HM.call1 Tryz.prog (.one .slc) 8 #[.pointer none, .agg (aS1 x131)]) fun x132 =>
  HM.ite (((x132.len : Nat) : Int) == 0) (
  HM.bind (α := Option Addr) (HM.call1 Tryz.prog (.one .ptr) 9 #[.pointer none]) fun x133 =>
  HM.pure (Option.isNone x133, ())) (
  HM.pure (false, ()))) (
  HM.pure (false, ()))) (
  HM.pure (false, ()))) fun x134 =>
  HM.pure (x134.1, ()))))) (
  HM.both (
  HM.bind (α := Nat) (HM.new (.cells #[.slice none 0 0, .slice none 0 0] 31)) fun x135 =>
  HM.bind (α := Bool) (HM.load1 .bool (Addr.add ⟨x1, 0, none⟩ 4)) fun x136 =>
  HM.req ((.bool x136 : Value) = .bool x6) <|
  HM.bind (α := Int) (HM.load1 (.int .i64) (Addr.add ⟨x1, 0, none⟩ 1)) fun x137 =>
  HM.req ((.int .i64 x137 : Value) = .int .i64 x5) <|
  HM.bind (α := Bool) (HM.load1 .bool (Addr.add ⟨x1, 0, none⟩ 4)) fun x138 =>
  HM.req ((.bool x138 : Value) = .bool x4) <|
  HM.bind (α := ByteArray) (HM.load1 .str (Addr.add ⟨x1, 0, none⟩ 3)) fun x139 =>
  HM.req ((.string x139 : Value) = .string x3) <|
  HM.bind (α := Int) (HM.load1 (.int .i64) (Addr.add ⟨x1, 0, none⟩ 1)) fun x140 =>
  HM.req ((.int .i64 x140 : Value) = .int .i64 x2) <|
  HM.both (
  HM.bind (α := Slc × Slc × Unit) (HM.call1 Tryz.prog (.agg [.slc, .slc]) 4 #[.pointer none, .int .i64 x2, .string x3, .bool x4]) fun x141 =>
  HM.bind (α := Bool) (HM.load1 .bool (Addr.add ⟨x1, 0, none⟩ 4)) fun x142 =>
  HM.req ((.bool x142 : Value) = .bool x6) <|
  HM.bind (α := Int) (HM.load1 (.int .i64) (Addr.add ⟨x1, 0, none⟩ 1)) fun x143 =>
  HM.req ((.int .i64 x143 : Value) = .int .i64 x5) <|
  HM.both (
  HM.bind (α := Slc × Slc × Unit) (HM.call1 Tryz.prog (.agg [.slc, .slc]) 5 #[.pointer none, .int .i64 x5, .bool x6]) fun x144 =>
  HM.bind (α := Nat) (HM.new (.cells #[.slice none 0 0, .slice none 0 0] 31)) fun x145 =>
  HM.bind (α := Bool) (HM.load1 .bool (Addr.add ⟨x1, 0, none⟩ 4)) fun x146 =>
  HM.req ((.bool x146 : Value) = .bool x6) <|
  HM.bind (α := Int) (HM.load1 (.int .i64) (Addr.add ⟨x1, 0, none⟩ 1)) fun x147 =>
  HM.req ((.int .i64 x147 : Value) = .int .i64 x5) <|
  HM.bind (α := Bool) (HM.load1 .bool (Addr.add ⟨x1, 0, none⟩ 4)) fun x148 =>
  HM.req ((.bool x148 : Value) = .bool x4) <|
  HM.bind (α := ByteArray) (HM.load1 .str (Addr.add ⟨x1, 0, none⟩ 3)) fun x149 =>
  HM.req ((.string x149 : Value) = .string x3) <|
  HM.bind (α := Int) (HM.load1 (.int .i64) (Addr.add ⟨x1, 0, none⟩ 1)) fun x150 =>
  HM.req ((.int .i64 x150 : Value) = .int .i64 x2) <|
  HM.bind (α := Unit) (HM.storeN ⟨x135, 0, none⟩ [.slice x141.1.a x141.1.len x141.1.cap, .slice x141.2.1.a x141.2.1.len x141.2.1.cap]) fun _ =>
  HM.bind (α := Unit) (HM.storeN ⟨x145, 0, none⟩ [.slice x144.1.a x144.1.len x144.1.cap, .slice x144.2.1.a x144.2.1.len x144.2.1.cap]) fun _ =>
  HM.bind (α := Unit) (HM.callN Tryz.prog [] 6 #[.pointer none]) fun x151 =>
  HM.bind (α := Bool × Unit) (HM.bind (α := Bool) (HM.call1 Tryz.prog (.one .bool) 7 #[]) fun x152 =>
  HM.ite x152 (
  HM.bind (α := Slc) (HM.load1 .slc (Addr.add ⟨x135, 0, none⟩ 0)) fun x153 =>
  HM.bind (α := Slc) (HM.load1 .slc (Addr.add ⟨x135, 0, none⟩ 1)) fun x154 =>
  HM.bind (α := Slc) (HM.load1 .slc (Addr.add ⟨x145, 0, none⟩ 0)) fun x155 =>
  HM.bind (α := Slc) (HM.load1 .slc (Addr.add ⟨x145, 0, none⟩ 1)) fun x156 =>
  HM.ite ((IntKind.wrap .i64 ((IntKind.wrap .i64 ((IntKind.wrap .i64 (((x153.len : Nat) : Int) + ((x154.len : Nat) : Int))) + ((x155.len : Nat) : Int))) + ((x156.len : Nat) : Int))) == 0) (
  HM.bind (α := yS1) (HM.loadN tS1 (Addr.add ⟨x1, 0, none⟩ 5)) fun x157 =>
  HM.bind (α := Slc) (HM.call1 Tryz.prog (.one .slc) 8 #[.pointer none, .agg (aS1 x157)]) fun x158 =>
  HM.ite (((x158.len : Nat) : Int) == 0) (
  HM.bind (α := Option Addr) (HM.call1 Tryz.prog (.one .ptr) 9 #[.pointer none]) fun x159 =>
  HM.pure (Option.isNone x159, ())) (
  HM.pure (false, ()))) (
  HM.pure (false, ()))) (
  HM.pure (false, ()))) fun x160 =>
  HM.pure (x160.1, ())) (
  HM.bind (α := Nat) (HM.new (.cells #[.slice none 0 0, .slice none 0 0] 31)) fun x161 =>
  HM.bind (α := Bool) (HM.load1 .bool (Addr.add ⟨x1, 0, none⟩ 4)) fun x162 =>
  HM.req ((.bool x162 : Value) = .bool x6) <|
  HM.bind (α := Int) (HM.load1 (.int .i64) (Addr.add ⟨x1, 0, none⟩ 1)) fun x163 =>
  HM.req ((.int .i64 x163 : Value) = .int .i64 x5) <|
  HM.bind (α := Bool) (HM.load1 .bool (Addr.add ⟨x1, 0, none⟩ 4)) fun x164 =>
  HM.req ((.bool x164 : Value) = .bool x4) <|
  HM.bind (α := ByteArray) (HM.load1 .str (Addr.add ⟨x1, 0, none⟩ 3)) fun x165 =>
  HM.req ((.string x165 : Value) = .string x3) <|
  HM.bind (α := Int) (HM.load1 (.int .i64) (Addr.add ⟨x1, 0, none⟩ 1)) fun x166 =>
  HM.req ((.int .i64 x166 : Value) = .int .i64 x2) <|
  HM.bind (α := Slc × Slc × Unit) (HM.call1 Tryz.prog (.agg [.slc, .slc]) 5 #[.pointer none, .int .i64 x5, .bool x6]) fun x167 =>
  HM.bind (α := Unit) (HM.storeN ⟨x135, 0, none⟩ [.slice x141.1.a x141.1.len x141.1.cap, .slice x141.2.1.a x141.2.1.len x141.2.1.cap]) fun _ =>
  HM.bind (α := Unit) (HM.storeN ⟨x161, 0, none⟩ [.slice x167.1.a x167.1.len x167.1.cap, .slice x167.2.1.a x167.2.1.len x167.2.1.cap]) fun _ =>
  HM.bind (α := Unit) (HM.callN Tryz.prog [] 6 #[.pointer none]) fun x168 =>
  HM.bind (α := Bool × Unit) (HM.bind (α := Bool) (HM.call1 Tryz.prog (.one .bool) 7 #[]) fun x169 =>
  HM.ite x169 (
  HM.bind (α := Slc) (HM.load1 .slc (Addr.add ⟨x135, 0, none⟩ 0)) fun x170 =>
  HM.bind (α := Slc) (HM.load1 .slc (Addr.add ⟨x135, 0, none⟩ 1)) fun x171 =>
  HM.bind (α := Slc) (HM.load1 .slc (Addr.add ⟨x161, 0, none⟩ 0)) fun x172 =>
  HM.bind (α := Slc) (HM.load1 .slc (Addr.add ⟨x161, 0, none⟩ 1)) fun x173 =>
  HM.ite ((IntKind.wrap .i64 ((IntKind.wrap .i64 ((IntKind.wrap .i64 (((x170.len : Nat) : Int) + ((x171.len : Nat) : Int))) + ((x172.len : Nat) : Int))) + ((x173.len : Nat) : Int))) == 0) (
  HM.bind (α := yS1) (HM.loadN tS1 (Addr.add ⟨x1, 0, none⟩ 5)) fun x174 =>
  HM.bind (α := Slc) (HM.call1 Tryz.prog (.one .slc) 8 #[.pointer none, .agg (aS1 x174)]) fun x175 =>
  HM.ite (((x175.len : Nat) : Int) == 0) (
  HM.bind (α := Option Addr) (HM.call1 Tryz.prog (.one .ptr) 9 #[.pointer none]) fun x176 =>
  HM.pure (Option.isNone x176, ())) (
  HM.pure (false, ()))) (
  HM.pure (false, ()))) (
  HM.pure (false, ()))) fun x177 =>
  HM.pure (x177.1, ()))) (
  HM.bind (α := Nat) (HM.new (.cells #[.slice none 0 0, .slice none 0 0] 31)) fun x178 =>
  HM.bind (α := Bool) (HM.load1 .bool (Addr.add ⟨x1, 0, none⟩ 4)) fun x179 =>
  HM.req ((.bool x179 : Value) = .bool x6) <|
  HM.bind (α := Int) (HM.load1 (.int .i64) (Addr.add ⟨x1, 0, none⟩ 1)) fun x180 =>
  HM.req ((.int .i64 x180 : Value) = .int .i64 x5) <|
  HM.bind (α := Bool) (HM.load1 .bool (Addr.add ⟨x1, 0, none⟩ 4)) fun x181 =>
  HM.req ((.bool x181 : Value) = .bool x4) <|
  HM.bind (α := ByteArray) (HM.load1 .str (Addr.add ⟨x1, 0, none⟩ 3)) fun x182 =>
  HM.req ((.string x182 : Value) = .string x3) <|
  HM.bind (α := Int) (HM.load1 (.int .i64) (Addr.add ⟨x1, 0, none⟩ 1)) fun x183 =>
  HM.req ((.int .i64 x183 : Value) = .int .i64 x2) <|
  HM.bind (α := Slc × Slc × Unit) (HM.call1 Tryz.prog (.agg [.slc, .slc]) 4 #[.pointer none, .int .i64 x2, .string x3, .bool x4]) fun x184 =>
  HM.bind (α := Bool) (HM.load1 .bool (Addr.add ⟨x1, 0, none⟩ 4)) fun x185 =>
  HM.req ((.bool x185 : Value) = .bool x6) <|
  HM.bind (α := Int) (HM.load1 (.int .i64) (Addr.add ⟨x1, 0, none⟩ 1)) fun x186 =>
  HM.req ((.int .i64 x186 : Value) = .int .i64 x5) <|
  HM.bind (α := Slc × Slc × Unit) (HM.call1 Tryz.prog (.agg [.slc, .slc]) 5 #[.pointer none, .int .i64 x5, .bool x6]) fun x187 =>
  HM.bind (α := Unit) (HM.storeN ⟨x135, 0, none⟩ [.slice x184.1.a x184.1.len x184.1.cap, .slice x184.2.1.a x184.2.1.len x184.2.1.cap]) fun _ =>
  HM.bind (α := Unit) (HM.storeN ⟨x178, 0, none⟩ [.slice x187.1.a x187.1.len x187.1.cap, .slice x187.2.1.a x187.2.1.len x187.2.1.cap]) fun _ =>
  HM.bind (α := Unit) (HM.callN Tryz.prog [] 6 #[.pointer none]) fun x188 =>
  HM.bind (α := Bool × Unit) (HM.bind (α := Bool) (HM.call1 Tryz.prog (.one .bool) 7 #[]) fun x189 =>
  HM.ite x189 (
  HM.bind (α := Slc) (HM.load1 .slc (Addr.add ⟨x135, 0, none⟩ 0)) fun x190 =>
  HM.bind (α := Slc) (HM.load1 .slc (Addr.add ⟨x135, 0, none⟩ 1)) fun x191 =>
  HM.bind (α := Slc) (HM.load1 .slc (Addr.add ⟨x178, 0, none⟩ 0)) fun x192 =>
  HM.bind (α := Slc) (HM.load1 .slc (Addr.add ⟨x178, 0, none⟩ 1)) fun x193 =>
  HM.ite ((IntKind.wrap .i64 ((IntKind.wrap .i64 ((IntKind.wrap .i64 (((x190.len : Nat) : Int) + ((x191.len : Nat) : Int))) + ((x192.len : Nat) : Int))) + ((x193.len : Nat) : Int))) == 0) (
  HM.bind (α := yS1) (HM.loadN tS1 (Addr.add ⟨x1, 0, none⟩ 5)) fun x194 =>
  HM.bind (α := Slc) (HM.call1 Tryz.prog (.one .slc) 8 #[.pointer none, .agg (aS1 x194)]) fun x195 =>
  HM.ite (((x195.len : Nat) : Int) == 0) (
  HM.bind (α := Option Addr) (HM.call1 Tryz.prog (.one .ptr) 9 #[.pointer none]) fun x196 =>
  HM.pure (Option.isNone x196, ())) (
  HM.pure (false, ()))) (
  HM.pure (false, ()))) (
  HM.pure (false, ()))) fun x197 =>
  HM.pure (x197.1, ()))) (
  HM.bind (α := Nat) (HM.new (.cells #[.slice none 0 0, .slice none 0 0] 31)) fun x198 =>
  HM.bind (α := Bool) (HM.load1 .bool (Addr.add ⟨x1, 0, none⟩ 4)) fun x199 =>
  HM.req ((.bool x199 : Value) = .bool x6) <|
  HM.bind (α := Int) (HM.load1 (.int .i64) (Addr.add ⟨x1, 0, none⟩ 1)) fun x200 =>
  HM.req ((.int .i64 x200 : Value) = .int .i64 x5) <|
  HM.bind (α := Bool) (HM.load1 .bool (Addr.add ⟨x1, 0, none⟩ 4)) fun x201 =>
  HM.req ((.bool x201 : Value) = .bool x4) <|
  HM.bind (α := ByteArray) (HM.load1 .str (Addr.add ⟨x1, 0, none⟩ 3)) fun x202 =>
  HM.req ((.string x202 : Value) = .string x3) <|
  HM.bind (α := Int) (HM.load1 (.int .i64) (Addr.add ⟨x1, 0, none⟩ 1)) fun x203 =>
  HM.req ((.int .i64 x203 : Value) = .int .i64 x2) <|
  HM.both (
  HM.bind (α := Slc × Slc × Unit) (HM.call1 Tryz.prog (.agg [.slc, .slc]) 4 #[.pointer none, .int .i64 x2, .string x3, .bool x4]) fun x204 =>
  HM.bind (α := Bool) (HM.load1 .bool (Addr.add ⟨x1, 0, none⟩ 4)) fun x205 =>
  HM.req ((.bool x205 : Value) = .bool x6) <|
  HM.bind (α := Int) (HM.load1 (.int .i64) (Addr.add ⟨x1, 0, none⟩ 1)) fun x206 =>
  HM.req ((.int .i64 x206 : Value) = .int .i64 x5) <|
  HM.both (
  HM.bind (α := Slc × Slc × Unit) (HM.call1 Tryz.prog (.agg [.slc, .slc]) 5 #[.pointer none, .int .i64 x5, .bool x6]) fun x207 =>
  HM.bind (α := Nat) (HM.new (.cells #[.slice none 0 0, .slice none 0 0] 31)) fun x208 =>
  HM.bind (α := Bool) (HM.load1 .bool (Addr.add ⟨x1, 0, none⟩ 4)) fun x209 =>
  HM.req ((.bool x209 : Value) = .bool x6) <|
  HM.bind (α := Int) (HM.load1 (.int .i64) (Addr.add ⟨x1, 0, none⟩ 1)) fun x210 =>
  HM.req ((.int .i64 x210 : Value) = .int .i64 x5) <|
  HM.bind (α := Bool) (HM.load1 .bool (Addr.add ⟨x1, 0, none⟩ 4)) fun x211 =>
  HM.req ((.bool x211 : Value) = .bool x4) <|
  HM.bind (α := ByteArray) (HM.load1 .str (Addr.add ⟨x1, 0, none⟩ 3)) fun x212 =>
  HM.req ((.string x212 : Value) = .string x3) <|
  HM.bind (α := Int) (HM.load1 (.int .i64) (Addr.add ⟨x1, 0, none⟩ 1)) fun x213 =>
  HM.req ((.int .i64 x213 : Value) = .int .i64 x2) <|
  HM.bind (α := Unit) (HM.storeN ⟨x208, 0, none⟩ [.slice x204.1.a x204.1.len x204.1.cap, .slice x204.2.1.a x204.2.1.len x204.2.1.cap]) fun _ =>
  HM.bind (α := Unit) (HM.storeN ⟨x198, 0, none⟩ [.slice x207.1.a x207.1.len x207.1.cap, .slice x207.2.1.a x207.2.1.len x207.2.1.cap]) fun _ =>
  HM.bind (α := Unit) (HM.callN Tryz.prog [] 6 #[.pointer none]) fun x214 =>
  HM.bind (α := Bool × Unit) (HM.bind (α := Bool) (HM.call1 Tryz.prog (.one .bool) 7 #[]) fun x215 =>
  HM.ite x215 (
  HM.bind (α := Slc) (HM.load1 .slc (Addr.add ⟨x208, 0, none⟩ 0)) fun x216 =>
  HM.bind (α := Slc) (HM.load1 .slc (Addr.add ⟨x208, 0, none⟩ 1)) fun x217 =>
  HM.bind (α := Slc) (HM.load1 .slc (Addr.add ⟨x198, 0, none⟩ 0)) fun x218 =>
  HM.bind (α := Slc) (HM.load1 .slc (Addr.add ⟨x198, 0, none⟩ 1)) fun x219 =>
  HM.ite ((IntKind.wrap .i64 ((IntKind.wrap .i64 ((IntKind.wrap .i64 (((x216.len : Nat) : Int) + ((x217.len : Nat) : Int))) + ((x218.len : Nat) : Int))) + ((x219.len : Nat) : Int))) == 0) (
  HM.bind (α := yS1) (HM.loadN tS1 (Addr.add ⟨x1, 0, none⟩ 5)) fun x220 =>
  HM.bind (α := Slc) (HM.call1 Tryz.prog (.one .slc) 8 #[.pointer none, .agg (aS1 x220)]) fun x221 =>
  HM.ite (((x221.len : Nat) : Int) == 0) (
  HM.bind (α := Option Addr) (HM.call1 Tryz.prog (.one .ptr) 9 #[.pointer none]) fun x222 =>
  HM.pure (Option.isNone x222, ())) (
  HM.pure (false, ()))) (
  HM.pure (false, ()))) (
  HM.pure (false, ()))) fun x223 =>
  HM.pure (x223.1, ())) (
  HM.bind (α := Nat) (HM.new (.cells #[.slice none 0 0, .slice none 0 0] 31)) fun x224 =>
  HM.bind (α := Bool) (HM.load1 .bool (Addr.add ⟨x1, 0, none⟩ 4)) fun x225 =>
  HM.req ((.bool x225 : Value) = .bool x6) <|
  HM.bind (α := Int) (HM.load1 (.int .i64) (Addr.add ⟨x1, 0, none⟩ 1)) fun x226 =>
  HM.req ((.int .i64 x226 : Value) = .int .i64 x5) <|
  HM.bind (α := Bool) (HM.load1 .bool (Addr.add ⟨x1, 0, none⟩ 4)) fun x227 =>
  HM.req ((.bool x227 : Value) = .bool x4) <|
  HM.bind (α := ByteArray) (HM.load1 .str (Addr.add ⟨x1, 0, none⟩ 3)) fun x228 =>
  HM.req ((.string x228 : Value) = .string x3) <|
  HM.bind (α := Int) (HM.load1 (.int .i64) (Addr.add ⟨x1, 0, none⟩ 1)) fun x229 =>
  HM.req ((.int .i64 x229 : Value) = .int .i64 x2) <|
  HM.bind (α := Slc × Slc × Unit) (HM.call1 Tryz.prog (.agg [.slc, .slc]) 5 #[.pointer none, .int .i64 x5, .bool x6]) fun x230 =>
  HM.bind (α := Unit) (HM.storeN ⟨x224, 0, none⟩ [.slice x204.1.a x204.1.len x204.1.cap, .slice x204.2.1.a x204.2.1.len x204.2.1.cap]) fun _ =>
  HM.bind (α := Unit) (HM.storeN ⟨x198, 0, none⟩ [.slice x230.1.a x230.1.len x230.1.cap, .slice x230.2.1.a x230.2.1.len x230.2.1.cap]) fun _ =>
  HM.bind (α := Unit) (HM.callN Tryz.prog [] 6 #[.pointer none]) fun x231 =>
  HM.bind (α := Bool × Unit) (HM.bind (α := Bool) (HM.call1 Tryz.prog (.one .bool) 7 #[]) fun x232 =>
  HM.ite x232 (
  HM.bind (α := Slc) (HM.load1 .slc (Addr.add ⟨x224, 0, none⟩ 0)) fun x233 =>
  HM.bind (α := Slc) (HM.load1 .slc (Addr.add ⟨x224, 0, none⟩ 1)) fun x234 =>
  HM.bind (α := Slc) (HM.load1 .slc (Addr.add ⟨x198, 0, none⟩ 0)) fun x235 =>
  HM.bind (α := Slc) (HM.load1 .slc (Addr.add ⟨x198, 0, none⟩ 1)) fun x236 =>
  HM.ite ((IntKind.wrap .i64 ((IntKind.wrap .i64 ((IntKind.wrap .i64 (((x233.len : Nat) : Int) + ((x234.len : Nat) : Int))) + ((x235.len : Nat) : Int))) + ((x236.len : Nat) : Int))) == 0) (
  HM.bind (α := yS1) (HM.loadN tS1 (Addr.add ⟨x1, 0, none⟩ 5)) fun x237 =>
  HM.bind (α := Slc) (HM.call1 Tryz.prog (.one .slc) 8 #[.pointer none, .agg (aS1 x237)]) fun x238 =>
  HM.ite (((x238.len : Nat) : Int) == 0) (
  HM.bind (α := Option Addr) (HM.call1 Tryz.prog (.one .ptr) 9 #[.pointer none]) fun x239 =>
  HM.pure (Option.isNone x239, ())) (
  HM.pure (false, ()))) (
  HM.pure (false, ()))) (
  HM.pure (false, ()))) fun x240 =>
  HM.pure (x240.1, ()))) (
  HM.bind (α := Nat) (HM.new (.cells #[.slice none 0 0, .slice none 0 0] 31)) fun x241 =>
  HM.bind (α := Bool) (HM.load1 .bool (Addr.add ⟨x1, 0, none⟩ 4)) fun x242 =>
  HM.req ((.bool x242 : Value) = .bool x6) <|
  HM.bind (α := Int) (HM.load1 (.int .i64) (Addr.add ⟨x1, 0, none⟩ 1)) fun x243 =>
  HM.req ((.int .i64 x243 : Value) = .int .i64 x5) <|
  HM.bind (α := Bool) (HM.load1 .bool (Addr.add ⟨x1, 0, none⟩ 4)) fun x244 =>
  HM.req ((.bool x244 : Value) = .bool x4) <|
  HM.bind (α := ByteArray) (HM.load1 .str (Addr.add ⟨x1, 0, none⟩ 3)) fun x245 =>
  HM.req ((.string x245 : Value) = .string x3) <|
  HM.bind (α := Int) (HM.load1 (.int .i64) (Addr.add ⟨x1, 0, none⟩ 1)) fun x246 =>
  HM.req ((.int .i64 x246 : Value) = .int .i64 x2) <|
  HM.bind (α := Slc × Slc × Unit) (HM.call1 Tryz.prog (.agg [.slc, .slc]) 4 #[.pointer none, .int .i64 x2, .string x3, .bool x4]) fun x247 =>
  HM.bind (α := Bool) (HM.load1 .bool (Addr.add ⟨x1, 0, none⟩ 4)) fun x248 =>
  HM.req ((.bool x248 : Value) = .bool x6) <|
  HM.bind (α := Int) (HM.load1 (.int .i64) (Addr.add ⟨x1, 0, none⟩ 1)) fun x249 =>
  HM.req ((.int .i64 x249 : Value) = .int .i64 x5) <|
  HM.bind (α := Slc × Slc × Unit) (HM.call1 Tryz.prog (.agg [.slc, .slc]) 5 #[.pointer none, .int .i64 x5, .bool x6]) fun x250 =>
  HM.bind (α := Unit) (HM.storeN ⟨x241, 0, none⟩ [.slice x247.1.a x247.1.len x247.1.cap, .slice x247.2.1.a x247.2.1.len x247.2.1.cap]) fun _ =>
  HM.bind (α := Unit) (HM.storeN ⟨x198, 0, none⟩ [.slice x250.1.a x250.1.len x250.1.cap, .slice x250.2.1.a x250.2.1.len x250.2.1.cap]) fun _ =>
  HM.bind (α := Unit) (HM.callN Tryz.prog [] 6 #[.pointer none]) fun x251 =>
  HM.bind (α := Bool × Unit) (HM.bind (α := Bool) (HM.call1 Tryz.prog (.one .bool) 7 #[]) fun x252 =>
  HM.ite x252 (
  HM.bind (α := Slc) (HM.load1 .slc (Addr.add ⟨x241, 0, none⟩ 0)) fun x253 =>
  HM.bind (α := Slc) (HM.load1 .slc (Addr.add ⟨x241, 0, none⟩ 1)) fun x254 =>
  HM.bind (α := Slc) (HM.load1 .slc (Addr.add ⟨x198, 0, none⟩ 0)) fun x255 =>
  HM.bind (α := Slc) (HM.load1 .slc (Addr.add ⟨x198, 0, none⟩ 1)) fun x256 =>
  HM.ite ((IntKind.wrap .i64 ((IntKind.wrap .i64 ((IntKind.wrap .i64 (((x253.len : Nat) : Int) + ((x254.len : Nat) : Int))) + ((x255.len : Nat) : Int))) + ((x256.len : Nat) : Int))) == 0) (
  HM.bind (α := yS1) (HM.loadN tS1 (Addr.add ⟨x1, 0, none⟩ 5)) fun x257 =>
  HM.bind (α := Slc) (HM.call1 Tryz.prog (.one .slc) 8 #[.pointer none, .agg (aS1 x257)]) fun x258 =>
  HM.ite (((x258.len : Nat) : Int) == 0) (
  HM.bind (α := Option Addr) (HM.call1 Tryz.prog (.one .ptr) 9 #[.pointer none]) fun x259 =>
  HM.pure (Option.isNone x259, ())) (
  HM.pure (false, ()))) (
  HM.pure (false, ()))) (
  HM.pure (false, ()))) fun x260 =>
  HM.pure (x260.1, ()))))
theorem law20_FrontNil_den (p0 : Int × Int × Slc × ByteArray × Bool × ByteArray × ByteArray × Int × Bool × ByteArray × Unit) : denFn Tryz.prog [4, 5, 6, 7, 8, 9] 54 [0, 1, 2, 3, 4, 5] [0, 1, 3, 4, 5] Tryz.f3.results.toList [.one .bool] (bodyOf Tryz.f3) [Kind.val (.agg [.int .i64, .int .i64, .slc, .str, .bool, .str, .str, .int .i64, .bool, .str]) p0] = law20_FrontNil p0 := by kernel_rfl
theorem law20_FrontNil_calls (p0 : Int × Int × Slc × ByteArray × Bool × ByteArray × ByteArray × Int × Bool × ByteArray × Unit) (h : Heap) (Q : Value → Heap → Prop) (hh : law20_FrontNil p0 h fun x h' => Q (.bool x.1) h') :
    HCalls Tryz.prog 3 #[.agg #[.int .i64 p0.1, .int .i64 p0.2.1, .slice p0.2.2.1.a p0.2.2.1.len p0.2.2.1.cap, .string p0.2.2.2.1, .bool p0.2.2.2.2.1, .string p0.2.2.2.2.2.1, .string p0.2.2.2.2.2.2.1, .int .i64 p0.2.2.2.2.2.2.2.1, .bool p0.2.2.2.2.2.2.2.2.1, .string p0.2.2.2.2.2.2.2.2.2.1]] h Q :=
  calls_of_eq Tryz.func3 (by kernel_rfl) Tryz.ntmps3 (by kernel_rfl) (CC Tryz.call4 (CC Tryz.call5 (CC Tryz.call6 (CC Tryz.call7 (CC Tryz.call8 (CC Tryz.call9 CN)))))) orders (law20_FrontNil_den p0) hh
def front_Front_Feed (p0 : Option Addr) (p1 : Int) (p2 : ByteArray) (p3 : Bool) : HM ((Slc × Slc × Unit) × Unit) :=
  HM.bind (α := Nat) (HM.new (.cells #[.slice none 0 0, .slice none 0 0] 31)) fun x1 =>
  HM.bind (α := Nat) (HM.new (.cells #[.slice none 0 0, .slice none 0 0] 31)) fun x2 =>
  HM.ite (Option.isNone p0) (
  HM.bind (α := Slc × Slc × Unit) (HM.loadN [.slc, .slc] ⟨x2, 0, none⟩) fun x3 =>
  HM.bind (α := Unit) (HM.storeN ⟨x1, 0, none⟩ [.slice x3.1.a x3.1.len x3.1.cap, .slice x3.2.1.a x3.2.1.len x3.2.1.cap]) fun _ =>
  HM.bind (α := Slc × Slc × Unit) (HM.loadN [.slc, .slc] ⟨x1, 0, none⟩) fun x4 =>
  HM.pure ((x4.1, x4.2.1, ()), ())) (
  HM.bind (α := Addr) (HM.nonnil p0) fun x5 =>
  HM.bind (α := Option Nat) (HM.load1 .map (Addr.add x5 1)) fun x6 =>
  HM.bind (α := Option Addr × Bool) (HM.lookup (Instr.sameNow (.int .i64)) (.pointer none) (.one .ptr) x6 (.int .i64 p1)) fun x7 =>
  HM.bind (α := Unit) (HM.ite (Option.isNone x7.1) (
  HM.bind (α := Addr) (HM.nonnil p0) fun x9 =>
  HM.bind (α := Option Nat) (HM.load1 .map (Addr.add x9 1)) fun x10 =>
  HM.bind (α := Option Addr) (HM.call1 Tryz.prog (.one .ptr) 10 #[.int .i64 65536]) fun x11 =>
  HM.bind (α := Option Nat) (HM.load1 .map (Addr.add x9 1)) fun x12 =>
  HM.req ((.map x12 : Value) = .map x10) <|
  HM.bind (α := Unit) (HM.mapSet (Instr.sameNow (.int .i64)) x10 (.int .i64 p1) (.pointer x11)) fun _ =>
  HM.pure ()) (
  HM.pure ())) fun x8 =>
  HM.bind (α := Addr) (HM.nonnil p0) fun x13 =>
  HM.bind (α := Option Nat) (HM.load1 .map (Addr.add x13 1)) fun x14 =>
  HM.bind (α := Option Addr × Bool) (HM.lookup (Instr.sameNow (.int .i64)) (.pointer none) (.one .ptr) x14 (.int .i64 p1)) fun x15 =>
  HM.bind (α := Slc × Int × Unit) (HM.callN Tryz.prog [.one .slc, .one (.int .u8)] 11 #[.pointer x15.1, .string p2]) fun x16 =>
  HM.bind (α := (Int × Unit) ⊕ ((Slc × Slc × Unit) × Unit)) (HM.loop (σ := Int × Unit) (τ := (Int × Unit) ⊕ ((Slc × Slc × Unit) × Unit)) (fun x18 =>
  HM.ite (decide (x18.1 < (((x16.1.len : Nat) : Int) : Int))) (
  HM.bind (α := Addr) (HM.idx x16.1.a x16.1.len x18.1 26) fun x19 =>
  HM.bind (α := yS0) (HM.loadN tS0 x19) fun x20 =>
  HM.bind (α := Nat) (HM.new (.cells zS0 57)) fun x21 =>
  HM.bind (α := Unit) (HM.storeN ⟨x21, 0, none⟩ (lS0 x20)) fun _ =>
  HM.bind (α := Addr) (HM.nonnil p0) fun x22 =>
  HM.bind (α := Option Addr) (HM.load1 .ptr (Addr.add x22 0)) fun x23 =>
  HM.bind (α := yS0) (HM.loadN tS0 ⟨x21, 0, none⟩) fun x24 =>
  HM.bind (α := Slc × Slc × Unit) (HM.call1 Tryz.prog (.agg [.slc, .slc]) 13 #[.pointer x23, .int .i64 p1, .agg (aS0 x24), .bool p3]) fun x25 =>
  HM.bind (α := Unit) (HM.callN Tryz.prog [] 12 #[.pointer p0, .pointer (some ⟨x2, 0, none⟩), .agg #[.slice x25.1.a x25.1.len x25.1.cap, .slice x25.2.1.a x25.2.1.len x25.2.1.cap]]) fun x26 =>
  HM.bind (α := Int) (HM.load1 (.int .i64) (Addr.add ⟨x21, 0, none⟩ 0)) fun x27 =>
  HM.bind (α := Unit) (HM.ite (x27 == 14) (
  HM.bind (α := Addr) (HM.nonnil p0) fun x29 =>
  HM.bind (α := Option Nat) (HM.load1 .map (Addr.add x29 1)) fun x30 =>
  HM.bind (α := Unit) (HM.mapDel (Instr.sameNow (.int .i64)) x30 (.int .i64 p1)) fun _ =>
  HM.pure ()) (
  HM.pure ())) fun x28 =>
  HM.bind (α := Addr) (HM.nonnil p0) fun x31 =>
  HM.bind (α := Option Nat) (HM.load1 .map (Addr.add x31 1)) fun x32 =>
  HM.bind (α := Option Addr × Bool) (HM.lookup (Instr.sameNow (.int .i64)) (.pointer none) (.one .ptr) x32 (.int .i64 p1)) fun x33 =>
  HM.ite (Option.isNone x33.1) (
  HM.bind (α := Slc × Slc × Unit) (HM.loadN [.slc, .slc] ⟨x2, 0, none⟩) fun x34 =>
  HM.bind (α := Unit) (HM.storeN ⟨x1, 0, none⟩ [.slice x34.1.a x34.1.len x34.1.cap, .slice x34.2.1.a x34.2.1.len x34.2.1.cap]) fun _ =>
  HM.bind (α := Slc × Slc × Unit) (HM.loadN [.slc, .slc] ⟨x1, 0, none⟩) fun x35 =>
  HM.pure (.inr (.inr ((x35.1, x35.2.1, ()), ())))) (
  HM.pure (.inl (IntKind.wrap .i64 (x18.1 + 1), ())))) (
  HM.pure (.inr (.inl (x18.1, ()))))) (0, ())) (Sum.elim (fun x17 =>
  HM.bind (α := Unit) (HM.ite (!(x16.2.1 == 0)) (
  HM.bind (α := Nat) (HM.new (.cells #[.int .i64 p1, .int .i64 14, .bool false, .bool false, .int .i64 0, .int .i64 0, .string (ByteArray.mk #[]), .string (ByteArray.mk #[]), .int .u8 x16.2.1, .slice none 0 0, .slice none 0 0, .string (ByteArray.mk #[]), .bool false, .int .i64 0, .bool false, .string (ByteArray.mk #[]), .string (ByteArray.mk #[]), .int .i64 0, .bool false, .slice none 0 0, .bool false, .bool false, .string (ByteArray.mk #[]), .string (ByteArray.mk #[]), .bool false, .slice none 0 0, .slice none 0 0, .bool true] 65)) fun x37 =>
  HM.bind (α := Unit) (HM.callN Tryz.prog [] 12 #[.pointer p0, .pointer (some ⟨x2, 0, none⟩), .agg #[.slice (some ⟨x37, 0, none⟩) 1 1, .slice none 0 0]]) fun x38 =>
  HM.bind (α := Addr) (HM.nonnil p0) fun x39 =>
  HM.bind (α := Option Addr) (HM.load1 .ptr (Addr.add x39 0)) fun x40 =>
  HM.bind (α := Slc × Slc × Unit) (HM.call1 Tryz.prog (.agg [.slc, .slc]) 14 #[.pointer x40, .int .i64 p1, .bool p3]) fun x41 =>
  HM.bind (α := Unit) (HM.callN Tryz.prog [] 12 #[.pointer p0, .pointer (some ⟨x2, 0, none⟩), .agg #[.slice x41.1.a x41.1.len x41.1.cap, .slice x41.2.1.a x41.2.1.len x41.2.1.cap]]) fun x42 =>
  HM.pure ()) (
  HM.pure ())) fun x36 =>
  HM.bind (α := Slc × Slc × Unit) (HM.loadN [.slc, .slc] ⟨x2, 0, none⟩) fun x43 =>
  HM.bind (α := Unit) (HM.storeN ⟨x1, 0, none⟩ [.slice x43.1.a x43.1.len x43.1.cap, .slice x43.2.1.a x43.2.1.len x43.2.1.cap]) fun _ =>
  HM.bind (α := Slc × Slc × Unit) (HM.loadN [.slc, .slc] ⟨x1, 0, none⟩) fun x44 =>
  HM.pure ((x44.1, x44.2.1, ()), ())) HM.pure))
theorem front_Front_Feed_den (p0 : Option Addr) (p1 : Int) (p2 : ByteArray) (p3 : Bool) : denFn Tryz.prog [10, 11, 13, 12, 14] 94 [0, 1, 2, 3, 8, 9, 10, 11, 13, 15, 23, 41, 42, 43, 44, 59, 71, 75] [0, 1, 2, 3, 8, 9, 10, 11, 13, 15, 23, 41, 42, 43, 44, 59, 71, 75] Tryz.f4.results.toList [.agg [.slc, .slc]] (bodyOf Tryz.f4) [Kind.val (.one .ptr) p0, Kind.val (.one (.int .i64)) p1, Kind.val (.one .str) p2, Kind.val (.one .bool) p3] = front_Front_Feed p0 p1 p2 p3 := by kernel_rfl
theorem front_Front_Feed_calls (p0 : Option Addr) (p1 : Int) (p2 : ByteArray) (p3 : Bool) (h : Heap) (Q : Value → Heap → Prop) (hh : front_Front_Feed p0 p1 p2 p3 h fun x h' => Q (.agg #[.slice x.1.1.a x.1.1.len x.1.1.cap, .slice x.1.2.1.a x.1.2.1.len x.1.2.1.cap]) h') :
    HCalls Tryz.prog 4 #[.pointer p0, .int .i64 p1, .string p2, .bool p3] h Q :=
  calls_of_eq Tryz.func4 (by kernel_rfl) Tryz.ntmps4 (by kernel_rfl) (CC Tryz.call10 (CC Tryz.call11 (CC Tryz.call13 (CC Tryz.call12 (CC Tryz.call14 CN))))) orders (front_Front_Feed_den p0 p1 p2 p3) hh
def front_Front_Lost (p0 : Option Addr) (p1 : Int) (p2 : Bool) : HM ((Slc × Slc × Unit) × Unit) :=
  HM.bind (α := Nat) (HM.new (.cells #[.slice none 0 0, .slice none 0 0] 31)) fun x1 =>
  HM.bind (α := Nat) (HM.new (.cells #[.slice none 0 0, .slice none 0 0] 31)) fun x2 =>
  HM.ite (Option.isNone p0) (
  HM.bind (α := Slc × Slc × Unit) (HM.loadN [.slc, .slc] ⟨x2, 0, none⟩) fun x3 =>
  HM.bind (α := Unit) (HM.storeN ⟨x1, 0, none⟩ [.slice x3.1.a x3.1.len x3.1.cap, .slice x3.2.1.a x3.2.1.len x3.2.1.cap]) fun _ =>
  HM.bind (α := Slc × Slc × Unit) (HM.loadN [.slc, .slc] ⟨x1, 0, none⟩) fun x4 =>
  HM.pure ((x4.1, x4.2.1, ()), ())) (
  HM.bind (α := Addr) (HM.nonnil p0) fun x5 =>
  HM.bind (α := Option Nat) (HM.load1 .map (Addr.add x5 1)) fun x6 =>
  HM.bind (α := Unit) (HM.mapDel (Instr.sameNow (.int .i64)) x6 (.int .i64 p1)) fun _ =>
  HM.bind (α := Addr) (HM.nonnil p0) fun x7 =>
  HM.bind (α := Option Addr) (HM.load1 .ptr (Addr.add x7 0)) fun x8 =>
  HM.bind (α := Slc × Slc × Unit) (HM.call1 Tryz.prog (.agg [.slc, .slc]) 14 #[.pointer x8, .int .i64 p1, .bool p2]) fun x9 =>
  HM.bind (α := Unit) (HM.callN Tryz.prog [] 12 #[.pointer p0, .pointer (some ⟨x2, 0, none⟩), .agg #[.slice x9.1.a x9.1.len x9.1.cap, .slice x9.2.1.a x9.2.1.len x9.2.1.cap]]) fun x10 =>
  HM.bind (α := Slc × Slc × Unit) (HM.loadN [.slc, .slc] ⟨x2, 0, none⟩) fun x11 =>
  HM.bind (α := Unit) (HM.storeN ⟨x1, 0, none⟩ [.slice x11.1.a x11.1.len x11.1.cap, .slice x11.2.1.a x11.2.1.len x11.2.1.cap]) fun _ =>
  HM.bind (α := Slc × Slc × Unit) (HM.loadN [.slc, .slc] ⟨x1, 0, none⟩) fun x12 =>
  HM.pure ((x12.1, x12.2.1, ()), ()))
theorem front_Front_Lost_den (p0 : Option Addr) (p1 : Int) (p2 : Bool) : denFn Tryz.prog [14, 12] 26 [0, 1, 2, 6, 7, 9] [0, 1, 2, 6, 7, 9] Tryz.f5.results.toList [.agg [.slc, .slc]] (bodyOf Tryz.f5) [Kind.val (.one .ptr) p0, Kind.val (.one (.int .i64)) p1, Kind.val (.one .bool) p2] = front_Front_Lost p0 p1 p2 := by kernel_rfl
theorem front_Front_Lost_calls (p0 : Option Addr) (p1 : Int) (p2 : Bool) (h : Heap) (Q : Value → Heap → Prop) (hh : front_Front_Lost p0 p1 p2 h fun x h' => Q (.agg #[.slice x.1.1.a x.1.1.len x.1.1.cap, .slice x.1.2.1.a x.1.2.1.len x.1.2.1.cap]) h') :
    HCalls Tryz.prog 5 #[.pointer p0, .int .i64 p1, .bool p2] h Q :=
  calls_of_eq Tryz.func5 (by kernel_rfl) Tryz.ntmps5 (by kernel_rfl) (CC Tryz.call14 (CC Tryz.call12 CN)) orders (front_Front_Lost_den p0 p1 p2) hh
def front_Front_Restart (p0 : Option Addr) : HM (Unit) :=
  HM.bind (α := Unit) (HM.ite (!(Option.isNone p0)) (
  HM.bind (α := Addr) (HM.nonnil p0) fun x2 =>
  HM.bind (α := Option Addr) (HM.load1 .ptr (Addr.add x2 0)) fun x3 =>
  HM.bind (α := Unit) (HM.callN Tryz.prog [] 15 #[.pointer x3]) fun x4 =>
  HM.bind (α := Addr) (HM.nonnil p0) fun x5 =>
  HM.bind (α := Option Nat) (HM.load1 .map (Addr.add x5 1)) fun x6 =>
  HM.bind (α := Unit) (HM.clearM x6) fun _ =>
  HM.pure ()) (
  HM.pure ())) fun x1 =>
  HM.pure ()
theorem front_Front_Restart_den (p0 : Option Addr) : denFn Tryz.prog [15] 13 [0, 3] [0, 3] Tryz.f6.results.toList [] (bodyOf Tryz.f6) [Kind.val (.one .ptr) p0] = front_Front_Restart p0 := by kernel_rfl
theorem front_Front_Restart_calls (p0 : Option Addr) (h : Heap) (Q : Value → Heap → Prop) (hh : front_Front_Restart p0 h fun x h' => Q (.tuple #[]) h') :
    HCalls Tryz.prog 6 #[.pointer p0] h Q :=
  calls_of_eq Tryz.func6 (by kernel_rfl) Tryz.ntmps6 (by kernel_rfl) (CC Tryz.call15 CN) orders (front_Front_Restart_den p0) hh
def front_Front_Deliver (p0 : Option Addr) (p1 : yS1) : HM (Slc × Unit) :=
  HM.bind (α := Nat) (HM.new (.cells (aS1 p1) 36)) fun x1 =>
  HM.ite (Option.isNone p0) (
  HM.pure (⟨none, 0, 0⟩, ())) (
  HM.bind (α := Addr) (HM.nonnil p0) fun x2 =>
  HM.bind (α := Option Addr) (HM.load1 .ptr (Addr.add x2 0)) fun x3 =>
  HM.bind (α := yS1) (HM.loadN tS1 ⟨x1, 0, none⟩) fun x4 =>
  HM.bind (α := Slc) (HM.call1 Tryz.prog (.one .slc) 19 #[.pointer x3, .agg (aS1 x4)]) fun x5 =>
  HM.bind (α := Slc) (HM.call1 Tryz.prog (.one .slc) 18 #[.pointer p0, .slice x5.a x5.len x5.cap]) fun x6 =>
  HM.pure (x6, ()))
theorem front_Front_Deliver_den (p0 : Option Addr) (p1 : yS1) : denFn Tryz.prog [19, 18] 15 [0, 1, 3, 4, 6] [0, 1, 3, 6] Tryz.f8.results.toList [.one .slc] (bodyOf Tryz.f8) [Kind.val (.one .ptr) p0, Kind.val (.agg tS1) p1] = front_Front_Deliver p0 p1 := by kernel_rfl
theorem front_Front_Deliver_calls (p0 : Option Addr) (p1 : yS1) (h : Heap) (Q : Value → Heap → Prop) (hh : front_Front_Deliver p0 p1 h fun x h' => Q (.slice x.1.a x.1.len x.1.cap) h') :
    HCalls Tryz.prog 8 #[.pointer p0, .agg (aS1 p1)] h Q :=
  calls_of_eq Tryz.func8 (by kernel_rfl) Tryz.ntmps8 (by kernel_rfl) (CC Tryz.call19 (CC Tryz.call18 CN)) orders (front_Front_Deliver_den p0 p1) hh
def front_Front_Broker (p0 : Option Addr) : HM (Option Addr × Unit) :=
  HM.ite (Option.isNone p0) (
  HM.pure (none, ())) (
  HM.bind (α := Addr) (HM.nonnil p0) fun x1 =>
  HM.bind (α := Option Addr) (HM.load1 .ptr (Addr.add x1 0)) fun x2 =>
  HM.pure (x2, ()))
theorem front_Front_Broker_den (p0 : Option Addr) : denFn Tryz.prog [] 9 [0, 2, 4] [0, 4] Tryz.f9.results.toList [.one .ptr] (bodyOf Tryz.f9) [Kind.val (.one .ptr) p0] = front_Front_Broker p0 := by kernel_rfl
theorem front_Front_Broker_calls (p0 : Option Addr) (h : Heap) (Q : Value → Heap → Prop) (hh : front_Front_Broker p0 h fun x h' => Q (.pointer x.1) h') :
    HCalls Tryz.prog 9 #[.pointer p0] h Q :=
  calls_of_eq Tryz.func9 (by kernel_rfl) Tryz.ntmps9 (by kernel_rfl) CN orders (front_Front_Broker_den p0) hh
end Go.Proofs.YtkpjgmdaolohiaaGreatDoor
namespace Go.H
set_option linter.unusedSimpArgs false
set_option linter.unusedVariables false
section
variable {α : Type} {enc : α → List Value} {size : Nat} {h h0 : Heap} {s : Slc} {xs : List α} {R : List Asn}
theorem flat_inv (henc : ∀ x, (enc x).length = size) : ∀ (xs : List α) (i : Nat) (v : Value), (xs.flatMap enc)[i]? = some v → ∃ q x r, xs[q]? = some x ∧ (enc x)[r]? = some v ∧ i = q * size + r
  | [], i, v, h => by simp at h
  | x :: xs, i, v, h => by
    rw [List.flatMap_cons] at h
    rcases Nat.lt_or_ge i size with hi | hi
    · rw [List.getElem?_append_left (by rw [henc]; exact hi)] at h
      exact ⟨0, x, i, rfl, h, by simp⟩
    · rw [List.getElem?_append_right (by rw [henc]; exact hi), henc] at h
      obtain ⟨q, y, r, h1, h2, h3⟩ := flat_inv henc xs _ v h
      exact ⟨q + 1, y, r, by simpa using h1, h2, by rw [Nat.succ_mul]; omega⟩
theorem add_add' (a : Addr) (m r : Nat) : (a.add m).add r = a.add (m + r) := by
  unfold Addr.add
  by_cases h1 : m = 0 <;> by_cases h2 : r = 0 <;> simp [h1, h2, Nat.add_assoc]
theorem row_reads (henc : ∀ x, (enc x).length = size) (hr : RowAt enc size h s xs) (hsz : 0 < size) : readsH h s.a (s.len * size) (xs.flatMap enc).toArray := by
  unfold readsH
  cases ha : s.a with
  | none =>
    cases xs with
    | nil => rfl
    | cons x xs =>
      obtain ⟨a, h1, _⟩ := hr.2.2 0 x rfl
      rw [ha] at h1; cases h1
  | some a =>
    refine ⟨by simp [flat_len henc, hr.1], fun i v hi => ?_⟩
    obtain ⟨q, x, r, h1, h2, rfl⟩ := flat_inv henc xs i v (by simpa using hi)
    obtain ⟨a', h3, h4⟩ := hr.2.2 q x h1
    rw [ha] at h3; cases h3
    have := h4 r v h2
    rwa [add_add'] at this
end
end Go.H
namespace Go.H
set_option linter.unusedSimpArgs false
set_option linter.unusedVariables false
section
variable {α : Type} {enc : α → List Value} {size : Nat} {h : Heap} {s : Slc} {xs : List α} {R : List Asn}
theorem flat_set (henc : ∀ x, (enc x).length = size) {j : Nat} {v : Value} (hj : j < size) : ∀ (xs : List α) (i : Nat) (x x' : α), xs[i]? = some x → enc x' = (enc x).set j v → (xs.flatMap enc).set (i * size + j) v = (xs.set i x').flatMap enc
  | [], i, x, x', hx, _ => by simp at hx
  | y :: xs, 0, x, x', hx, he => by
    simp only [List.getElem?_cons_zero, Option.some.injEq] at hx
    subst hx
    rw [List.set_cons_zero, List.flatMap_cons, List.flatMap_cons, he, Nat.zero_mul, Nat.zero_add, List.set_append_left _ _ (by rw [henc]; exact hj)]
  | y :: xs, i + 1, x, x', hx, he => by
    rw [List.getElem?_cons_succ] at hx
    rw [List.set_cons_succ, List.flatMap_cons, List.flatMap_cons, List.set_append_right _ _ (by rw [henc, Nat.succ_mul]; omega), henc]
    rw [show (i + 1) * size + j - size = i * size + j from by rw [Nat.succ_mul]; omega, flat_set henc hj xs i x x' hx he]
theorem idx_own (henc : ∀ x, (enc x).length = size) (hs : sat h (ownS enc size s xs :: R)) {i : Nat} {x : α} (hx : xs[i]? = some x) {Q : Addr → Heap → Prop}
    (hq : ∀ p : Addr, (∀ j v, (enc x)[j]? = some v → cellH h (p.add j) = some v) →
      (∀ (j : Nat) (v : Value) (x' : α) (Q' : Unit → Heap → Prop), j < size → enc x' = (enc x).set j v → v.oneCell' = true → (∀ h', sat h' (ownS enc size s (xs.set i x') :: R) → Q' () h') → HM.store1 (p.add j) v h Q') → Q p h) :
    HM.idx s.a s.len (i : Int) size h Q := by
  have hil := (List.getElem?_eq_some_iff.1 hx).1
  rcases ownS_cases hs with ⟨-, -, rfl, -⟩ | ⟨b, o, cs, ho, hs1⟩
  · simp at hx
  have hrow := hs.own_row henc
  obtain ⟨a, ha, hc⟩ := hrow.2.2 i x hx
  have hao : a = ⟨b, o * size, none⟩ := by rw [ho.a] at ha; exact (Option.some.inj ha).symm
  subst hao
  refine ⟨_, ho.a, Int.natCast_nonneg _, by rw [ho.len]; omega, ?_⟩
  rw [Int.toNat_natCast]
  refine hq _ hc fun j v x' Q' hj he hv hq' => ?_
  rw [Addr.add_at, Addr.add_at]
  have hin : o * size + i * size + j < cs.size := by
    refine Nat.lt_of_lt_of_le ?_ ho.csize
    have h1 : (i + 1) * size ≤ s.cap * size := Nat.mul_le_mul_right _ (by have := ho.le; have := ho.len; omega)
    rw [Nat.succ_mul] at h1
    rw [Nat.add_mul]
    omega
  refine store1_cells hs1 hin hv fun h' hs' => hq' h' (ownS_mk (b := b) (o := o) ⟨ho.a, ho.le, by rw [List.length_set]; exact ho.len, by rw [Array.size_setIfInBounds]; exact ho.csize, ?_⟩ hs')
  rw [Array.toList_setIfInBounds, List.drop_set, if_neg (by omega), List.take_set, ho.front, show o * size + i * size + j - o * size = i * size + j by omega]
  exact flat_set henc hj xs i x x' hx he
end
end Go.H
namespace Go.H
set_option linter.unusedSimpArgs false
set_option linter.unusedVariables false
def At (L : List Asn) (q : Heap → Prop) : Prop := ∀ h, sat h L → q h
def W {α : Type} (L : List Asn) (m : HM α) (Q : α → Heap → Prop) : Prop := ∀ h, sat h L → m h Q
def FW (P : Program) (f : FuncId) (args : Array Value) (L : List Asn) (Q : Value → Heap → Prop) : Prop := ∀ h, sat h L → HCalls P f args h Q
def Has (L : List Asn) (A : Asn) (L' : List Asn) : Prop := ∀ m, stars L m → stars (A :: L') m
def Sub (L L' : List Asn) : Prop := ∀ m, stars L m → stars L' m
section
variable {A B C D E F : Asn} {L L1 L2 L3 L4 L5 L6 L' R : List Asn} {h : Heap}
theorem has0 : Has (A :: L) A L := fun _ hs => hs
theorem hasS (hx : Has L A L') : Has (B :: L) A (B :: L') := fun _ hs => stars_swap (star_mono (fun _ h => h) hx hs)
theorem Sub.rfl : Sub L L := fun _ hs => hs
theorem Sub.drop (hr : Sub L R) : Sub (A :: L) R := fun m hs => by
  obtain ⟨a, b, hd, rfl, ha, hb⟩ := hs
  exact stars_append.up R (a.join b) b (fun k o ho => join_right hd ho) (hr b hb)
theorem Sub.cons (hx : Has L A L1) (hr : Sub L1 R) : Sub L (A :: R) := fun m hs => star_mono (fun _ h => h) hr (hx m hs)
theorem Has.s (hx : Has L A L') (hs : sat h L) : sat h (A :: L') := let ⟨m, h1, h2⟩ := hs; ⟨m, h1, hx m h2⟩
theorem Sub.s (hx : Sub L L') (hs : sat h L) : sat h L' := let ⟨m, h1, h2⟩ := hs; ⟨m, h1, hx m h2⟩
variable {α β : Type} {m : HM α} {Q : α → Heap → Prop} {q : Heap → Prop} {p : Prop}
theorem At.sub (hq : At L' q) (hs : Sub L L' := by repeat (first | with_reducible exact Go.H.Sub.rfl | with_reducible exact Go.H.Sub.nil | refine Go.H.Sub.cons (by repeat (first | with_reducible exact Go.H.has0 | apply Go.H.hasS)) ?_ | refine Go.H.Sub.drop ?_)) : At L q := fun h h1 => hq h (hs.s h1)
theorem W.sub (hq : W L' m Q) (hs : Sub L L' := by repeat (first | with_reducible exact Go.H.Sub.rfl | with_reducible exact Go.H.Sub.nil | refine Go.H.Sub.cons (by repeat (first | with_reducible exact Go.H.has0 | apply Go.H.hasS)) ?_ | refine Go.H.Sub.drop ?_)) : W L m Q := fun h h1 => hq h (hs.s h1)
variable {f : α → HM β} {Q' : β → Heap → Prop} {b : Bool} {x y : HM β}
theorem W.pure {a : α} (hq : At L (Q a)) : W L (HM.pure a) Q := hq
theorem W.bpure {a : α} (hw : W L (f a) Q') : W L (HM.bind (HM.pure a) f) Q' := hw
theorem W.bbind {γ : Type} {m : HM γ} {g : γ → HM α} (hw : W L (HM.bind m fun x => HM.bind (g x) f) Q') : W L (HM.bind (HM.bind m g) f) Q' := hw
theorem W.tt (hb : b = true) (hw : W L x Q') : W L (HM.ite b x y) Q' := by subst hb; exact hw
theorem W.ff (hb : b = false) (hw : W L y Q') : W L (HM.ite b x y) Q' := by subst hb; exact hw
theorem W.bf {u v : HM α} (hb : b = false) (hw : W L (HM.bind v f) Q') : W L (HM.bind (HM.ite b u v) f) Q' := by subst hb; exact hw
theorem W.req (hw : W L x Q') (hp : p) : W L (HM.req p x) Q' := fun h hs => ⟨hp, hw h hs⟩
theorem W.both (h1 : W L x Q') (h2 : W L y Q') : W L (HM.both x y) Q' := fun h hs => ⟨h1 h hs, h2 h hs⟩
theorem W.newc {f : Nat → HM β} {cs : Array Value} {T : TypeId} (hw : ∀ b, W (cells b cs :: L) (f b) Q') : W L (HM.bind (HM.new (.cells cs T)) f) Q' := fun h hs => new_cells hs fun b h' hs' => hw b h' hs'
theorem W.load {t : Tag} {b i : Nat} {cs : Array Value} {v : t.ty} {f : t.ty → HM β} (hw : W L (f v) Q') (hx : Has L (cells b cs) L' := by repeat (first | with_reducible exact Go.H.has0 | apply Go.H.hasS)) (hv : (cs[i]?).bind t.get = some v := by rfl) : W L (HM.bind (HM.load1 t (Addr.add ⟨b, 0, none⟩ i)) f) Q' := fun h hs => by
  refine ⟨v, ?_, hw h hs⟩
  rw [add_own, (hx.s hs).cell i]
  cases hc : cs[i]? with
  | none => rw [hc] at hv; cases hv
  | some u => rw [hc] at hv; exact congrArg some (Tag.get_val hv)
theorem W.loadx {t : Tag} {a : Addr} {b i : Nat} {cs : Array Value} {v : t.ty} {f : t.ty → HM β} (hw : W L (f v) Q') (ha : a = ⟨b, i, none⟩ := by rfl) (hx : Has L (cells b cs) L' := by repeat (first | with_reducible exact Go.H.has0 | apply Go.H.hasS)) (hv : (cs[i]?).bind t.get = some v := by rfl) : W L (HM.bind (HM.load1 t a) f) Q' := fun h hs => by
  subst ha
  refine ⟨v, ?_, hw h hs⟩
  rw [(hx.s hs).cell i]
  cases hc : cs[i]? with
  | none => rw [hc] at hv; cases hv
  | some u => rw [hc] at hv; exact congrArg some (Tag.get_val hv)
theorem W.loadN {ts : List Tag} {b : Nat} {cs : Array Value} {v : Tup ts} {f : Tup ts → HM β} (hw : W L (f v) Q') (hx : Has L (cells b cs) L' := by repeat (first | with_reducible exact Go.H.has0 | apply Go.H.hasS)) (hv : Tup.get ts cs.toList = some v := by rfl) : W L (HM.bind (HM.loadN ts ⟨b, 0, none⟩) f) Q' := fun h hs =>
  loadN_cells v (hx.s hs) (Array.toList_inj.1 (Tup.get_vals ts _ v hv)) (hw h hs)
theorem W.loadNo {ts : List Tag} {b i : Nat} {cs : Array Value} {v : Tup ts} {f : Tup ts → HM β} (hw : W L (f v) Q') (hx : Has L (Go.H.cells b cs) L' := by repeat (first | with_reducible exact Go.H.has0 | apply Go.H.hasS)) (hv : Tup.get ts ((cs.toList.drop i).take ts.length) = some v := by rfl) : W L (HM.bind (HM.loadN ts (Addr.add ⟨b, 0, none⟩ i)) f) Q' := fun h hs => by
  refine ⟨v, fun j u hu => ?_, hw h hs⟩
  rw [← Tup.get_vals ts _ v hv, List.getElem?_take] at hu
  split at hu
  · rw [List.getElem?_drop] at hu
    rw [add_own, Addr.add_at, (hx.s hs).cell]
    simpa using hu
  · cases hu
theorem W.storeN {b : Nat} {cs : Array Value} {vs : List Value} {f : Unit → HM β} (hw : W (cells b vs.toArray :: L') (f ()) Q') (hx : Has L (cells b cs) L' := by repeat (first | with_reducible exact Go.H.has0 | apply Go.H.hasS)) (hl : vs.length = cs.size := by rfl) (hv : vs.all (fun v => v.oneCell') = true := by rfl) : W L (HM.bind (HM.storeN ⟨b, 0, none⟩ vs) f) Q' := fun h hs =>
  storeN_all' (hx.s hs) hl hv fun h' hs' => hw h' hs'
theorem W.cells {b : Nat} {cs : Array Value} (cs' : Array Value) (hw : W (cells b cs' :: L') m Q) (hx : Has L (Go.H.cells b cs) L' := by repeat (first | with_reducible exact Go.H.has0 | apply Go.H.hasS)) (hc : cs = cs' := by rfl) : W L m Q := by subst hc; exact W.sub hw (fun m hs => hx m hs)
theorem W.call1 {P : Program} {k : Kind} {fn : FuncId} {args : Array Value} {f : k.ty → HM β} (hc : FW P fn args L (k.un fun x h' => f x h' Q')) : W L (HM.bind (HM.call1 P k fn args) f) Q' := hc
theorem W.callN {P : Program} {ks : List Kind} {fn : FuncId} {args : Array Value} {f : KTup ks → HM β} (hc : FW P fn args L (KTup.un ks fun x h' => f x h' Q')) : W L (HM.bind (HM.callN P ks fn args) f) Q' := hc
theorem At.un {k : Kind} {v : Value} {x : k.ty} {f : k.ty → HM β} (hw : W L (f x) Q') (hv : k.get v = some x := by rfl) : At L (k.un (fun x h' => f x h' Q') v) := fun h hs => ⟨x, Kind.get_val hv, hw h hs⟩
def unT (v : Value) : List Value := match v with | .tuple a => a.toList | _ => []
def isT (v : Value) : Bool := match v with | .tuple a => true | _ => false
theorem At.unN {ks : List Kind} {v : Value} {x : KTup ks} {f : KTup ks → HM β} (hw : W L (f x) Q') (hv : KTup.get ks (unT v) = some x := by rfl) (ht : isT v = true := by rfl) : At L (KTup.un ks (fun x h' => f x h' Q') v) := fun h hs => by
  refine ⟨x, ?_, hw h hs⟩
  cases v with
  | tuple a => exact congrArg Value.tuple (Array.toList_inj.1 (KTup.get_vals ks _ x hv))
  | _ => cases ht
section
variable {γ : Type} {enc : γ → List Value} {size : Nat} {s : Slc} {xs : List γ} {h0 : Heap}
end
section
variable {K V : Type} [DecidableEq K] {ek : K → Value}
end
section
variable {σ τ γ : Type} {s : σ} {body : σ → HM (σ ⊕ τ)} {f : τ → HM β}
end
end
end Go.H
namespace Go.X
open Go.H
set_option linter.unusedSimpArgs false
set_option linter.unusedVariables false
inductive XV where
  | int (k : IntKind) (n : Int)
  | bool (b : Bool)
  | str (s : ByteArray)
  | nptr
  | ptr (k o : Nat)
  | eptr (k o : Nat)
  | gptr (g o : Nat)
  | nslc
  | slc (k : Nat)
  | nmap
  | map (k : Nat)
  | agg (cs : List XV)
  | tup (vs : List XV)
  | func (f : Nat) (first cap : List XV)
  | nfunc
  | niface
  | iface (t : Nat) (v : XV)
  deriving Inhabited
structure As where
  b : Nat → Nat
  s : Nat → Slc
def atOff (b o : Nat) : Addr := ⟨b, o, none⟩
mutual
def val (β : As) : XV → Value
  | .int k n => .int k n
  | .bool b => .bool b
  | .str s => .string s
  | .nptr => .pointer none
  | .ptr k o => .pointer (some (atOff (β.b k) o))
  | .eptr k o => .pointer ((β.s k).a.map (·.add o))
  | .gptr g o => .pointer (some (atOff g o))
  | .nslc => .slice none 0 0
  | .slc k => .slice (β.s k).a (β.s k).len (β.s k).cap
  | .nmap => .map none
  | .map k => .map (some (β.b k))
  | .agg cs => .agg (vals β cs).toArray
  | .tup vs => .tuple (vals β vs).toArray
  | .func f first cap => .func (.func f) (vals β first).toArray (vals β cap).toArray
  | .nfunc => .nilFunc
  | .niface => .nilIface
  | .iface t v => .iface t (val β v)
def vals (β : As) : List XV → List Value
  | [] => []
  | v :: vs => val β v :: vals β vs
end
theorem vals_map (β : As) : ∀ l, vals β l = l.map (val β)
  | [] => rfl
  | v :: vs => by rw [vals, vals_map β vs]; rfl
mutual
def clo (n : Nat) : XV → Bool
  | .ptr k _ => Nat.blt k n
  | .eptr k _ => Nat.blt k n
  | .slc k => Nat.blt k n
  | .map k => Nat.blt k n
  | .agg cs => clos n cs
  | .tup vs => clos n vs
  | .func _ first cap => match clos n first with
    | true => clos n cap
    | false => false
  | .iface _ v => clo n v
  | _ => true
def clos (n : Nat) : List XV → Bool
  | [] => true
  | v :: vs => match clo n v with
    | true => clos n vs
    | false => false
end
structure Agr (n : Nat) (β γ : As) : Prop where
  b : ∀ k, k < n → β.b k = γ.b k
  s : ∀ k, k < n → β.s k = γ.s k
theorem Agr.rfl {n : Nat} {β : As} : Agr n β β := ⟨fun _ _ => Eq.refl _, fun _ _ => Eq.refl _⟩
theorem Agr.trans {n m : Nat} {β γ δ : As} (h : Agr n β γ) (k : Agr m γ δ) (hn : n ≤ m) : Agr n β δ :=
  ⟨fun i hi => (h.b i hi).trans (k.b i (Nat.lt_of_lt_of_le hi hn)), fun i hi => (h.s i hi).trans (k.s i (Nat.lt_of_lt_of_le hi hn))⟩
mutual
theorem val_agr {n : Nat} {β γ : As} (h : Agr n β γ) : ∀ v, clo n v = true → val β v = val γ v
  | .ptr k o, hc => by simp only [val]; rw [h.b k (by simpa [clo] using hc)]
  | .eptr k o, hc => by simp only [val]; rw [h.s k (by simpa [clo] using hc)]
  | .slc k, hc => by simp only [val]; rw [h.s k (by simpa [clo] using hc)]
  | .map k, hc => by simp only [val]; rw [h.b k (by simpa [clo] using hc)]
  | .agg cs, hc => by simp only [val]; rw [vals_agr h cs (by simpa [clo] using hc)]
  | .tup cs, hc => by simp only [val]; rw [vals_agr h cs (by simpa [clo] using hc)]
  | .func f a b, hc => by
    have hc' : clos n a = true ∧ clos n b = true := by
      simp only [clo] at hc
      cases ha : clos n a <;> simp_all
    simp only [val]; rw [vals_agr h a hc'.1, vals_agr h b hc'.2]
  | .iface t v, hc => by simp only [val]; rw [val_agr h v (by simpa [clo] using hc)]
  | .int _ _, _ => rfl
  | .bool _, _ => rfl
  | .str _, _ => rfl
  | .nptr, _ => rfl
  | .gptr _ _, _ => rfl
  | .nslc, _ => rfl
  | .nmap, _ => rfl
  | .nfunc, _ => rfl
  | .niface, _ => rfl
theorem vals_agr {n : Nat} {β γ : As} (h : Agr n β γ) : ∀ l, clos n l = true → vals β l = vals γ l
  | [], _ => rfl
  | v :: vs, hc => by
    have hc' : clo n v = true ∧ clos n vs = true := by
      simp only [clos] at hc
      cases ha : clo n v <;> simp_all
    simp only [vals]; rw [val_agr h v hc'.1, vals_agr h vs hc'.2]
end
mutual
def xeq : XV → XV → Bool
  | .int k n, .int k' n' => match ikEq k k' with
    | true => decide (n = n')
    | false => false
  | .bool a, .bool b => match a, b with
    | true, true => true
    | false, false => true
    | _, _ => false
  | .str a, .str b => decide (a = b)
  | .nptr, .nptr => true
  | .ptr k o, .ptr k' o' => match Nat.beq k k' with
    | true => Nat.beq o o'
    | false => false
  | .eptr k o, .eptr k' o' => match Nat.beq k k' with
    | true => Nat.beq o o'
    | false => false
  | .gptr k o, .gptr k' o' => match Nat.beq k k' with
    | true => Nat.beq o o'
    | false => false
  | .nslc, .nslc => true
  | .slc k, .slc k' => Nat.beq k k'
  | .nmap, .nmap => true
  | .map k, .map k' => Nat.beq k k'
  | .agg a, .agg b => xeqs a b
  | .tup a, .tup b => xeqs a b
  | .func f a b, .func f' a' b' => match Nat.beq f f' with
    | true => match xeqs a a' with
      | true => xeqs b b'
      | false => false
    | false => false
  | .nfunc, .nfunc => true
  | .niface, .niface => true
  | .iface t v, .iface t' v' => match Nat.beq t t' with
    | true => xeq v v'
    | false => false
  | _, _ => false
def xeqs : List XV → List XV → Bool
  | [], [] => true
  | a :: asZ, b :: bs => match xeq a b with
    | true => xeqs asZ bs
    | false => false
  | _, _ => false
end
mutual
theorem xeq_eq : ∀ a b, xeq a b = true → a = b
  | .int k n, b, h => by
    cases b <;> simp only [xeq] at h <;> try cases h
    split at h
    · rename_i hk; rw [ikEq_eq hk, of_decide_eq_true h]
    · cases h
  | .bool a, b, h => by cases b <;> simp only [xeq] at h <;> try cases h
                        rename_i b; cases a <;> cases b <;> first | rfl | cases h
  | .str a, b, h => by cases b <;> simp only [xeq] at h <;> try cases h
                       rw [of_decide_eq_true h]
  | .nptr, b, h => by cases b <;> simp only [xeq] at h <;> first | rfl | cases h
  | .ptr k o, b, h => by
    cases b <;> simp only [xeq] at h <;> try cases h
    split at h
    · rename_i hk; rw [Nat.eq_of_beq_eq_true hk, Nat.eq_of_beq_eq_true h]
    · cases h
  | .eptr k o, b, h => by
    cases b <;> simp only [xeq] at h <;> try cases h
    split at h
    · rename_i hk; rw [Nat.eq_of_beq_eq_true hk, Nat.eq_of_beq_eq_true h]
    · cases h
  | .gptr k o, b, h => by
    cases b <;> simp only [xeq] at h <;> try cases h
    split at h
    · rename_i hk; rw [Nat.eq_of_beq_eq_true hk, Nat.eq_of_beq_eq_true h]
    · cases h
  | .nslc, b, h => by cases b <;> simp only [xeq] at h <;> first | rfl | cases h
  | .slc k, b, h => by
    cases b <;> simp only [xeq] at h <;> try cases h
    rw [Nat.eq_of_beq_eq_true h]
  | .nmap, b, h => by cases b <;> simp only [xeq] at h <;> first | rfl | cases h
  | .map k, b, h => by
    cases b <;> simp only [xeq] at h <;> try cases h
    rw [Nat.eq_of_beq_eq_true h]
  | .agg a, b, h => by
    cases b <;> simp only [xeq] at h <;> try cases h
    rw [xeqs_eq _ _ h]
  | .tup a, b, h => by
    cases b <;> simp only [xeq] at h <;> try cases h
    rw [xeqs_eq _ _ h]
  | .func f a c, b, h => by
    cases b <;> simp only [xeq] at h <;> try cases h
    split at h
    · rename_i hf
      split at h
      · rename_i ha
        rw [Nat.eq_of_beq_eq_true hf, xeqs_eq _ _ ha, xeqs_eq _ _ h]
      · cases h
    · cases h
  | .nfunc, b, h => by cases b <;> simp only [xeq] at h <;> first | rfl | cases h
  | .niface, b, h => by cases b <;> simp only [xeq] at h <;> first | rfl | cases h
  | .iface t v, b, h => by
    cases b <;> simp only [xeq] at h <;> try cases h
    split at h
    · rename_i hk; rw [Nat.eq_of_beq_eq_true hk, xeq_eq _ _ h]
    · cases h
theorem xeqs_eq : ∀ a b, xeqs a b = true → a = b
  | [], [], _ => rfl
  | [], _ :: _, h => by simp only [xeqs] at h; cases h
  | _ :: _, [], h => by simp only [xeqs] at h; cases h
  | a :: asZ, b :: bs, h => by
    simp only [xeqs] at h
    split at h
    · rename_i hk; rw [xeq_eq _ _ hk, xeqs_eq _ _ h]
    · cases h
end
end Go.X
namespace Go.H
set_option linter.unusedSimpArgs false
set_option linter.unusedVariables false
open Go.MapKept (Stamped)
section
variable {K : Type} [DecidableEq K]
end
section
variable {K V : Type} {h : Heap} {R : List Asn} {ek : K → Value}
variable [DecidableEq K]
end
abbrev e2 (k : Int × Int) : Value := .agg #[.int .i64 k.1, .int .i64 k.2]
theorem inj_e2 : ∀ a b : Int × Int, e2 a = e2 b → a = b := fun a b h => by
  have : (Array.toList #[Value.int .i64 a.1, .int .i64 a.2]) = (Array.toList #[Value.int .i64 b.1, .int .i64 b.2]) := congrArg Array.toList (Value.agg.inj h)
  simp at this
  exact Prod.ext this.1 this.2
end Go.H
namespace Go.H
set_option linter.unusedSimpArgs false
set_option linter.unusedVariables false
structure BufF (s : Slc) (xs : List Int) (g : Nat) (cur : Array Value) : Prop where
  a : s.a = some ⟨g, 0, none⟩
  le : s.len ≤ s.cap
  len : s.len = xs.length
  size : cur.size = s.cap
  front : cur.toList.take s.len = xs.map (Value.int .u8)
  cap : s.cap ≤ 9223372036854775807
def bufA (T : TypeId) (s : Slc) (xs : List Int) : Asn := fun m =>
  (s = ⟨none, 0, 0⟩ ∧ xs = []) ∨ exA (fun x : Nat × Array Value => star (pr (BufF s xs x.1 x.2)) (blk x.1 (.cells x.2 T (0, 0)))) m
section
variable {h : Heap} {R : List Asn} {T : TypeId} {s : Slc} {xs : List Int}
theorem bufA_cases (hs : sat h (bufA T s xs :: R)) : (s = ⟨none, 0, 0⟩ ∧ xs = [] ∧ sat h R) ∨ ∃ g cur, BufF s xs g cur ∧ sat h (blk g (.cells cur T (0, 0)) :: R) := by
  obtain ⟨m, h1, a, r, hd, rfl, ha, hr⟩ := hs
  rcases ha with ⟨h2, h3⟩ | h2
  · exact .inl ⟨h2, h3, r, (join_sub h1 hd).2, hr⟩
  · right
    have hs' : sat h (exA (fun x : Nat × Array Value => star (pr (BufF s xs x.1 x.2)) (blk x.1 (.cells x.2 T (0, 0)))) :: R) := ⟨_, h1, a, r, hd, rfl, h2, hr⟩
    rw [sat.ex_iff] at hs'
    obtain ⟨⟨g, cur⟩, hs'⟩ := hs'
    rw [sat.star_iff, sat.pr_iff] at hs'
    exact ⟨g, cur, hs'.1, hs'.2⟩
theorem bufA_mk {g : Nat} {cur : Array Value} (ho : BufF s xs g cur) (hs : sat h (blk g (.cells cur T (0, 0)) :: R)) : sat h (bufA T s xs :: R) := by
  have hs' : sat h (exA (fun x : Nat × Array Value => star (pr (BufF s xs x.1 x.2)) (blk x.1 (.cells x.2 T (0, 0)))) :: R) := by
    rw [sat.ex_iff]
    refine ⟨(g, cur), ?_⟩
    rw [sat.star_iff, sat.pr_iff]
    exact ⟨ho, hs⟩
  exact hs'.imp fun m hm => .inr hm
theorem bufA_nil (hs : sat h R) : sat h (bufA T ⟨none, 0, 0⟩ [] :: R) := by
  obtain ⟨m, h1, hr⟩ := hs
  exact ⟨m, h1, fun _ => none, m, fun k => .inl rfl, by funext k; rfl, .inl ⟨rfl, rfl⟩, hr⟩
theorem blk_set {g : Nat} {cur : Array Value} (hs : sat h (blk g (.cells cur T (0, 0)) :: R)) (i : Nat) (v : Value) : sat (setCellH h ⟨g, i, none⟩ v) (blk g (.cells (cur.setIfInBounds i v) T (0, 0)) :: R) := by
  have hlt := hs.lt
  have hg := hs.get
  refine hs.turn ?_ fun k hk => ?_
  · unfold setCellH
    rw [Array.getElem?_modify, if_pos rfl, hg]
    rfl
  · unfold setCellH
    rw [Array.getElem?_modify, if_neg (fun e => hk e.symm)]
theorem blk_sets {g : Nat} : ∀ (vs : List Value) (cur : Array Value) (o i : Nat) {h : Heap} {R : List Asn}, sat h (blk g (.cells cur T (0, 0)) :: R) → o + i + vs.length ≤ cur.size →
    ∃ cs' : Array Value, cs'.size = cur.size ∧ cs'.toList = cur.toList.take (o + i) ++ vs ++ cur.toList.drop (o + i + vs.length) ∧ sat (setCellsH h ⟨g, o, none⟩ vs i) (blk g (.cells cs' T (0, 0)) :: R)
  | [], cs, o, i, h, R, hs, hl => ⟨cs, rfl, by simp, hs⟩
  | v :: vs, cs, o, i, h, R, hs, hl => by
    simp only [List.length_cons] at hl
    have h1 := blk_set hs (o + i) v
    obtain ⟨cs', e1, e2, h2⟩ := blk_sets vs (cs.setIfInBounds (o + i) v) o (i + 1) h1 (by simp; omega)
    refine ⟨cs', by simpa using e1, ?_, by simpa [setCellsH, Addr.add_at] using h2⟩
    rw [e2, Array.toList_setIfInBounds]
    have hlen : o + i < cs.toList.length := by simp; omega
    rw [show o + (i + 1) = (o + i) + 1 from by omega, List.take_succ_eq_append_getElem (by simpa using hlen)]
    rw [List.getElem_set_self, List.take_set_of_le (Nat.le_refl _), List.drop_set_of_lt (by omega)]
    simp only [List.length_cons, List.append_assoc, List.cons_append, List.nil_append]
    rw [show o + i + 1 + vs.length = o + i + (vs.length + 1) from by omega]
def intsS (t : ByteArray) : List Int := t.data.toList.map fun b => (b.toNat : Int)
theorem intsS_len (t : ByteArray) : (intsS t).length = t.size := by
  unfold intsS
  rw [List.length_map, Array.length_toList]
  rfl
theorem append_buf {t : ByteArray} {Q : Slc → Heap → Prop} (hs : sat h (bufA T s xs :: R)) (hb : xs.length + t.size ≤ 140737488355328)
    (hq : ∀ s' h', sat h' (bufA T s' (xs ++ intsS t) :: R) → Q s' h') : HM.append T 1 1 #[.int .u8 0] s t.size (srcStr t) h Q := by
  have hvs : (t.data.map fun b => Value.int .u8 b.toNat).toList = (intsS t).map (Value.int .u8) := by simp [intsS, Function.comp_def]
  have hvl : (t.data.map fun b => Value.int .u8 b.toNat).toList.length = t.size := by rw [hvs, List.length_map, intsS_len]
  constructor
  · intro hc
    refine ⟨_, rfl, ?_⟩
    rcases bufA_cases hs with ⟨rfl, rfl, hs1⟩ | ⟨g, cur, hf, hs1⟩
    · have h0 : t.size = 0 := by simpa using hc
      have hq' := hq ⟨none, 0, 0⟩ h
      have e : intsS t = [] := List.eq_nil_of_length_eq_zero (by rw [intsS_len]; exact h0)
      rw [e] at hq'
      simp only [h0]
      exact hq' (bufA_nil hs1)
    · rw [hf.a]
      simp only [Addr.add_at, Nat.mul_one, Nat.zero_add]
      have hlen : s.len + 0 + (t.data.map fun b => Value.int .u8 b.toNat).toList.length ≤ cur.size := by rw [hvl, hf.size]; omega
      have hget := hs1.get
      refine ⟨fun i v hi => ?_, ?_⟩
      · have hlt : i < t.size := by
          have := (Array.getElem?_eq_some_iff.1 hi).1
          simpa using this
        have hil : s.len + i < cur.size := by rw [hf.size]; omega
        refine ⟨?_, ?_, ?_⟩
        · simp [cellH, hget, Array.getElem?_eq_getElem hil]
        · simp [frozenH, hget]
        · rw [Array.getElem?_map] at hi
          obtain ⟨b, _, rfl⟩ := Option.map_eq_some_iff.1 hi
          rfl
      · obtain ⟨cs', e1, e2, h2⟩ := blk_sets (t.data.map fun b => Value.int .u8 b.toNat).toList cur s.len 0 hs1 hlen
        refine hq _ _ (bufA_mk (g := g) (cur := cs') ⟨rfl, hc, by simp [hf.len, intsS_len], by rw [e1]; exact hf.size, ?_, hf.cap⟩ h2)
        rw [e2, hvs]
        simp only [Nat.add_zero, List.length_map, intsS_len]
        rw [hf.front, ← List.map_append]
        have hl3 : s.len + t.size = (xs ++ intsS t).length := by rw [List.length_append, intsS_len, hf.len]
        rw [hl3, List.take_left' (by rw [List.length_map])]
  · intro hc
    have hl : s.len = xs.length ∧ readsH h s.a (s.len * 1) (xs.map (Value.int .u8)).toArray := by
      rcases bufA_cases hs with ⟨rfl, rfl, hs1⟩ | ⟨g, cur, hf, hs1⟩
      · exact ⟨rfl, rfl⟩
      · refine ⟨hf.len, ?_⟩
        rw [hf.a]
        refine ⟨by simp [hf.len], fun i v hi => ?_⟩
        have hget := hs1.get
        have h1 : (xs.map (Value.int .u8))[i]? = some v := by simpa using hi
        rw [← hf.front, List.getElem?_take] at h1
        split at h1
        · rw [Addr.add_at]
          simp only [cellH, hget]
          simpa using h1
        · cases h1
    have hR : sat h R := hs.drop
    refine ⟨by omega, growslice_fits hc (by omega), _, _, hl.2, rfl, fun c hcc hc2 => hq _ _ ?_⟩
    refine bufA_mk (g := h.size) ⟨rfl, hcc, by simp [hl.1, intsS_len], ?_, ?_, hc2⟩ hR.push
    · simp only [Array.size_append, List.size_toArray, List.length_map, Array.size_map, Builtin.zeroCells, Array.size_range]
      have : t.data.size = t.size := rfl
      simp
      omega
    · simp only [Array.toList_append, hvs, ← List.map_append]
      rw [List.take_append_of_le_length (by rw [List.length_map, List.length_append, intsS_len]; omega), List.take_of_length_le (by rw [List.length_map, List.length_append, intsS_len]; omega)]
end
end Go.H
namespace Go.X
open Go.H
set_option linter.unusedSimpArgs false
set_option linter.unusedVariables false
inductive XF where
  | cells (T : Nat) (cs : List XV)
  | mapI (es : List (Int × XV))
  | mapS (es : List (ByteArray × XV))
  | mapT (es : List ((Int × Int) × XV))
  | own (size : Nat) (es : List (List XV))
  | txt (s : ByteArray) (pos : Nat)
  | buf (T : Nat) (bs : List Int)
  | walkI (it : Nat) (l done todo : List (Int × XV))
  | walkS (it : Nat) (l done todo : List (ByteArray × XV))
  | itOf (m : Nat)
  | itNil
inductive Tri (α : Type) where
  | lf
  | nd (o : Option α) (l r : Tri α)
  deriving Inhabited
abbrev XSt := Tri XF
section
variable {XF : Type}
def Tri.get : Tri XF → Nat → Option XF
  | .lf, _ => none
  | .nd o l r, i => match i with
    | 0 => o
    | j + 1 => match Nat.beq (Nat.mod j 2) 0 with
      | true => l.get (Nat.div j 2)
      | false => r.get (Nat.div j 2)
def Tri.upd : Tri XF → Nat → Option XF → Tri XF
  | .lf, _, _ => .lf
  | .nd o l r, i, x => match i with
    | 0 => .nd x l r
    | j + 1 => match Nat.beq (Nat.mod j 2) 0 with
      | true => .nd o (l.upd (Nat.div j 2) x) r
      | false => .nd o l (r.upd (Nat.div j 2) x)
def Tri.ins : Nat → Tri XF → Nat → XF → Tri XF
  | 0, t, _, _ => t
  | f + 1, t, i, x => match t with
    | .lf => match i with
      | 0 => .nd (some x) .lf .lf
      | j + 1 => match Nat.beq (Nat.mod j 2) 0 with
        | true => .nd none (Tri.ins f .lf (Nat.div j 2) x) .lf
        | false => .nd none .lf (Tri.ins f .lf (Nat.div j 2) x)
    | .nd o l r => match i with
      | 0 => .nd (some x) l r
      | j + 1 => match Nat.beq (Nat.mod j 2) 0 with
        | true => .nd o (Tri.ins f l (Nat.div j 2) x) r
        | false => .nd o l (Tri.ins f r (Nat.div j 2) x)
def Tri.all : Tri XF → (Nat → Nat) → List (Nat × XF)
  | .lf, _ => []
  | .nd o l r, κ => o.toList.map (fun x => (κ 0, x)) ++ (l.all (fun j => κ (2 * j + 1)) ++ r.all (fun j => κ (2 * j + 2)))
def add (n : Nat) (f : XF) (s : Tri XF) : Tri XF := Tri.ins (n + 1) s n f
def back (k : Nat) (f : XF) (s : Tri XF) : Tri XF := s.upd k (some f)
theorem beq_even (j : Nat) : Nat.beq (Nat.mod (2 * j) 2) 0 = true := by
  have : Nat.mod (2 * j) 2 = 0 := by show 2 * j % 2 = 0; omega
  rw [this]; rfl
theorem div_even (j : Nat) : Nat.div (2 * j) 2 = j := by show 2 * j / 2 = j; omega
theorem beq_odd (j : Nat) : Nat.beq (Nat.mod (2 * j + 1) 2) 0 = false := by
  have : Nat.mod (2 * j + 1) 2 = 1 := by show (2 * j + 1) % 2 = 1; omega
  rw [this]; rfl
theorem div_odd (j : Nat) : Nat.div (2 * j + 1) 2 = j := by show (2 * j + 1) / 2 = j; omega
theorem get_left {o : Option XF} {l r : Tri XF} (j : Nat) : (Tri.nd o l r).get (2 * j + 1) = l.get j := by
  simp only [Tri.get, beq_even, div_even]
theorem get_right {o : Option XF} {l r : Tri XF} (j : Nat) : (Tri.nd o l r).get (2 * j + 2) = r.get j := by
  simp only [Tri.get, beq_odd, div_odd]
theorem nat3 (i : Nat) : i = 0 ∨ (∃ j, i = 2 * j + 1) ∨ ∃ j, i = 2 * j + 2 := by
  rcases Nat.eq_zero_or_pos i with h | h
  · exact .inl h
  · rcases Nat.mod_two_eq_zero_or_one i with h1 | h1
    · exact .inr (.inr ⟨i / 2 - 1, by omega⟩)
    · exact .inr (.inl ⟨i / 2, by omega⟩)
theorem upd_left {o x : Option XF} {l r : Tri XF} (j : Nat) : (Tri.nd o l r).upd (2 * j + 1) x = .nd o (l.upd j x) r := by
  simp only [Tri.upd, beq_even, div_even]
theorem upd_right {o x : Option XF} {l r : Tri XF} (j : Nat) : (Tri.nd o l r).upd (2 * j + 2) x = .nd o l (r.upd j x) := by
  simp only [Tri.upd, beq_odd, div_odd]
theorem perm_mid {α : Type} {a : α} {A B C : List α} (h : B.Perm (a :: C)) : (A ++ B).Perm (a :: (A ++ C)) := (List.Perm.append_left A h).trans List.perm_middle
theorem all_upd : ∀ (t : Tri XF) (κ : Nat → Nat) (i : Nat) {f : XF}, t.get i = some f → ∀ x : Option XF, ((t.upd i x).all κ).Perm (x.toList.map (fun x => (κ i, x)) ++ (t.upd i none).all κ)
  | .lf, κ, i, f, h, x => by cases h
  | .nd o l r, κ, i, f, h, x => by
    rcases nat3 i with rfl | ⟨j, rfl⟩ | ⟨j, rfl⟩
    · simp [Tri.upd, Tri.all]
    · rw [get_left] at h
      simp only [upd_left, Tri.all]
      have := all_upd l (fun j => κ (2 * j + 1)) j h x
      cases x with
      | none => simp
      | some x => exact perm_mid (List.Perm.append_right _ this)
    · rw [get_right] at h
      simp only [upd_right, Tri.all]
      have := all_upd r (fun j => κ (2 * j + 2)) j h x
      cases x with
      | none => simp
      | some x => exact perm_mid (perm_mid this)
theorem upd_self : ∀ (t : Tri XF) (i : Nat), t.upd i (t.get i) = t
  | .lf, i => rfl
  | .nd o l r, i => by
    rcases nat3 i with rfl | ⟨j, rfl⟩ | ⟨j, rfl⟩
    · rfl
    · rw [get_left, upd_left, upd_self l j]
    · rw [get_right, upd_right, upd_self r j]
theorem upd_upd : ∀ (t : Tri XF) (i : Nat) (x y : Option XF), (t.upd i x).upd i y = t.upd i y
  | .lf, i, x, y => rfl
  | .nd o l r, i, x, y => by
    rcases nat3 i with rfl | ⟨j, rfl⟩ | ⟨j, rfl⟩
    · rfl
    · simp only [upd_left, upd_upd l]
    · simp only [upd_right, upd_upd r]
theorem get_upd : ∀ (t : Tri XF) (i k : Nat) (x : Option XF) {f : XF}, t.get i = some f → (t.upd i x).get k = if k = i then x else t.get k
  | .lf, i, k, x, f, h => by cases h
  | .nd o l r, i, k, x, f, h => by
    rcases nat3 i with rfl | ⟨j, rfl⟩ | ⟨j, rfl⟩
    · rcases nat3 k with rfl | ⟨m, rfl⟩ | ⟨m, rfl⟩
      · rfl
      · rw [if_neg (by omega), get_left]; simp only [Tri.upd, get_left]
      · rw [if_neg (by omega), get_right]; simp only [Tri.upd, get_right]
    · rw [get_left] at h
      rw [upd_left]
      rcases nat3 k with rfl | ⟨m, rfl⟩ | ⟨m, rfl⟩
      · rw [if_neg (by omega)]; rfl
      · rw [get_left, get_left, get_upd l j m x h]
        by_cases hm : m = j
        · rw [if_pos hm, if_pos (by omega)]
        · rw [if_neg hm, if_neg (by omega)]
      · rw [if_neg (by omega), get_right, get_right]
    · rw [get_right] at h
      rw [upd_right]
      rcases nat3 k with rfl | ⟨m, rfl⟩ | ⟨m, rfl⟩
      · rw [if_neg (by omega)]; rfl
      · rw [if_neg (by omega), get_left, get_left]
      · rw [get_right, get_right, get_upd r j m x h]
        by_cases hm : m = j
        · rw [if_pos hm, if_pos (by omega)]
        · rw [if_neg hm, if_neg (by omega)]
theorem ins_all : ∀ (f : Nat) (t : Tri XF) (κ : Nat → Nat) (i : Nat) (x : XF), i < f → t.get i = none → ((Tri.ins f t i x).all κ).Perm ((κ i, x) :: t.all κ)
  | 0, _, _, _, _, h, _ => by omega
  | f + 1, .lf, κ, i, x, h, h0 => by
    rcases nat3 i with rfl | ⟨j, rfl⟩ | ⟨j, rfl⟩
    · exact List.Perm.refl _
    · simp only [Tri.ins, beq_even, div_even]
      have := ins_all f .lf (fun j => κ (2 * j + 1)) j x (by omega) rfl
      simpa [Tri.all] using this
    · simp only [Tri.ins, beq_odd, div_odd]
      have := ins_all f .lf (fun j => κ (2 * j + 2)) j x (by omega) rfl
      simpa [Tri.all] using this
  | f + 1, .nd o l r, κ, i, x, h, h0 => by
    rcases nat3 i with rfl | ⟨j, rfl⟩ | ⟨j, rfl⟩
    · have : o = none := h0
      subst this
      exact List.Perm.refl _
    · rw [get_left] at h0
      simp only [Tri.ins, beq_even, div_even, Tri.all]
      exact perm_mid (List.Perm.append_right _ (ins_all f l _ j x (by omega) h0))
    · rw [get_right] at h0
      simp only [Tri.ins, beq_odd, div_odd, Tri.all]
      exact perm_mid (perm_mid (ins_all f r _ j x (by omega) h0))
theorem ins_get : ∀ (f : Nat) (t : Tri XF) (i k : Nat) (x : XF), i < f → (Tri.ins f t i x).get k = if k = i then some x else t.get k
  | 0, _, _, _, _, h => by omega
  | f + 1, .lf, i, k, x, h => by
    rcases nat3 i with rfl | ⟨j, rfl⟩ | ⟨j, rfl⟩
    · rcases nat3 k with rfl | ⟨m, rfl⟩ | ⟨m, rfl⟩
      · rfl
      · rw [if_neg (by omega)]; simp only [Tri.ins, get_left]; rfl
      · rw [if_neg (by omega)]; simp only [Tri.ins, get_right]; rfl
    · simp only [Tri.ins, beq_even, div_even]
      rcases nat3 k with rfl | ⟨m, rfl⟩ | ⟨m, rfl⟩
      · rw [if_neg (by omega)]; rfl
      · rw [get_left, ins_get f .lf j m x (by omega)]
        by_cases hm : m = j
        · rw [if_pos hm, if_pos (by omega)]
        · rw [if_neg hm, if_neg (by omega)]; rfl
      · rw [get_right, if_neg (by omega)]; rfl
    · simp only [Tri.ins, beq_odd, div_odd]
      rcases nat3 k with rfl | ⟨m, rfl⟩ | ⟨m, rfl⟩
      · rw [if_neg (by omega)]; rfl
      · rw [get_left, if_neg (by omega)]; rfl
      · rw [get_right, ins_get f .lf j m x (by omega)]
        by_cases hm : m = j
        · rw [if_pos hm, if_pos (by omega)]
        · rw [if_neg hm, if_neg (by omega)]; rfl
  | f + 1, .nd o l r, i, k, x, h => by
    rcases nat3 i with rfl | ⟨j, rfl⟩ | ⟨j, rfl⟩
    · rcases nat3 k with rfl | ⟨m, rfl⟩ | ⟨m, rfl⟩
      · rfl
      · rw [if_neg (by omega)]; simp only [Tri.ins, get_left]
      · rw [if_neg (by omega)]; simp only [Tri.ins, get_right]
    · simp only [Tri.ins, beq_even, div_even]
      rcases nat3 k with rfl | ⟨m, rfl⟩ | ⟨m, rfl⟩
      · rw [if_neg (by omega)]; rfl
      · rw [get_left, get_left, ins_get f l j m x (by omega)]
        by_cases hm : m = j
        · rw [if_pos hm, if_pos (by omega)]
        · rw [if_neg hm, if_neg (by omega)]
      · rw [get_right, get_right, if_neg (by omega)]
    · simp only [Tri.ins, beq_odd, div_odd]
      rcases nat3 k with rfl | ⟨m, rfl⟩ | ⟨m, rfl⟩
      · rw [if_neg (by omega)]; rfl
      · rw [get_left, get_left, if_neg (by omega)]
      · rw [get_right, get_right, ins_get f r j m x (by omega)]
        by_cases hm : m = j
        · rw [if_pos hm, if_pos (by omega)]
        · rw [if_neg hm, if_neg (by omega)]
theorem all_get : ∀ (t : Tri XF) (κ : Nat → Nat) (a : Nat) (f : XF), (a, f) ∈ t.all κ → ∃ i, a = κ i ∧ t.get i = some f
  | .lf, κ, a, f, h => by cases h
  | .nd o l r, κ, a, f, h => by
    simp only [Tri.all, List.mem_append, List.mem_map] at h
    rcases h with ⟨x, hx, e⟩ | h | h
    · cases e
      exact ⟨0, rfl, by simpa [Tri.get] using hx⟩
    · obtain ⟨j, h1, h2⟩ := all_get l _ a f h
      exact ⟨2 * j + 1, h1, by rw [get_left]; exact h2⟩
    · obtain ⟨j, h1, h2⟩ := all_get r _ a f h
      exact ⟨2 * j + 2, h1, by rw [get_right]; exact h2⟩
end
abbrev VS (size : Nat) : Type := { l : List Value // l.length = size ∧ ∀ v ∈ l, v.oneCell' = true }
abbrev vsV {size : Nat} (x : VS size) : List Value := x.1
def ownX (β : As) (k size : Nat) (es : List (List XV)) : Asn :=
  exA fun xs : List (VS size) => star (pr (xs.map (·.1) = es.map (vals β) ∧ 0 < size)) (ownS (vsV (size := size)) size (β.s k) xs)
def fact (β : As) : Nat × XF → Asn
  | (k, .cells T cs) => blk (β.b k) (.cells (vals β cs).toArray T (0, 0))
  | (k, .mapI es) => mapA (fun n : Int => Value.int .i64 n) (val β) (β.b k) es
  | (k, .mapS es) => mapA (fun s : ByteArray => Value.string s) (val β) (β.b k) es
  | (k, .mapT es) => mapA e2 (val β) (β.b k) es
  | (k, .own size es) => ownX β k size es
  | (k, .txt s pos) => blk (β.b k) (.stringIter s pos)
  | (k, .buf T bs) => bufA T (β.s k) bs
  | (k, .walkI it l d t) => itA (fun n : Int => Value.int .i64 n) (val β) (β.b k) l (β.b it) d t
  | (k, .walkS it l d t) => itA (fun s : ByteArray => Value.string s) (val β) (β.b k) l (β.b it) d t
  | (k, .itOf m) => pr True
  | (k, .itNil) => blk (β.b k) (.mapIter none 0 #[] 0)
def asn (β : As) (s : XSt) : List Asn := (s.all id).map (fact β)
theorem Sub.perm {L L' : List Asn} (h : L.Perm L') : Sub L L' := by
  induction h with
  | nil => exact fun _ hs => hs
  | cons a _ ih => exact fun m hs => star_mono (fun _ h => h) ih hs
  | swap a b l => exact fun m hs => stars_swap hs
  | trans _ _ h1 h2 => exact fun m hs => h2 m (h1 m hs)
abbrev look (k : Nat) (s : XSt) : Option XF := s.get k
def pick (k : Nat) (s : XSt) : Option (XF × XSt) := match s.get k with
  | some f => some (f, s.upd k none)
  | none => none
theorem pick_look {k : Nat} {s r : XSt} {f : XF} (h : pick k s = some (f, r)) : s.get k = some f ∧ r = s.upd k none := by
  unfold pick at h
  split at h
  · rename_i g hg; cases h; exact ⟨hg, rfl⟩
  · cases h
theorem look_pick {k : Nat} {s : XSt} {f : XF} (h : look k s = some f) : ∃ r, pick k s = some (f, r) := ⟨_, by unfold pick; rw [show s.get k = some f from h]⟩
theorem perm_pick {k : Nat} {s r : XSt} {f : XF} (h : pick k s = some (f, r)) (β : As) : (asn β s).Perm (fact β (k, f) :: asn β r) := by
  obtain ⟨h1, rfl⟩ := pick_look h
  have h2 := all_upd s id k h1 (some f)
  rw [← h1, upd_self, h1] at h2
  exact h2.map (fact β)
theorem perm_back {k : Nat} {s r : XSt} {f : XF} (h : pick k s = some (f, r)) (g : XF) (β : As) : (asn β (back k g r)).Perm (fact β (k, g) :: asn β r) := by
  obtain ⟨h1, rfl⟩ := pick_look h
  have h2 := all_upd s id k h1 (some g)
  unfold back
  rw [upd_upd]
  exact h2.map (fact β)
theorem has_pick {β : As} {k : Nat} {L : List Asn} {s r : XSt} {f : XF} (h : pick k s = some (f, r)) : Has (asn β s ++ L) (fact β (k, f)) (asn β r ++ L) :=
  Sub.perm ((perm_pick h β).append_right L)
theorem sub_back {β : As} {k : Nat} {L : List Asn} {s r : XSt} {f : XF} (h : pick k s = some (f, r)) (g : XF) : Sub (fact β (k, g) :: (asn β r ++ L)) (asn β (back k g r) ++ L) :=
  Sub.perm ((perm_back h g β).symm.append_right L)
def cloE {K : Type} (n : Nat) : List (K × XV) → Bool
  | [] => true
  | (_, v) :: r => match clo n v with
    | true => cloE n r
    | false => false
def cloR (n : Nat) : List (List XV) → Bool
  | [] => true
  | l :: r => match clos n l with
    | true => cloR n r
    | false => false
def walkB {K : Type} (n it : Nat) (l d t : List (K × XV)) : Bool := match Nat.blt it n with
    | true => match cloE n l with
      | true => match cloE n d with
        | true => cloE n t
        | false => false
      | false => false
    | false => false
def cloF (n : Nat) : XF → Bool
  | .cells _ cs => clos n cs
  | .mapI es => cloE n es
  | .mapS es => cloE n es
  | .mapT es => cloE n es
  | .own _ es => cloR n es
  | .txt _ _ => true
  | .buf _ _ => true
  | .walkI it l d t => walkB n it l d t
  | .walkS it l d t => walkB n it l d t
  | .itOf m => Nat.blt m n
  | .itNil => true
def CloS (n : Nat) (s : XSt) : Prop := ∀ k f, s.get k = some f → k < n ∧ cloF n f = true
theorem sub_add {β : As} {n : Nat} {L : List Asn} {s : XSt} (h : CloS n s) (g : XF) : Sub (fact β (n, g) :: (asn β s ++ L)) (asn β (add n g s) ++ L) := by
  have h0 : s.get n = none := by
    cases hg : s.get n with
    | none => rfl
    | some f => exact absurd (h n f hg).1 (Nat.lt_irrefl _)
  exact Sub.perm (((ins_all (n + 1) s id n g (Nat.lt_succ_self _) h0).map (fact β)).symm.append_right L)
theorem cloE_agr {K : Type} {n : Nat} {β γ : As} (h : Agr n β γ) : ∀ {es : List (K × XV)}, cloE n es = true → es.map (fun p => (p.1, val β p.2)) = es.map (fun p => (p.1, val γ p.2))
  | [], _ => rfl
  | (a, v) :: r, hc => by
    simp only [cloE] at hc
    split at hc
    · rename_i hv
      simp only [List.map_cons]
      rw [val_agr h v hv, cloE_agr h hc]
    · cases hc
theorem cloR_agr {n : Nat} {β γ : As} (h : Agr n β γ) : ∀ {es : List (List XV)}, cloR n es = true → es.map (vals β) = es.map (vals γ)
  | [], _ => rfl
  | l :: r, hc => by
    simp only [cloR] at hc
    split at hc
    · rename_i hv
      simp only [List.map_cons]
      rw [vals_agr h l hv, cloR_agr h hc]
    · cases hc
theorem mapA_agr {K : Type} {ek : K → Value} {b : Nat} {β γ : As} {es : List (K × XV)} (h : es.map (fun p => (p.1, val β p.2)) = es.map (fun p => (p.1, val γ p.2))) : mapA ek (val β) b es = mapA ek (val γ) b es := by
  have e : ∀ l, Ents ek (val β) es l = Ents ek (val γ) es l := fun l => by
    unfold Ents
    have h2 := congrArg (List.map fun p : K × Value => (ek p.1, p.2)) h
    simp only [List.map_map, Function.comp_def] at h2
    rw [h2]
  unfold mapA
  simp only [e]
theorem itA_agr {K : Type} {ek : K → Value} {b it : Nat} {f g : XV → Value} {l d t : List (K × XV)} (h1 : l.map (fun p => (p.1, f p.2)) = l.map (fun p => (p.1, g p.2))) (h2 : d.map (fun p => (p.1, f p.2)) = d.map (fun p => (p.1, g p.2))) (h3 : t.map (fun p => (p.1, f p.2)) = t.map (fun p => (p.1, g p.2))) :
    itA ek f b l it d t = itA ek g b l it d t := by
  have key : ∀ {l : List (K × XV)}, l.map (fun p => (p.1, f p.2)) = l.map (fun p => (p.1, g p.2)) → l.map (fun p => (ek p.1, f p.2)) = l.map (fun p => (ek p.1, g p.2)) := fun {l} h => by
    have h2 := congrArg (List.map fun p : K × Value => (ek p.1, p.2)) h
    simpa only [List.map_map, Function.comp_def] using h2
  have e : ∀ es c s des tes, ItF ek f l d t es c s des tes = ItF ek g l d t es c s des tes := fun es c s des tes => by
    refine propext ⟨fun h => ⟨?_, h.stamped, h.perm, h.seen, ?_, ?_⟩, fun h => ⟨?_, h.stamped, h.perm, h.seen, ?_, ?_⟩⟩
    · have := h.ents; unfold Ents at this ⊢; rw [← key h1]; exact this
    · have := h.done; unfold PairE at this ⊢; rw [← key h2]; exact this
    · have := h.todo; unfold PairE at this ⊢; rw [← key h3]; exact this
    · have := h.ents; unfold Ents at this ⊢; rw [key h1]; exact this
    · have := h.done; unfold PairE at this ⊢; rw [key h2]; exact this
    · have := h.todo; unfold PairE at this ⊢; rw [key h3]; exact this
  unfold itA
  simp only [e]
theorem walk_clo {K : Type} {n it : Nat} {l d t : List (K × XV)} (h : walkB n it l d t = true) : it < n ∧ cloE n l = true ∧ cloE n d = true ∧ cloE n t = true := by
  unfold walkB at h
  split at h
  · rename_i h1
    split at h
    · rename_i h2
      split at h
      · rename_i h3; exact ⟨by simpa using h1, h2, h3, h⟩
      · cases h
    · cases h
  · cases h
theorem walk_clo' {K : Type} {n it : Nat} {l d t : List (K × XV)} (h1 : it < n) (h2 : cloE n l = true) (h3 : cloE n d = true) (h4 : cloE n t = true) : walkB n it l d t = true := by
  unfold walkB
  rw [show Nat.blt it n = true by simpa using h1, h2, h3, h4]
theorem fact_agr {n k : Nat} {β γ : As} (h : Agr n β γ) (hk : k < n) : ∀ f, cloF n f = true → fact β (k, f) = fact γ (k, f)
  | .cells T cs, hc => by simp only [fact]; rw [h.b k hk, vals_agr h cs hc]
  | .mapI es, hc => by simp only [fact]; rw [h.b k hk, mapA_agr (cloE_agr h hc)]
  | .mapS es, hc => by simp only [fact]; rw [h.b k hk, mapA_agr (cloE_agr h hc)]
  | .mapT es, hc => by simp only [fact]; rw [h.b k hk, mapA_agr (cloE_agr h hc)]
  | .own size es, hc => by simp only [fact, ownX]; rw [h.s k hk, cloR_agr h hc]
  | .txt s p, _ => by simp only [fact]; rw [h.b k hk]
  | .buf T bs, _ => by simp only [fact]; rw [h.s k hk]
  | .walkI it l d t, hc => by
    obtain ⟨h1, h2, h3, h4⟩ := walk_clo hc
    simp only [fact]; rw [h.b k hk, h.b it h1, itA_agr (cloE_agr h h2) (cloE_agr h h3) (cloE_agr h h4)]
  | .walkS it l d t, hc => by
    obtain ⟨h1, h2, h3, h4⟩ := walk_clo hc
    simp only [fact]; rw [h.b k hk, h.b it h1, itA_agr (cloE_agr h h2) (cloE_agr h h3) (cloE_agr h h4)]
  | .itOf m, _ => rfl
  | .itNil, _ => by simp only [fact]; rw [h.b k hk]
theorem asn_agr {n : Nat} {β γ : As} (h : Agr n β γ) {s : XSt} (hc : CloS n s) : asn β s = asn γ s :=
  List.map_congr_left fun ⟨k, f⟩ hm => by
    obtain ⟨i, rfl, hg⟩ := all_get _ _ _ _ hm
    exact fact_agr h (hc _ f hg).1 f (hc _ f hg).2
theorem pick_mem {k : Nat} {s r : XSt} {f : XF} (h : pick k s = some (f, r)) : s.get k = some f ∧ ∀ i x, r.get i = some x → s.get i = some x := by
  obtain ⟨h1, rfl⟩ := pick_look h
  refine ⟨h1, fun i x hx => ?_⟩
  rw [get_upd s k i none h1] at hx
  split at hx
  · cases hx
  · exact hx
theorem CloS.rest {n k : Nat} {s r : XSt} {f : XF} (h : CloS n s) (hp : pick k s = some (f, r)) : CloS n r := fun j f' hm => h j f' ((pick_mem hp).2 _ _ hm)
theorem CloS.put {n k : Nat} {s r : XSt} {f g : XF} (h : CloS n s) (hp : pick k s = some (f, r)) (hg : cloF n g = true) : CloS n (back k g r) := by
  obtain ⟨h1, rfl⟩ := pick_look hp
  intro j f' hm
  unfold back at hm
  rw [upd_upd, get_upd s k j (some g) h1] at hm
  split at hm
  · rename_i e; cases hm; subst e; exact ⟨(h _ _ h1).1, hg⟩
  · exact h j f' hm
mutual
theorem clo_mono {n m : Nat} (h : n ≤ m) : ∀ v, clo n v = true → clo m v = true
  | .ptr k o, hc => by simp only [clo, Nat.blt_eq] at hc ⊢; omega
  | .eptr k o, hc => by simp only [clo, Nat.blt_eq] at hc ⊢; omega
  | .slc k, hc => by simp only [clo, Nat.blt_eq] at hc ⊢; omega
  | .map k, hc => by simp only [clo, Nat.blt_eq] at hc ⊢; omega
  | .agg cs, hc => clos_mono h cs hc
  | .tup cs, hc => clos_mono h cs hc
  | .func f a b, hc => by
    simp only [clo] at hc ⊢
    split at hc
    · rename_i ha; rw [clos_mono h a ha]; exact clos_mono h b hc
    · cases hc
  | .iface t v, hc => clo_mono h v hc
  | .int _ _, _ => rfl
  | .bool _, _ => rfl
  | .str _, _ => rfl
  | .nptr, _ => rfl
  | .gptr _ _, _ => rfl
  | .nslc, _ => rfl
  | .nmap, _ => rfl
  | .nfunc, _ => rfl
  | .niface, _ => rfl
theorem clos_mono {n m : Nat} (h : n ≤ m) : ∀ l, clos n l = true → clos m l = true
  | [], _ => rfl
  | v :: vs, hc => by
    simp only [clos] at hc ⊢
    split at hc
    · rename_i ha; rw [clo_mono h v ha]; exact clos_mono h vs hc
    · cases hc
end
theorem cloE_mono {K : Type} {n m : Nat} (h : n ≤ m) : ∀ {es : List (K × XV)}, cloE n es = true → cloE m es = true
  | [], _ => rfl
  | (a, v) :: r, hc => by
    simp only [cloE] at hc ⊢
    split at hc
    · rename_i ha; rw [clo_mono h v ha]; exact cloE_mono h hc
    · cases hc
theorem cloR_mono {n m : Nat} (h : n ≤ m) : ∀ {es : List (List XV)}, cloR n es = true → cloR m es = true
  | [], _ => rfl
  | l :: r, hc => by
    simp only [cloR] at hc ⊢
    split at hc
    · rename_i ha; rw [clos_mono h l ha]; exact cloR_mono h hc
    · cases hc
theorem cloF_mono {n m : Nat} (h : n ≤ m) : ∀ {f : XF}, cloF n f = true → cloF m f = true
  | .cells _ cs, hc => clos_mono h cs hc
  | .mapI es, hc => cloE_mono h hc
  | .mapS es, hc => cloE_mono h hc
  | .mapT es, hc => cloE_mono h hc
  | .own _ es, hc => cloR_mono h hc
  | .txt _ _, _ => rfl
  | .buf _ _, _ => rfl
  | .walkI it l d t, hc => by
    obtain ⟨h1, h2, h3, h4⟩ := walk_clo hc
    exact walk_clo' (Nat.lt_of_lt_of_le h1 h) (cloE_mono h h2) (cloE_mono h h3) (cloE_mono h h4)
  | .walkS it l d t, hc => by
    obtain ⟨h1, h2, h3, h4⟩ := walk_clo hc
    exact walk_clo' (Nat.lt_of_lt_of_le h1 h) (cloE_mono h h2) (cloE_mono h h3) (cloE_mono h h4)
  | .itOf m, hc => by simp only [cloF, Nat.blt_eq] at hc ⊢; omega
  | .itNil, _ => rfl
theorem CloS.new {n : Nat} {s : XSt} {g : XF} (h : CloS n s) (hg : cloF (n + 1) g = true) : CloS (n + 1) (add n g s) := by
  intro j f' hm
  unfold add at hm
  rw [ins_get (n + 1) s n j g (Nat.lt_succ_self _)] at hm
  split at hm
  · rename_i e; cases hm; subst e; exact ⟨Nat.lt_succ_self _, hg⟩
  · exact ⟨Nat.lt_succ_of_lt (h j f' hm).1, cloF_mono (Nat.le_succ _) (h j f' hm).2⟩
def As.newB (β : As) (n b : Nat) : As := ⟨fun k => if k = n then b else β.b k, β.s⟩
def As.newS (β : As) (n : Nat) (s : Slc) : As := ⟨β.b, fun k => if k = n then s else β.s k⟩
theorem agr_newB {β : As} {n b : Nat} : Agr n β (β.newB n b) := ⟨fun k hk => by simp [As.newB]; omega, fun _ _ => rfl⟩
theorem agr_newS {β : As} {n : Nat} {s : Slc} : Agr n β (β.newS n s) := ⟨fun _ _ => rfl, fun k hk => by simp only [As.newS]; rw [if_neg (by omega)]⟩
end Go.X
namespace Go.X
open Go.H
set_option linter.unusedSimpArgs false
set_option linter.unusedVariables false
section
variable {ρ : Type} {L : List Asn} {Q : ρ → Heap → Prop} {k : Value → HM ρ} {P : Program} {β : As}
def chk (b : Bool) (v : XV) : Option XV := match b with
  | true => some v
  | false => none
theorem chk_eq {b : Bool} {v u : XV} (h : chk b v = some u) : b = true ∧ v = u := by
  cases b
  · cases h
  · cases h; exact ⟨rfl, rfl⟩
def xInt (op : BinOp) (kx ky : IntKind) (a b : Int) : Option XV :=
  match op with
  | .shl => chk (decide (0 ≤ b)) (.int kx (kx.wrap (a * 2 ^ (min b.toNat kx.bits))))
  | .shr => chk (decide (0 ≤ b)) (.int kx (a.fdiv (2 ^ (min b.toNat kx.bits))))
  | op => match ikEq kx ky with
    | false => none
    | true => match op with
      | .add => some (.int kx (kx.wrap (a + b)))
      | .sub => some (.int kx (kx.wrap (a - b)))
      | .mul => some (.int kx (kx.wrap (a * b)))
      | .quo => chk (decide (b ≠ 0)) (.int kx (kx.wrap (a.tdiv b)))
      | .rem => chk (decide (b ≠ 0)) (.int kx (a.tmod b))
      | .and => some (.int kx (bitOp .and kx a b))
      | .or => some (.int kx (bitOp .or kx a b))
      | .xor => some (.int kx (bitOp .xor kx a b))
      | .andNot => some (.int kx (bitOp .andNot kx a b))
      | .lss => some (.bool (decide (a < b)))
      | .leq => some (.bool (decide (a ≤ b)))
      | .gtr => some (.bool (decide (b < a)))
      | .geq => some (.bool (decide (b ≤ a)))
      | _ => none
theorem xInt_ok {op : BinOp} {kx ky : IntKind} {a b : Int} {v : XV} (h : xInt op kx ky a b = some v) (hk : W L (k (val β v)) Q) : W L (denInt op kx ky a b k) Q := by
  cases op
  case shl => obtain ⟨h1, rfl⟩ := chk_eq h; exact W.req hk (of_decide_eq_true h1)
  case shr => obtain ⟨h1, rfl⟩ := chk_eq h; exact W.req hk (of_decide_eq_true h1)
  all_goals
    simp only [xInt] at h
    simp only [denInt]
    split at h
    · cases h
    · rename_i hik
      simp only [hik]
      first
        | (cases h; done)
        | (cases h; exact hk)
        | (obtain ⟨h1, rfl⟩ := chk_eq h; exact W.req hk (of_decide_eq_true h1))
def xStr (op : BinOp) (a b : ByteArray) : Option XV :=
  match op with
  | .add => chk (Nat.ble (a.size + b.size) 9223372036854775807) (.str (a ++ b))
  | .lss => some (.bool (Op.bytesLess a.toList b.toList))
  | .leq => some (.bool (Op.bytesLess a.toList b.toList || a.toList == b.toList))
  | .gtr => some (.bool !(Op.bytesLess a.toList b.toList || a.toList == b.toList))
  | .geq => some (.bool !(Op.bytesLess a.toList b.toList))
  | _ => none
theorem xStr_ok {op : BinOp} {a b : ByteArray} {v : XV} (h : xStr op a b = some v) (hk : W L (k (val β v)) Q) : W L (denStr op a b k) Q := by
  cases op
  case add => obtain ⟨h1, rfl⟩ := chk_eq h; exact W.req hk (Nat.le_of_ble_eq_true h1)
  all_goals
    simp only [xStr] at h
    first
      | (cases h; done)
      | (cases h; exact hk)
def xNilP : XV → Option Bool
  | .nptr => some true
  | .ptr _ _ => some false
  | .gptr _ _ => some false
  | _ => none
theorem xNilP_ok {x : XV} {r : Bool} (h : xNilP x = some r) : ∃ p, val β x = .pointer p ∧ p.isNone = r := by
  cases x <;> simp only [xNilP] at h <;> first | (cases h; done) | (cases h; exact ⟨_, rfl, rfl⟩)
def xEq (P : Program) (neg : Bool) (t : TypeId) (yo : Operand) (x y : XV) : Option XV :=
  match P.underlying t with
  | some (.pointer _) => match yo with
    | .const (.pointer none) => match xNilP x with
      | some r => some (.bool (eqRes neg r))
      | none => none
    | _ => none
  | some (.map _ _) => match yo with
    | .const (.map none) => match x with
      | .nmap => some (.bool (eqRes neg true))
      | .map _ => some (.bool (eqRes neg false))
      | _ => none
    | _ => none
  | some (.interface _) => match yo with
    | .const .nilIface => match x with
      | .niface => some (.bool (eqRes neg true))
      | .iface _ _ => some (.bool (eqRes neg false))
      | _ => none
    | _ => none
  | some (.func _ _ _) => match yo with
    | .const .nilFunc => match x with
      | .nfunc => some (.bool (eqRes neg true))
      | .func _ _ _ => some (.bool (eqRes neg false))
      | _ => none
    | _ => none
  | some (.int _) => match x, y with
    | .int kx a, .int ky b => match ikEq kx ky with
      | true => some (.bool (eqRes neg (a == b)))
      | false => none
    | _, _ => none
  | some .bool => match x, y with
    | .bool a, .bool b => some (.bool (eqRes neg (a == b)))
    | _, _ => none
  | some .string => match x, y with
    | .str a, .str b => some (.bool (eqRes neg (decide (a = b))))
    | _, _ => none
  | _ => none
theorem xEq_ok {neg : Bool} {t : TypeId} {yo : Operand} {x y : XV} {v : XV} (h : xEq P neg t yo x y = some v) (hk : W L (k (val β v)) Q) : W L (denEq P neg t yo (val β x) (val β y) k) Q := by
  unfold xEq at h
  unfold denEq
  split at h
  · rename_i ht
    rw [ht]
    split at h
    · split at h
      · rename_i r hr
        cases h
        obtain ⟨p, h1, h2⟩ := xNilP_ok (β := β) hr
        simp only [h1, h2]
        exact hk
      · cases h
    · cases h
  · rename_i ht
    rw [ht]
    split at h
    · cases x <;> simp only at h <;> first | (cases h; done) | (cases h; exact hk)
    · cases h
  · rename_i ht
    rw [ht]
    split at h
    · cases x <;> simp only at h <;> first | (cases h; done) | (cases h; exact W.req hk rfl)
    · cases h
  · rename_i ht
    rw [ht]
    split at h
    · cases x <;> simp only at h <;> first | (cases h; done) | (cases h; exact W.req hk rfl)
    · cases h
  · rename_i ht
    rw [ht]
    split at h
    · split at h
      · rename_i hik
        cases h
        simp only [val, hik]
        exact hk
      · cases h
    · cases h
  · rename_i ht
    rw [ht]
    split at h
    · cases h; exact hk
    · cases h
  · rename_i ht
    rw [ht]
    split at h
    · cases h; exact hk
    · cases h
  · cases h
def xBin (P : Program) (op : BinOp) (t : TypeId) (yo : Operand) (x y : XV) : Option XV :=
  match op with
  | .eql => xEq P false t yo x y
  | .neq => xEq P true t yo x y
  | op => match x, y with
    | .int kx a, .int ky b => xInt op kx ky a b
    | .str a, .str b => xStr op a b
    | _, _ => none
theorem xBin_ok {op : BinOp} {t : TypeId} {yo : Operand} {x y : XV} {v : XV} (h : xBin P op t yo x y = some v) (hk : W L (k (val β v)) Q) : W L (denBin P op t yo (val β x) (val β y) k) Q := by
  cases op
  case eql => exact xEq_ok h hk
  case neq => exact xEq_ok h hk
  all_goals
    simp only [xBin] at h
    simp only [denBin]
    split at h
    · simp only [val]; exact xInt_ok h hk
    · simp only [val]; exact xStr_ok h hk
    · cases h
def xUn (op : UnOp) (x : XV) : Option XV :=
  match op, x with
  | .not, .bool b => some (.bool !b)
  | .neg, .int kd n => some (.int kd (kd.wrap (0 - n)))
  | .xor, .int kd n => some (.int kd (bitOp .xor kd (if kd.signed then -1 else kd.max) n))
  | _, _ => none
theorem xUn_ok {op : UnOp} {x v : XV} (h : xUn op x = some v) (hk : W L (k (val β v)) Q) : W L (denUn op (val β x) k) Q := by
  unfold xUn at h
  split at h <;> first | (cases h; done) | (cases h; exact hk)
end
end Go.X
namespace Go.X
open Go.H
set_option linter.unusedSimpArgs false
set_option linter.unusedVariables false
def mapO {α γ : Type} (f : α → Option γ) : List α → Option (List γ)
  | [] => some []
  | x :: xs => match f x with
    | some y => match mapO f xs with
      | some ys => some (y :: ys)
      | none => none
    | none => none
def ofV : Nat → Value → Option XV
  | 0, _ => none
  | d + 1, v => match v with
    | .int k n => some (.int k n)
    | .bool b => some (.bool b)
    | .string s => some (.str s)
    | .pointer none => some .nptr
    | .slice none n c => match Nat.beq n 0 with
      | true => match Nat.beq c 0 with
        | true => some .nslc
        | false => none
      | false => none
    | .map none => some .nmap
    | .nilFunc => some .nfunc
    | .nilIface => some .niface
    | .agg cs => match mapO (ofV d) cs.toList with
      | some l => some (.agg l)
      | none => none
    | _ => none
theorem mapO_ok {β : As} {f : Value → Option XV} (hf : ∀ v x, f v = some x → val β x = v ∧ ∀ n, clo n x = true) : ∀ {l : List Value} {r : List XV}, mapO f l = some r → vals β r = l ∧ ∀ n, clos n r = true
  | [], _, h => by cases h; exact ⟨rfl, fun _ => rfl⟩
  | v :: l, r, h => by
    simp only [mapO] at h
    split at h
    · rename_i y hy
      split at h
      · rename_i ys hys
        cases h
        obtain ⟨h1, h2⟩ := hf v y hy
        obtain ⟨h3, h4⟩ := mapO_ok hf hys
        refine ⟨by simp only [vals]; rw [h1, h3], fun n => ?_⟩
        simp only [clos]
        rw [h2 n]
        exact h4 n
      · cases h
    · cases h
theorem ofV_ok {β : As} : ∀ (d : Nat) (v : Value) (x : XV), ofV d v = some x → val β x = v ∧ ∀ n, clo n x = true
  | 0, _, _, h => by cases h
  | d + 1, v, x, h => by
    simp only [ofV] at h
    split at h
    all_goals first
      | (cases h; done)
      | (cases h; exact ⟨rfl, fun _ => rfl⟩)
      | skip
    · split at h
      · rename_i hn
        split at h
        · rename_i hc
          cases h
          rw [Nat.eq_of_beq_eq_true hn, Nat.eq_of_beq_eq_true hc]
          exact ⟨rfl, fun _ => rfl⟩
        · cases h
      · cases h
    · split at h
      · rename_i l hl
        cases h
        obtain ⟨h1, h2⟩ := mapO_ok (fun v x => ofV_ok d v x) hl
        refine ⟨?_, h2⟩
        simp only [val]
        rw [h1]
      · cases h
def xtag : Tag → XV → Bool
  | .int k, .int k' _ => ikEq k k'
  | .bool, .bool _ => true
  | .str, .str _ => true
  | .ptr, .nptr => true
  | .ptr, .ptr _ _ => true
  | .ptr, .eptr _ _ => true
  | .ptr, .gptr _ _ => true
  | .slc, .nslc => true
  | .slc, .slc _ => true
  | .map, .nmap => true
  | .map, .map _ => true
  | .any, .agg _ => false
  | .any, .tup _ => false
  | .any, _ => true
  | _, _ => false
theorem xtag_ok {β : As} {t : Tag} {x : XV} (h : xtag t x = true) : (∃ y, t.get (val β x) = some y) ∧ (val β x).oneCell' = true := by
  cases t <;> cases x <;> simp only [xtag] at h <;> first
    | (cases h; done)
    | (exact ⟨⟨_, rfl⟩, rfl⟩)
    | (refine ⟨?_, rfl⟩; simp only [val, Tag.get]; rw [if_pos h]; exact ⟨_, rfl⟩)
def xtags : List Tag → List XV → Bool
  | [], [] => true
  | t :: ts, x :: xs => match xtag t x with
    | true => xtags ts xs
    | false => false
  | _, _ => false
theorem xtags_ok {β : As} : ∀ {ts : List Tag} {xs : List XV}, xtags ts xs = true → ∃ y, Tup.get ts (vals β xs) = some y ∧ Tup.vals ts y = vals β xs
  | [], [], _ => ⟨(), rfl, rfl⟩
  | [], _ :: _, h => by cases h
  | _ :: _, [], h => by cases h
  | t :: ts, x :: xs, h => by
    simp only [xtags] at h
    split at h
    · rename_i ht
      obtain ⟨⟨y, hy⟩, -⟩ := xtag_ok (β := β) ht
      obtain ⟨ys, hys, hv⟩ := xtags_ok (β := β) h
      have e : Tup.get (t :: ts) (vals β (x :: xs)) = some (y, ys) := by
        simp only [vals, Tup.get, HT.get] at hys ⊢
        rw [hy, hys]
      exact ⟨(y, ys), e, (Tup.get_vals _ _ _ e).symm⟩
    · cases h
theorem vals_len (β : As) (l : List XV) : (vals β l).length = l.length := by rw [vals_map]; simp
def xcells (kd : Kind) (x : XV) : Option (List XV) :=
  match kd with
  | .one _ => some [x]
  | .agg ts => match x with
    | .agg cs => match Nat.beq cs.length ts.length with
      | true => some cs
      | false => none
    | _ => none
theorem xcells_ok {β : As} {kd : Kind} {x : XV} {cs : List XV} (h : xcells kd x = some cs) : cellsAs kd (val β x) = some (vals β cs) := by
  cases kd with
  | one t => simp only [xcells] at h; cases h; rfl
  | agg ts =>
    simp only [xcells] at h
    cases x <;> simp only at h <;> try (cases h; done)
    split at h
    · rename_i hb
      cases h
      simp only [cellsAs, val]
      rw [vals_len, hb]
    · cases h
def xover : List XV → Nat → List XV → List XV
  | cs, _, [] => cs
  | [], _, _ :: _ => []
  | _ :: cs, 0, v :: vs => v :: xover cs 0 vs
  | c :: cs, n + 1, v :: vs => c :: xover cs n (v :: vs)
theorem xover_ok {β : As} : ∀ (cs : List XV) (n : Nat) (vs : List XV), vals β (xover cs n vs) = overlay (vals β cs) n (vals β vs)
  | cs, n, [] => by cases cs <;> cases n <;> simp [xover, overlay, vals]
  | [], n, _ :: _ => by simp [xover, overlay, vals]
  | _ :: cs, 0, v :: vs => by simp only [xover, vals, overlay]; rw [xover_ok cs 0 vs]
  | c :: cs, n + 1, v :: vs => by
    have := xover_ok (β := β) cs n (v :: vs)
    simp only [vals] at this
    simp only [xover, vals, overlay]
    rw [this]
def xfill (place : Nat → Option (Nat × Kind)) : List XV → List (Nat × XV) → Option (List XV)
  | cs, [] => some cs
  | cs, (i, v) :: rest => match place i with
    | some (off, kd) => match xcells kd v with
      | some vs => match Nat.ble (off + vs.length) cs.length with
        | true => xfill place (xover cs off vs) rest
        | false => none
      | none => none
    | none => none
def pvals (β : As) (ps : List (Nat × XV)) : List (Nat × Value) := ps.map fun p => (p.1, val β p.2)
theorem xfill_ok {β : As} {place : Nat → Option (Nat × Kind)} : ∀ (ps : List (Nat × XV)) (cs r : List XV), xfill place cs ps = some r → fillAs place (vals β cs) (pvals β ps) = some (vals β r)
  | [], cs, r, h => by simp only [xfill] at h; cases h; rfl
  | (i, v) :: rest, cs, r, h => by
    simp only [xfill] at h
    simp only [pvals, List.map_cons, fillAs]
    split at h
    · rename_i off kd hp
      rw [hp]
      split at h
      · rename_i vs hvs
        split at h
        · rename_i hle
          simp only [xcells_ok (β := β) hvs, vals_len, hle]
          rw [← xover_ok]
          exact xfill_ok rest _ r h
        · cases h
      · cases h
    · cases h
def xreq (place : Nat → Option (Nat × Kind)) : List (Nat × XV) → Bool
  | [] => true
  | (i, v) :: rest => match place i with
    | some (_, kd) => match (match kd with
      | .one tg => xtag tg v
      | .agg _ => true) with
      | true => xreq place rest
      | false => false
    | none => false
theorem reqOne_ok {ρ : Type} {L : List Asn} {Q : ρ → Heap → Prop} {m : HM ρ} {β : As} {kd : Kind} {x : XV} (h : (match kd with | .one tg => xtag tg x | .agg _ => true) = true) (hm : W L m Q) : W L (reqOne kd (val β x) m) Q := by
  cases kd with
  | agg ts => exact hm
  | one tg =>
    simp only at h
    obtain ⟨⟨y, hy⟩, hc⟩ := xtag_ok (β := β) h
    simp only [reqOne]
    split
    · exact W.req hm hc
    · rw [hy]; exact hm
theorem xreq_ok {ρ : Type} {L : List Asn} {Q : ρ → Heap → Prop} {m : HM ρ} {β : As} {place : Nat → Option (Nat × Kind)} : ∀ (ps : List (Nat × XV)), xreq place ps = true → W L m Q → W L (reqParts place (pvals β ps) m) Q
  | [], _, hm => hm
  | (i, v) :: rest, h, hm => by
    simp only [xreq] at h
    simp only [pvals, List.map_cons, reqParts]
    split at h
    · rename_i off kd hp
      rw [hp]
      split at h
      · rename_i hk
        exact reqOne_ok hk (xreq_ok rest h hm)
      · cases h
    · cases h
section
variable {ρ : Type} {L : List Asn} {Q : ρ → Heap → Prop} {k : Value → HM ρ} {P : Program} {β : As}
def xPart (P : Program) (t : TypeId) (cs : List XV) (off : Nat) : Option XV :=
  match P.underlying t with
  | some d => match isAggD d with
    | true => some (.agg ((cs.drop off).take (P.cellsOf t)))
    | false => cs[off]?
  | none => none
theorem xPart_ok {t : TypeId} {cs : List XV} {off : Nat} {x : XV} (h : xPart P t cs off = some x) : partAs P t (vals β cs) off = some (val β x) := by
  unfold xPart at h
  unfold partAs
  split at h
  · rename_i d hd
    rw [hd]
    split at h
    · rename_i ha
      cases h
      simp only [ha, val, vals_map, List.map_take, List.map_drop]
    · rename_i ha
      simp only [ha]
      rw [vals_map, List.getElem?_map, h]
      rfl
  · cases h
def xField (P : Program) (t : TypeId) (x : XV) (f : Nat) : Option XV :=
  match x with
  | .agg cs => match P.underlying t with
    | some (.struct fields) => match fields.toList[f]? with
      | some fd => xPart P fd.type cs fd.offset
      | none => none
    | _ => none
  | _ => none
theorem xField_ok {t : TypeId} {x v : XV} {f : Nat} (h : xField P t x f = some v) (hk : W L (k (val β v)) Q) : W L (denField P t (val β x) f k) Q := by
  unfold xField at h
  split at h
  · split at h
    · rename_i fields ht
      split at h
      · rename_i fd hf
        have := xPart_ok (β := β) h
        simp only [val, denField, ht, hf, this]
        exact hk
      · cases h
    · cases h
  · cases h
def xAdd (x : XV) (n : Nat) : Option XV :=
  match x with
  | .ptr k o => some (.ptr k (o + n))
  | .eptr k o => some (.eptr k (o + n))
  | .gptr k o => some (.gptr k (o + n))
  | _ => none
theorem add_atOff (b o n : Nat) : (atOff b o).add n = atOff b (o + n) := by
  unfold atOff Addr.add
  split
  · rename_i h; subst h; rfl
  · rfl
def xBuild (P : Program) (t : TypeId) (ps : List (Nat × XV)) : Option XV :=
  match P.underlying t with
  | some (.struct fields) => match allInfo P fields.toList with
    | true => match P.info? t with
      | some i => match i.zero with
        | some z => match mapO (ofV 4) z.cells.toList with
          | some zs => match xfill (fieldPlaces P fields) zs ps with
            | some cs => chk (xreq (fieldPlaces P fields) ps) (.agg cs)
            | none => none
          | none => none
        | none => none
      | none => none
    | false => none
  | some (.array _ elem) => match P.info? t with
    | some i => match i.zero with
      | some z => match P.info? elem with
        | some _ => match mapO (ofV 4) z.cells.toList with
          | some zs => match xfill (elemPlaces P elem) zs ps with
            | some cs => chk (xreq (elemPlaces P elem) ps) (.agg cs)
            | none => none
          | none => none
        | none => none
      | none => none
    | none => none
  | _ => none
theorem xBuild_ok {t : TypeId} {ps : List (Nat × XV)} {v : XV} (h : xBuild P t ps = some v) (hk : W L (k (val β v)) Q) : W L (denBuild P t (pvals β ps) k) Q := by
  unfold xBuild at h
  unfold denBuild
  split at h
  · rename_i fields ht
    rw [ht]
    split at h
    · rename_i ha
      split at h
      · rename_i i hi
        split at h
        · rename_i z hz
          split at h
          · rename_i zs hzs
            split at h
            · rename_i cs hcs
              obtain ⟨h1, rfl⟩ := chk_eq h
              have e1 := (mapO_ok (β := β) (fun v x => ofV_ok 4 v x) hzs).1
              have e2 := xfill_ok (β := β) _ _ _ hcs
              rw [e1] at e2
              simp only [ha, hi, hz, e2]
              refine xreq_ok ps h1 ?_
              exact hk
            · cases h
          · cases h
        · cases h
      · cases h
    · cases h
  · rename_i n elem ht
    rw [ht]
    split at h
    · rename_i i hi
      split at h
      · rename_i z hz
        split at h
        · rename_i ie hie
          split at h
          · rename_i zs hzs
            split at h
            · rename_i cs hcs
              obtain ⟨h1, rfl⟩ := chk_eq h
              have e1 := (mapO_ok (β := β) (fun v x => ofV_ok 4 v x) hzs).1
              have e2 := xfill_ok (β := β) _ _ _ hcs
              rw [e1] at e2
              simp only [hi, hz, hie, e2]
              refine xreq_ok ps h1 ?_
              exact hk
            · cases h
          · cases h
        · cases h
      · cases h
    · cases h
  · cases h
end
end Go.X
namespace Go.X
open Go.H
set_option linter.unusedSimpArgs false
set_option linter.unusedVariables false
section
variable {L : List Asn} {β : As} {h : Heap}
theorem look_sat {s : XSt} {k : Nat} {f : XF} (hl : look k s = some f) (hs : sat h (asn β s ++ L)) : ∃ R, sat h (fact β (k, f) :: R) := by
  obtain ⟨r, hr⟩ := look_pick hl
  exact ⟨_, (has_pick hr).s hs⟩
theorem ownX_iff {k size : Nat} {es : List (List XV)} {R : List Asn} : sat h (ownX β k size es :: R) ↔ ∃ xs : List (VS size), (xs.map (·.1) = es.map (vals β) ∧ 0 < size) ∧ sat h (ownS (vsV (size := size)) size (β.s k) xs :: R) := by
  unfold ownX
  rw [sat.ex_iff]
  simp only [sat.star_iff, sat.pr_iff]
theorem own_at {k size i : Nat} {es : List (List XV)} {row : List XV} {R : List Asn} (hs : sat h (ownX β k size es :: R)) (hi : es[i]? = some row) :
    0 < size ∧ row.length = size ∧ (β.s k).len = es.length ∧ ∃ a, (β.s k).a = some a ∧ ∀ j v, (vals β row)[j]? = some v → cellH h ((a.add (i * size)).add j) = some v := by
  obtain ⟨xs, ⟨hx, h0⟩, hs⟩ := ownX_iff.1 hs
  obtain ⟨h1, h2, h3⟩ := hs.own_row (fun x => x.2.1)
  have hlt : i < xs.length := by
    have := congrArg List.length hx
    simp only [List.length_map] at this
    rw [this]
    exact (List.getElem?_eq_some_iff.1 hi).1
  have hxi : xs[i]? = some xs[i] := List.getElem?_eq_getElem hlt
  have he : (xs[i]).1 = vals β row := by
    have e1 := congrArg (fun l : List (List Value) => l[i]?) hx
    simp only [List.getElem?_map, hxi, hi, Option.map_some, Option.some.injEq] at e1
    exact e1
  obtain ⟨a, ha, hc⟩ := h3 i _ hxi
  refine ⟨h0, ?_, ?_, a, ha, fun j v hv => hc j v (by rw [show vsV xs[i] = vals β row from he]; exact hv)⟩
  · have := (xs[i]).2.1
    rw [he, vals_len] at this
    exact this
  · rw [h1]
    have := congrArg List.length hx
    simpa using this
def xCells (s : XSt) (a : XV) : Option (List XV) :=
  match a with
  | .ptr k o => match look k s with
    | some (.cells _ cs) => some (cs.drop o)
    | _ => none
  | .eptr k o => match look k s with
    | some (.own size es) => match es[o / size]? with
      | some row => some (row.drop (o % size))
      | none => none
    | _ => none
  | _ => none
theorem add_add2 (a : Addr) (m n : Nat) : (a.add m).add n = a.add (m + n) := by
  unfold Addr.add
  by_cases hm : m = 0
  · subst hm; simp
  · by_cases hn : n = 0
    · subst hn; simp
    · rw [if_neg hm, if_neg hn, if_neg (by omega)]
      simp [Nat.add_assoc]
theorem xCells_ok {s : XSt} {a : XV} {cs : List XV} (hx : xCells s a = some cs) (hs : sat h (asn β s ++ L)) : ∃ ad, val β a = .pointer (some ad) ∧ ∀ j v, (vals β cs)[j]? = some v → cellH h (ad.add j) = some v := by
  unfold xCells at hx
  split at hx
  · rename_i k o
    split at hx
    · rename_i T cs0 hl
      cases hx
      obtain ⟨R, hs1⟩ := look_sat (L := L) hl hs
      refine ⟨_, rfl, fun j v hv => ?_⟩
      rw [add_atOff]
      have := Go.H.sat.cell (cells_iff.2 ⟨_, hs1⟩) (o + j)
      rw [vals_map] at hv
      simp only [List.map_drop, List.getElem?_drop] at hv
      rw [show atOff (β.b k) (o + j) = ⟨β.b k, o + j, none⟩ from rfl, this]
      simpa [vals_map] using hv
    · cases hx
  · rename_i k o
    split at hx
    · rename_i size es hl
      split at hx
      · rename_i row hr
        cases hx
        obtain ⟨R, hs1⟩ := look_sat (L := L) hl hs
        obtain ⟨h0, h1, h2, a, ha, hc⟩ := own_at hs1 hr
        refine ⟨a.add o, by simp only [val, ha, Option.map_some], fun j v hv => ?_⟩
        have e : o = o / size * size + o % size := by rw [Nat.mul_comm]; exact (Nat.div_add_mod o size).symm
        rw [vals_map] at hv
        simp only [List.map_drop, List.getElem?_drop] at hv
        have := hc (o % size + j) v (by rw [vals_map]; exact hv)
        rw [add_add2] at this ⊢
        rw [show o + j = o / size * size + (o % size + j) by omega]
        exact this
      · cases hx
    · cases hx
  · cases hx
end
section
variable {ρ : Type} {L : List Asn} {Q : ρ → Heap → Prop} {k : Value → HM ρ} {P : Program} {β : As}
def xLoad (P : Program) (t : TypeId) (s : XSt) (a : XV) : Option XV :=
  match P.underlying t with
  | some d => match isAggD d with
    | true => match kindOf P t with
      | some (.agg ts) => match Nat.beq ts.length (P.cellsOf t) with
        | true => match xCells s a with
          | some cs => chk (xtags ts (cs.take ts.length)) (.agg (cs.take ts.length))
          | none => none
        | false => none
      | _ => none
    | false => match kindOf P t with
      | some (.one tg) => match xCells s a with
        | some (x :: _) => chk (xtag tg x) x
        | _ => none
      | _ => none
  | none => none
theorem xLoad_ok {t : TypeId} {s : XSt} {a v : XV} (h : xLoad P t s a = some v) (hk : W (asn β s ++ L) (k (val β v)) Q) : W (asn β s ++ L) (denLoad P t (val β a) k) Q := by
  intro hp hs
  unfold xLoad at h
  split at h
  · rename_i d hd
    split at h
    · rename_i hag
      split at h
      · rename_i ts hkd
        split at h
        · rename_i hbl
          split at h
          · rename_i cs hcs
            obtain ⟨h1, rfl⟩ := chk_eq h
            obtain ⟨ad, ha, hc⟩ := xCells_ok (L := L) hcs hs
            obtain ⟨y, hy, hv⟩ := xtags_ok (β := β) h1
            simp only [denLoad, ha, hd, hag, hkd, hbl]
            refine ⟨y, fun i u hu => ?_, ?_⟩
            · refine hc i u ?_
              rw [hv, vals_map, List.map_take, List.getElem?_take] at hu
              split at hu
              · rw [vals_map]; exact hu
              · cases hu
            · have := hk hp hs
              simp only [val] at this
              rw [← hv] at this
              exact this
          · cases h
        · cases h
      · cases h
    · rename_i hag
      split at h
      · rename_i tg hkd
        split at h
        · rename_i x cs hcs
          obtain ⟨h1, rfl⟩ := chk_eq h
          obtain ⟨ad, ha, hc⟩ := xCells_ok (L := L) hcs hs
          obtain ⟨⟨y, hy⟩, -⟩ := xtag_ok (β := β) h1
          simp only [denLoad, ha, hd, hag, hkd]
          have h0 := hc 0 (val β x) rfl
          rw [add_zero] at h0
          refine ⟨y, by rw [h0, ← Tag.get_val hy], ?_⟩
          have := hk hp hs
          rw [Tag.get_val hy] at this
          exact this
        · cases h
      · cases h
  · cases h
end
end Go.X
namespace Go.X
open Go.H
set_option linter.unusedSimpArgs false
set_option linter.unusedVariables false
section
variable {ρ τ : Type} {L : List Asn} {Q : ρ → Heap → Prop} {k : Value → HM ρ} {P : Program} {β : As}
theorem new_named {cs : Array Value} {T : TypeId} {zs : List XV} {n : Nat} {s : XSt} {f : Nat → HM ρ} (hcl : CloS n s) (hz : ∀ γ, Agr n β γ → (vals γ zs).toArray = cs)
    (hk : ∀ γ, Agr n β γ → W (asn γ (add n (.cells T zs) s) ++ L) (f (γ.b n)) Q) : W (asn β s ++ L) (HM.bind (HM.new (.cells cs T)) f) Q := by
  intro h hs
  refine new_blk hs fun b h' hs' => ?_
  have ha : Agr n β (β.newB n b) := agr_newB
  have hb : (β.newB n b).b n = b := by simp [As.newB]
  have := hk _ ha
  rw [hb] at this
  refine W.sub this ?_ h' hs'
  have e := sub_add (β := β.newB n b) (L := L) hcl (.cells T zs)
  rw [← asn_agr ha hcl] at e
  simp only [fact, hb, hz _ ha] at e
  exact e
def xAlloc (P : Program) (t : TypeId) (n : Nat) (s : XSt) : Option (XV × XSt) :=
  match P.info? t with
  | some i => match i.zero with
    | some z => match mapO (ofV 4) z.cells.toList with
      | some zs => some (.ptr n 0, add n (.cells t zs) s)
      | none => none
    | none => none
  | none => none
theorem xAlloc_ok {t : TypeId} {n : Nat} {s s' : XSt} {v : XV} (h : xAlloc P t n s = some (v, s')) (hcl : CloS n s) (hk : ∀ γ, Agr n β γ → CloS (n + 1) s' → W (asn γ s' ++ L) (k (val γ v)) Q) : W (asn β s ++ L) (denAlloc P t k) Q := by
  unfold xAlloc at h
  split at h
  · rename_i i hi
    split at h
    · rename_i z hz
      split at h
      · rename_i zs hzs
        cases h
        simp only [denAlloc, hi, hz]
        have hc := (mapO_ok (β := β) (fun v x => ofV_ok 4 v x) hzs).2
        refine new_named hcl (fun γ _ => ?_) (fun γ hγ => hk γ hγ (hcl.new (hc _)))
        rw [(mapO_ok (β := γ) (fun v x => ofV_ok 4 v x) hzs).1]
      · cases h
    · cases h
  · cases h
def xBox (P : Program) (t : TypeId) (v : XV) (n : Nat) (s : XSt) : Option (XV × XSt) :=
  match kindOf P t with
  | some kd => match xcells kd v with
    | some cs => match (match kd with
      | .one tg => xtag tg v
      | .agg _ => true) with
      | true => match clos n cs with
        | true => some (.ptr n 0, add n (.cells t cs) s)
        | false => none
      | false => none
    | none => none
  | none => none
theorem xBox_ok {t : TypeId} {n : Nat} {s s' : XSt} {x v : XV} (h : xBox P t x n s = some (v, s')) (hcl : CloS n s) (hk : ∀ γ, Agr n β γ → CloS (n + 1) s' → W (asn γ s' ++ L) (k (val γ v)) Q) : W (asn β s ++ L) (denBox P t (val β x) k) Q := by
  unfold xBox at h
  split at h
  · rename_i kd hkd
    split at h
    · rename_i cs hcs
      split at h
      · rename_i hr
        split at h
        · rename_i hc
          cases h
          simp only [denBox, hkd, xcells_ok (β := β) hcs]
          refine reqOne_ok hr ?_
          refine new_named hcl (fun γ hγ => by rw [vals_agr hγ cs hc]) (fun γ hγ => hk γ hγ (hcl.new (clos_mono (Nat.le_succ _) cs hc)))
        · cases h
      · cases h
    · cases h
  · cases h
def xMap (n : Nat) (s : XSt) (ks : Nat) : XV × XSt :=
  (.map n, add n (match ks with
    | 0 => .mapI []
    | 1 => .mapS []
    | _ => .mapT []) s)
theorem xMap_ok {n ks : Nat} {s : XSt} (hcl : CloS n s) (hk : ∀ γ, Agr n β γ → CloS (n + 1) (xMap n s ks).2 → W (asn γ (xMap n s ks).2 ++ L) (k (val γ (xMap n s ks).1)) Q) :
    W (asn β s ++ L) (HM.bind (HM.new (.map #[] 0)) fun r => k (.map (some r))) Q := by
  have go : ∀ f : XF, cloF (n + 1) f = true → (∀ b h R, sat h (blk b (.map #[] 0) :: R) → sat h (fact (β.newB n b) (n, f) :: R)) →
      (∀ γ, Agr n β γ → CloS (n + 1) (add n f s) → W (asn γ (add n f s) ++ L) (k (.map (some (γ.b n)))) Q) → W (asn β s ++ L) (HM.bind (HM.new (.map #[] 0)) fun r => k (.map (some r))) Q := by
    intro f hf hmk hk h hs
    refine new_blk hs fun b h' hs' => ?_
    have ha : Agr n β (β.newB n b) := agr_newB
    have hb : (β.newB n b).b n = b := by simp [As.newB]
    have := hk _ ha (hcl.new hf)
    rw [hb] at this
    refine this h' ?_
    refine (sub_add (β := β.newB n b) (L := L) hcl f).s ?_
    rw [← asn_agr ha hcl]
    exact hmk b h' _ hs'
  have hb : ∀ b, (β.newB n b).b n = b := fun b => by simp [As.newB]
  have mk : ∀ {K : Type} {ek : K → Value} {ev : XV → Value} {b : Nat} {h : Heap} {R : List Asn}, sat h (blk b (.map #[] 0) :: R) → sat h (mapA ek ev b [] :: R) := fun hs => mapA_iff.2 ⟨#[], 0, ⟨rfl, Go.MapKept.stamped_empty 0⟩, hs⟩
  match ks, hk with
  | 0, hk => exact go (.mapI []) rfl (fun b h R hs => by simp only [fact, hb]; exact mk hs) hk
  | 1, hk => exact go (.mapS []) rfl (fun b h R hs => by simp only [fact, hb]; exact mk hs) hk
  | _ + 2, hk => exact go (.mapT []) rfl (fun b h R hs => by simp only [fact, hb]; exact mk hs) hk
end
end Go.X
namespace Go.X
open Go.H
set_option linter.unusedSimpArgs false
set_option linter.unusedVariables false
def xone : XV → Bool
  | .agg _ => false
  | .tup _ => false
  | _ => true
theorem xone_ok {β : As} {x : XV} (h : xone x = true) : (val β x).oneCell' = true := by cases x <;> first | rfl | cases h
def xones : List XV → Bool
  | [] => true
  | x :: xs => match xone x with
    | true => xones xs
    | false => false
theorem xones_ok {β : As} : ∀ {l : List XV}, xones l = true → ∀ v ∈ vals β l, v.oneCell' = true
  | [], _, v, hv => by cases hv
  | x :: l, h, v, hv => by
    simp only [xones] at h
    split at h
    · rename_i hx
      simp only [vals] at hv
      rcases List.mem_cons.1 hv with rfl | hv
      · exact xone_ok hx
      · exact xones_ok h v hv
    · cases h
theorem clos_iff {n : Nat} : ∀ {l : List XV}, clos n l = true ↔ ∀ x ∈ l, clo n x = true
  | [] => by simp [clos]
  | x :: l => by
    simp only [clos]
    have := clos_iff (n := n) (l := l)
    split
    · rename_i h; simp [h, this]
    · rename_i h
      constructor
      · intro h2; cases h2
      · intro h2; have := h2 x (List.mem_cons_self ..); rw [h] at this; cases this
section
variable {ρ τ : Type} {L : List Asn} {Q : ρ → Heap → Prop} {k : Value → HM ρ} {P : Program} {β : As}
def xput (old : List XV) (o : Nat) (cs : List XV) : List XV := old.take o ++ (cs ++ old.drop (o + cs.length))
theorem xput_vals (old : List XV) (o : Nat) (cs : List XV) : vals β (xput old o cs) = (vals β old).take o ++ (vals β cs ++ (vals β old).drop (o + (vals β cs).length)) := by
  simp only [xput, vals_map, List.map_append, List.map_take, List.map_drop, List.length_map]
theorem xput_clos {n : Nat} {old cs : List XV} {o : Nat} (h1 : clos n old = true) (h2 : clos n cs = true) : clos n (xput old o cs) = true := by
  rw [clos_iff] at *
  intro x hx
  simp only [xput, List.mem_append] at hx
  rcases hx with hx | hx | hx
  · exact h1 x (List.mem_of_mem_take hx)
  · exact h2 x hx
  · exact h1 x (List.mem_of_mem_drop hx)
theorem store_named {n j o T : Nat} {s r : XSt} {old cs : List XV} {f : Unit → HM ρ} (hp : pick j s = some (.cells T old, r)) (hl : o + cs.length ≤ old.length) (h1 : xones cs = true)
    (hk : W (asn β (back j (.cells T (xput old o cs)) r) ++ L) (f ()) Q) : W (asn β s ++ L) (HM.bind (HM.storeN (atOff (β.b j) o) (vals β cs)) f) Q := by
  intro h hs
  have hs1 := (has_pick (β := β) (L := L) hp).s hs
  have hs1' : sat h (blk (β.b j) (.cells (vals β old).toArray T (0, 0)) :: (asn β r ++ L)) := hs1
  have hl' : o + (vals β cs).length ≤ (vals β old).toArray.size := by simp only [vals_len, List.size_toArray]; exact hl
  refine ⟨cells_set_ok (cells_iff.2 ⟨_, hs1'⟩) hl' (xones_ok h1), ?_⟩
  obtain ⟨cs', e1, e2, hs2⟩ := blk_sets (vals β cs) (vals β old).toArray o 0 hs1' (by omega)
  refine hk _ ?_
  refine (sub_back (β := β) (L := L) hp _).s ?_
  show sat _ (blk (β.b j) (.cells (vals β (xput old o cs)).toArray T (0, 0)) :: (asn β r ++ L))
  have : cs' = (vals β (xput old o cs)).toArray := by
    apply Array.toList_inj.1
    rw [e2, xput_vals]
    simp
  rw [this] at hs2
  exact hs2
theorem store1_N {a : Addr} {v : Value} {f : Unit → HM ρ} (h : W L (HM.bind (HM.storeN a [v]) f) Q) : W L (HM.bind (HM.store1 a v) f) Q := by
  intro hp hs
  obtain ⟨h1, h2⟩ := h hp hs
  obtain ⟨a1, a2, a3⟩ := h1 0 v rfl
  rw [add_zero] at a1 a2
  refine ⟨a1, a2, a3, ?_⟩
  simp only [setCellsH, add_zero] at h2
  exact h2
def xStore (P : Program) (t : TypeId) (n : Nat) (s : XSt) (a v : XV) : Option XSt :=
  match kindOf P t with
  | some kd => match xcells kd v with
    | some cs => match Nat.beq cs.length (P.cellsOf t) with
      | true => match xones cs with
        | true => match clos n cs with
          | true => match a with
            | .ptr j o => match pick j s with
              | some (.cells T old, r) => match Nat.ble (o + cs.length) old.length with
                | true => some (back j (.cells T (xput old o cs)) r)
                | false => none
              | _ => none
            | _ => none
          | false => none
        | false => none
      | false => none
    | none => none
  | none => none
theorem xStore_ok {t : TypeId} {n : Nat} {s s' : XSt} {a v : XV} (h : xStore P t n s a v = some s') (hcl : CloS n s) (hk : CloS n s' → W (asn β s' ++ L) (k undef) Q) : W (asn β s ++ L) (denStore P t (val β a) (val β v) k) Q := by
  unfold xStore at h
  split at h
  · rename_i kd hkd
    split at h
    · rename_i cs hcs
      split at h
      · rename_i hbl
        split at h
        · rename_i h1
          split at h
          · rename_i hc
            split at h
            · rename_i j o
              split at h
              · rename_i T old r hp
                split at h
                · rename_i hle
                  cases h
                  have hcl' : CloS n (back j (.cells T (xput old o cs)) r) := hcl.put hp (xput_clos (hcl _ _ (pick_mem hp).1).2 hc)
                  have hbl' : Nat.beq (vals β cs).length (P.cellsOf t) = true := by rw [vals_len]; exact hbl
                  simp only [val, denStore, hkd, xcells_ok (β := β) hcs, hbl']
                  cases kd with
                  | one tg =>
                    simp only [xcells] at hcs
                    cases hcs
                    refine store1_N ?_
                    exact store_named (n := n) (cs := [v]) hp (Nat.le_of_ble_eq_true hle) h1 (hk hcl')
                  | agg ts =>
                    exact store_named (n := n) hp (Nat.le_of_ble_eq_true hle) h1 (hk hcl')
                · cases h
              · cases h
            · cases h
          · cases h
        · cases h
      · cases h
    · cases h
  · cases h
def xIsAd (s : XSt) : XV → Bool
  | .ptr _ _ => true
  | .gptr _ _ => true
  | .eptr j o => match look j s with
    | some (.own size es) => Nat.blt (o / size) es.length
    | _ => false
  | _ => false
theorem xIsAd_ok {s : XSt} {a b : XV} {n : Nat} {h : Heap} (h1 : xIsAd s a = true) (h2 : xAdd a n = some b) (hs : sat h (asn β s ++ L)) : ∃ ad, val β a = .pointer (some ad) ∧ val β b = .pointer (some (ad.add n)) := by
  cases a <;> simp only [xIsAd] at h1 <;> try (cases h1; done)
  · cases h2; exact ⟨_, rfl, by simp only [val, add_atOff]⟩
  · rename_i j o
    split at h1
    · rename_i size es hl
      cases h2
      obtain ⟨R, hs1⟩ := look_sat (L := L) hl hs
      have hlt : o / size < es.length := by simpa using h1
      obtain ⟨-, -, -, ad, ha, -⟩ := own_at hs1 (List.getElem?_eq_getElem hlt)
      exact ⟨ad.add o, by simp only [val, ha, Option.map_some], by simp only [val, ha, Option.map_some, add_add2]⟩
    · cases h1
  · cases h2; exact ⟨_, rfl, by simp only [val, add_atOff]⟩
def xFieldAddr (P : Program) (t : TypeId) (s : XSt) (a : XV) (f : Nat) : Option XV :=
  match P.underlying t with
  | some (.struct fields) => match fields.toList[f]? with
    | some fd => match Nat.ble 1 (P.cellsOf fd.type) with
      | true => match xIsAd s a with
        | true => xAdd a fd.offset
        | false => none
      | false => none
    | none => none
  | _ => none
theorem xFieldAddr_ok {t : TypeId} {s : XSt} {a v : XV} {f : Nat} (h : xFieldAddr P t s a f = some v) (hk : W (asn β s ++ L) (k (val β v)) Q) : W (asn β s ++ L) (denFieldAddr P t (val β a) f k) Q := by
  intro hp hs
  unfold xFieldAddr at h
  split at h
  · rename_i fields ht
    split at h
    · rename_i fd hf
      split at h
      · rename_i hc
        split at h
        · rename_i h1
          obtain ⟨ad, e1, e2⟩ := xIsAd_ok (L := L) h1 h hs
          have := hk hp hs
          rw [e2] at this
          simp only [e1, denFieldAddr, ht, hf, hc]
          exact this
        · cases h
      · cases h
    · cases h
  · cases h
def xNilCheck (s : XSt) (a : XV) : Option XV :=
  match a with
  | .func f first cap => some (.func f first cap)
  | a => chk (xIsAd s a) a
theorem xNilCheck_ok {s : XSt} {a v : XV} (h : xNilCheck s a = some v) (hk : W (asn β s ++ L) (k (val β v)) Q) : W (asn β s ++ L) (denNilCheck (val β a) k) Q := by
  intro hp hs
  unfold xNilCheck at h
  split at h
  · cases h; exact hk hp hs
  · rename_i hn
    obtain ⟨h1, rfl⟩ := chk_eq h
    obtain ⟨b, hb⟩ : ∃ b, xAdd a 0 = some b := by
      cases a <;> simp only [xIsAd] at h1 <;> first | (cases h1; done) | exact ⟨_, rfl⟩
    obtain ⟨ad, e1, -⟩ := xIsAd_ok (L := L) h1 hb hs
    have := hk hp hs
    rw [e1] at this ⊢
    exact ⟨ad, rfl, this⟩
end
end Go.X
namespace Go.X
open Go.H
set_option linter.unusedSimpArgs false
set_option linter.unusedVariables false
section
variable {ρ τ : Type} {L : List Asn} {Q : ρ → Heap → Prop} {k : Value → HM ρ} {P : Program} {β : As}
theorem own_len {j size : Nat} {es : List (List XV)} {R : List Asn} {h : Heap} (hs : sat h (ownX β j size es :: R)) : (β.s j).len = es.length := by
  obtain ⟨xs, ⟨hx, h0⟩, hs⟩ := ownX_iff.1 hs
  rw [hs.own_len]
  have := congrArg List.length hx
  simpa using this
def xIndexAddr (P : Program) (t : TypeId) (s : XSt) (x i : XV) : Option XV :=
  match i with
  | .int _ (.ofNat n) => match P.underlying t with
    | some (.slice elem) => match x with
      | .slc j => match P.info? elem with
        | some inf => match look j s with
          | some (.own size es) => match Nat.beq size inf.size with
            | true => match Nat.blt n es.length with
              | true => some (.eptr j (n * inf.size))
              | false => none
            | false => none
          | _ => none
        | none => none
      | _ => none
    | some (.array len elem) => match P.info? elem with
      | some inf => match Nat.blt n len with
        | true => match xIsAd s x with
          | true => xAdd x (n * inf.size)
          | false => none
        | false => none
      | none => none
    | _ => none
  | _ => none
theorem xIndexAddr_ok {t : TypeId} {s : XSt} {x i v : XV} (h : xIndexAddr P t s x i = some v) (hk : W (asn β s ++ L) (k (val β v)) Q) : W (asn β s ++ L) (denIndexAddr P t (val β x) (val β i) k) Q := by
  intro hp hs
  unfold xIndexAddr at h
  split at h
  · rename_i ki n
    split at h
    · rename_i elem ht
      split at h
      · rename_i j
        split at h
        · rename_i inf hi
          split at h
          · rename_i size es hl
            split at h
            · rename_i hb
              split at h
              · rename_i hlt
                cases h
                have hlt' : n < es.length := by simpa using hlt
                obtain ⟨R, hs1⟩ := look_sat (L := L) hl hs
                obtain ⟨h0, -, hlen, ad, ha, -⟩ := own_at hs1 (List.getElem?_eq_getElem hlt')
                have := hk hp hs
                simp only [val, ha, Option.map_some] at this
                simp only [val, denIndexAddr, ht, hi]
                exact ⟨ad, ha, Int.natCast_nonneg _, by rw [hlen]; exact Int.ofNat_lt.2 hlt', this⟩
              · cases h
            · cases h
          · cases h
        · cases h
      · cases h
    · rename_i len elem ht
      split at h
      · rename_i inf hi
        split at h
        · rename_i hlt
          split at h
          · rename_i h1
            have hlt' : n < len := by simpa using hlt
            obtain ⟨ad, e1, e2⟩ := xIsAd_ok (L := L) h1 h hs
            have := hk hp hs
            rw [e2] at this
            rw [e1]
            simp only [val, denIndexAddr, ht, hi]
            exact ⟨ad, rfl, Int.natCast_nonneg _, Int.ofNat_lt.2 hlt', this⟩
          · cases h
        · cases h
      · cases h
    · cases h
  · cases h
def xIndex (P : Program) (t : TypeId) (x i : XV) : Option XV :=
  match i with
  | .int _ (.ofNat n) => match P.underlying t with
    | some .string => match x with
      | .str b => match b[n]? with
        | some c => some (.int .u8 (c.toNat : Int))
        | none => none
      | _ => none
    | _ => none
  | _ => none
theorem xIndex_ok {t : TypeId} {x i v : XV} (h : xIndex P t x i = some v) (hk : W L (k (val β v)) Q) : W L (denIndex P t (val β x) (val β i) k) Q := by
  intro hp hs
  unfold xIndex at h
  split at h
  · rename_i ki n
    split at h
    · rename_i ht
      split at h
      · rename_i b
        split at h
        · rename_i c hc
          cases h
          simp only [val, denIndex, ht]
          exact ⟨c, Int.natCast_nonneg _, hc, hk hp hs⟩
        · cases h
      · cases h
    · cases h
  · cases h
def xBnd (x : Option Int) (d : Nat) : Option Nat :=
  match x with
  | none => some d
  | some (.ofNat n) => some n
  | some _ => none
theorem xBnd_ok {x : Option Int} {d m b : Nat} {p : Prop} (h : xBnd x d = some m) (hb : m ≤ b) (hp : m = d → p) : optLe x p m b := by
  cases x with
  | none => cases h; exact hp rfl
  | some i =>
    cases i with
    | ofNat n => cases h; exact ⟨rfl, hb⟩
    | negSucc n => cases h
def xSubstr (b : ByteArray) (lo hi : Option Int) : Option XV :=
  match xBnd hi b.size with
  | some hh => match xBnd lo 0 with
    | some l => match Nat.ble hh b.size with
      | true => match Nat.ble l hh with
        | true => some (.str (b.extract l hh))
        | false => none
      | false => none
    | none => none
  | none => none
theorem xSubstr_ok {b : ByteArray} {lo hi : Option Int} {v : XV} {f : ByteArray → HM ρ} (h : xSubstr b lo hi = some v) (hk : ∀ r, v = .str r → W L (f r) Q) : W L (HM.bind (HM.substr b lo hi) f) Q := by
  intro hp hs
  unfold xSubstr at h
  split at h
  · rename_i hh h1
    split at h
    · rename_i l h2
      split at h
      · rename_i h3
        split at h
        · rename_i h4
          cases h
          exact ⟨l, hh, xBnd_ok h1 (Nat.le_of_ble_eq_true h3) id, xBnd_ok h2 (Nat.le_of_ble_eq_true h4) id, hk _ rfl hp hs⟩
        · cases h
      · cases h
    · cases h
  · cases h
def xLen (P : Program) (ts : List TypeId) (s : XSt) (vs : List XV) : Option XV :=
  match ts, vs with
  | [t], [x] => match P.underlying t with
    | some .string => match x with
      | .str b => some (.int .i64 (b.size : Int))
      | _ => none
    | some (.slice _) => match x with
      | .nslc => some (.int .i64 0)
      | .slc j => match look j s with
        | some (.own _ es) => some (.int .i64 (es.length : Int))
        | some (.buf _ bs) => some (.int .i64 (bs.length : Int))
        | _ => none
      | _ => none
    | some (.array n _) => some (.int .i64 (n : Int))
    | some (.map _ _) => match x with
      | .nmap => some (.int .i64 0)
      | .map j => match look j s with
        | some (.mapI es) => some (.int .i64 (es.length : Int))
        | some (.mapS es) => some (.int .i64 (es.length : Int))
        | some (.mapT es) => some (.int .i64 (es.length : Int))
        | some (.walkI _ es _ _) => some (.int .i64 (es.length : Int))
        | some (.walkS _ es _ _) => some (.int .i64 (es.length : Int))
        | _ => none
      | _ => none
    | _ => none
  | _, _ => none
theorem xLen_ok {ts : List TypeId} {s : XSt} {vs : List XV} {v : XV} (h : xLen P ts s vs = some v) (hk : W (asn β s ++ L) (k (val β v)) Q) : W (asn β s ++ L) (denLen P ts (vals β vs) k) Q := by
  intro hp hs
  unfold xLen at h
  split at h
  · rename_i t x
    simp only [vals]
    split at h
    · rename_i ht
      split at h
      · cases h; simp only [val, denLen, ht]; exact hk hp hs
      · cases h
    · rename_i e ht
      split at h
      · cases h; simp only [val, denLen, ht]; exact hk hp hs
      · rename_i j
        split at h
        · rename_i size es hl
          cases h
          obtain ⟨R, hs1⟩ := look_sat (L := L) hl hs
          have := own_len hs1
          simp only [val, denLen, ht, this]
          exact hk hp hs
        · rename_i T bs hl
          cases h
          obtain ⟨R, hs1⟩ := look_sat (L := L) hl hs
          have hlen : (β.s j).len = bs.length := by
            rcases bufA_cases (show sat hp (bufA T (β.s j) bs :: R) from hs1) with ⟨h1, h2, -⟩ | ⟨g, cur, hf, -⟩
            · rw [h1, h2]; rfl
            · exact hf.len
          simp only [val, denLen, ht, hlen]
          exact hk hp hs
        · cases h
      · cases h
    · rename_i n e ht
      cases h
      simp only [denLen, ht]
      exact hk hp hs
    · rename_i a b ht
      split at h
      · cases h
        simp only [val, denLen, ht]
        exact ⟨[], 0, ⟨rfl, rfl⟩, hk hp hs⟩
      · rename_i j
        split at h
        · rename_i es hl
          cases h
          obtain ⟨R, hs1⟩ := look_sat (L := L) hl hs
          simp only [val, denLen, ht]
          exact len_map hs1 (hk hp hs)
        · rename_i es hl
          cases h
          obtain ⟨R, hs1⟩ := look_sat (L := L) hl hs
          simp only [val, denLen, ht]
          exact len_map hs1 (hk hp hs)
        · rename_i es hl
          cases h
          obtain ⟨R, hs1⟩ := look_sat (L := L) hl hs
          simp only [val, denLen, ht]
          exact len_map hs1 (hk hp hs)
        · rename_i es _ _ hl
          cases h
          obtain ⟨R, hs1⟩ := look_sat (L := L) hl hs
          simp only [val, denLen, ht]
          exact len_map (itA_map hs1) (hk hp hs)
        · rename_i es _ _ hl
          cases h
          obtain ⟨R, hs1⟩ := look_sat (L := L) hl hs
          simp only [val, denLen, ht]
          exact len_map (itA_map hs1) (hk hp hs)
        · cases h
      · cases h
    · cases h
  · cases h
def xMinMax (mx : Bool) (vs : List XV) : Option XV :=
  match vs with
  | [.int ka a, .int kb b] => match ikEq ka kb with
    | true => match mx with
      | true => some (.int ka (if a < b then b else a))
      | false => some (.int ka (if b < a then b else a))
    | false => none
  | _ => none
theorem xMinMax_ok {mx : Bool} {vs : List XV} {v : XV} (h : xMinMax mx vs = some v) (hk : W L (k (val β v)) Q) : W L (denMinMax mx (vals β vs) k) Q := by
  unfold xMinMax at h
  split at h
  · rename_i ka a kb b
    split at h
    · rename_i hik
      simp only [vals, val, denMinMax, hik]
      cases mx <;> (cases h; exact hk)
    · cases h
  · cases h
end
end Go.X
namespace Go.X
open Go.H
set_option linter.unusedSimpArgs false
set_option linter.unusedVariables false
section
variable {ρ τ : Type} {L : List Asn} {Q : ρ → Heap → Prop} {k : Value → HM ρ} {P : Program} {β : As}
theorem cloR_iff {n : Nat} : ∀ {l : List (List XV)}, cloR n l = true ↔ ∀ x ∈ l, clos n x = true
  | [] => by simp [cloR]
  | x :: l => by
    simp only [cloR]
    have := cloR_iff (n := n) (l := l)
    split
    · rename_i h; simp [h, this]
    · rename_i h
      constructor
      · intro h2; cases h2
      · intro h2; have := h2 x (List.mem_cons_self ..); rw [h] at this; cases this
theorem sat_named {n size : Nat} {r : XSt} {sl : Slc} {xs : List (VS size)} {es : List (List XV)} {h : Heap} (hcl : CloS n r) (hx : xs.map (·.1) = es.map (vals β)) (hc : cloR n es = true) (h0 : 0 < size)
    (hs : sat h (ownS (vsV (size := size)) size sl xs :: (asn β r ++ L))) : sat h (asn (β.newS n sl) (add n (.own size es) r) ++ L) := by
  have ha : Agr n β (β.newS n sl) := agr_newS
  refine (sub_add (β := β.newS n sl) (L := L) hcl _).s ?_
  show sat h (ownX (β.newS n sl) n size es :: (asn (β.newS n sl) r ++ L))
  rw [← asn_agr ha hcl]
  have hb : (β.newS n sl).s n = sl := by simp [As.newS]
  refine ownX_iff.2 ⟨xs, ⟨?_, h0⟩, by rw [hb]; exact hs⟩
  rw [hx]
  exact cloR_agr ha hc
def xTake (size : Nat) (s : XSt) (x : XV) : Option (List (List XV) × XSt) :=
  match x with
  | .nslc => some ([], s)
  | .slc j => match pick j s with
    | some (.own sz es, r) => match Nat.beq sz size with
      | true => some (es, r)
      | false => none
    | _ => none
  | _ => none
theorem xTake_ok {size n : Nat} {s r : XSt} {x : XV} {es : List (List XV)} {h : Heap} (hx : xTake size s x = some (es, r)) (hcl : CloS n s) (h0 : 0 < size) (hs : sat h (asn β s ++ L)) :
    CloS n r ∧ cloR n es = true ∧ ∃ (sl : Slc) (xs : List (VS size)), val β x = .slice sl.a sl.len sl.cap ∧ xs.map (·.1) = es.map (vals β) ∧ sat h (ownS (vsV (size := size)) size sl xs :: (asn β r ++ L)) := by
  unfold xTake at hx
  split at hx
  · cases hx
    exact ⟨hcl, rfl, ⟨none, 0, 0⟩, [], rfl, rfl, ownS_nil hs⟩
  · rename_i j
    split at hx
    · rename_i sz es' r' hp
      split at hx
      · rename_i hb
        cases hx
        have := Nat.eq_of_beq_eq_true hb
        subst this
        obtain ⟨hm, hr⟩ := pick_mem hp
        refine ⟨fun k f hk => hcl k f (hr _ _ hk), (hcl _ _ hm).2, β.s j, ?_⟩
        have hs1 : sat h (ownX β j sz es :: (asn β r ++ L)) := (has_pick (L := L) hp).s hs
        obtain ⟨xs, ⟨hx, -⟩, hs2⟩ := ownX_iff.1 hs1
        exact ⟨xs, rfl, hx, hs2⟩
      · cases hx
    · cases hx
  · cases hx
def xSlice (P : Program) (t : TypeId) (n : Nat) (s : XSt) (x : XV) (lo hi mx : Option Int) : Option (XV × Nat × XSt) :=
  match P.underlying t with
  | some .string => match x with
    | .str b => match mx with
      | none => match xSubstr b lo hi with
        | some v => some (v, n, s)
        | none => none
      | some _ => none
    | _ => none
  | some (.slice elem) => match P.info? elem with
    | some inf => match mx with
      | none => match xTake inf.size s x with
        | some (es, r) => match xBnd hi es.length with
          | some hh => match xBnd lo 0 with
            | some l => match Nat.ble l hh with
              | true => match Nat.ble hh es.length with
                | true => match Nat.ble 1 inf.size with
                  | true => some (.slc n, n + 1, add n (.own inf.size ((es.take hh).drop l)) r)
                  | false => none
                | false => none
              | false => none
            | none => none
          | none => none
        | none => none
      | some _ => none
    | none => none
  | _ => none
theorem xSlice_ok {t : TypeId} {n n' : Nat} {s s' : XSt} {x v : XV} {lo hi mx : Option Int} (h : xSlice P t n s x lo hi mx = some (v, n', s')) (hcl : CloS n s)
    (hk : ∀ γ, Agr n β γ → n ≤ n' → CloS n' s' → W (asn γ s' ++ L) (k (val γ v)) Q) : W (asn β s ++ L) (denSlice P t (val β x) lo hi mx k) Q := by
  unfold xSlice at h
  split at h
  · rename_i ht
    split at h
    · rename_i b
      split at h
      · split at h
        · rename_i u hu
          cases h
          simp only [val, denSlice, ht]
          refine xSubstr_ok hu fun r hr => ?_
          subst hr
          exact hk β Agr.rfl (Nat.le_refl _) hcl
        · cases h
      · cases h
    · cases h
  · rename_i elem ht
    split at h
    · rename_i inf hi'
      split at h
      · split at h
        · rename_i es r htk
          split at h
          · rename_i hh h1
            split at h
            · rename_i l h2
              split at h
              · rename_i h3
                split at h
                · rename_i h4
                  split at h
                  · rename_i h5
                    cases h
                    intro hp hs
                    have h3' := Nat.le_of_ble_eq_true h3
                    have h4' := Nat.le_of_ble_eq_true h4
                    have h5' := Nat.le_of_ble_eq_true h5
                    obtain ⟨c1, c2, sl, xs, e1, e2, hs1⟩ := xTake_ok (L := L) htk hcl h5' hs
                    have hxl : xs.length = es.length := by have := congrArg List.length e2; simpa using this
                    have hle := hs1.own_len
                    have hcap := hs1.own_le
                    have hb9 : hh ≤ sl.cap := by omega
                    rw [e1]
                    simp only [denSlice, ht, hi']
                    refine slice_own (mx := none) hs1 (fun x => x.2.1) h3' (by rw [hxl]; exact h4') (xBnd_ok h2 h3' id) (xBnd_ok h1 hb9 (fun e => by rw [e, hle, hxl])) fun s9 hs9 => ?_
                    have hc9 : cloR n ((es.take hh).drop l) = true := by
                      rw [cloR_iff] at c2 ⊢
                      exact fun y hy => c2 y (List.mem_of_mem_take (List.mem_of_mem_drop hy))
                    have hs10 := sat_named (L := L) c1 (xs := (xs.take hh).drop l) (es := (es.take hh).drop l) (by rw [List.map_drop, List.map_take, e2, List.map_drop, List.map_take]) hc9 h5' hs9
                    have := hk (β.newS n s9) agr_newS (Nat.le_succ _) (c1.new (g := .own inf.size ((es.take hh).drop l)) (cloR_mono (Nat.le_succ _) hc9)) hp hs10
                    simp only [val, As.newS, if_true] at this
                    exact this
                  · cases h
                · cases h
              · cases h
            · cases h
          · cases h
        · cases h
      · cases h
    · cases h
  · cases h
end
end Go.X
namespace Go.X
open Go.H
set_option linter.unusedSimpArgs false
set_option linter.unusedVariables false
section
variable {ρ τ : Type} {L : List Asn} {Q : ρ → Heap → Prop} {k : Value → HM ρ} {P : Program} {β : As}
def byteX : List UInt8 → List (List XV)
  | [] => []
  | b :: r => [.int .u8 (b.toNat : Int)] :: byteX r
theorem byteX_ok : ∀ (l : List UInt8), (byteX l).map (vals β) = l.map fun b => [Value.int .u8 (b.toNat : Int)]
  | [] => rfl
  | b :: r => by simp only [byteX, List.map_cons]; rw [byteX_ok r]; rfl
theorem byteX_len : ∀ (l : List UInt8), (byteX l).length = l.length
  | [] => rfl
  | b :: r => by simp only [byteX, List.length_cons]; rw [byteX_len r]
def xSrc (P : Program) (u : TypeId) (size : Nat) (s : XSt) (y : XV) : Option (List (List XV)) :=
  match P.underlying u with
  | some (.slice _) => match y with
    | .nslc => some []
    | .slc j => match look j s with
      | some (.own sz es) => match Nat.beq sz size with
        | true => some es
        | false => none
      | _ => none
    | _ => none
  | some .string => match y with
    | .str b => match Nat.beq size 1 with
      | true => some (byteX b.data.toList)
      | false => none
    | _ => none
  | _ => none
theorem rows_of {size : Nat} {es : List (List XV)} (h : ∀ l ∈ es, l.length = size ∧ ∀ v ∈ vals β l, v.oneCell' = true) : ∃ xs : List (VS size), xs.map (·.1) = es.map (vals β) := by
  induction es with
  | nil => exact ⟨[], rfl⟩
  | cons l es ih =>
    obtain ⟨xs, hx⟩ := ih fun l hl => h l (List.mem_cons_of_mem _ hl)
    obtain ⟨h1, h2⟩ := h l (List.mem_cons_self ..)
    exact ⟨⟨vals β l, by rw [vals_len]; exact h1, h2⟩ :: xs, by simp only [List.map_cons]; rw [hx]⟩
theorem flat_of {size : Nat} {xs : List (VS size)} {es : List (List XV)} (h : xs.map (·.1) = es.map (vals β)) : xs.flatMap vsV = (es.map (vals β)).flatten := by
  rw [← h]; rfl
def xAppend (P : Program) (ts : List TypeId) (n : Nat) (s : XSt) (vs : List XV) : Option (XV × XSt) :=
  match ts, vs with
  | [t, u], [x, y] => match P.underlying t with
    | some (.slice elem) => match P.info? elem with
      | some i => match i.zero with
        | some z => match Nat.beq z.cells.toList.length i.size with
          | true => match Nat.ble 1 i.size with
            | true => match Nat.ble 1 i.bytes with
              | true => match xTake i.size s x with
                | some (es, r) => match xSrc P u i.size r y with
                  | some rows => match Nat.ble ((es.length + rows.length) * i.bytes) 140737488355328 with
                    | true => match cloR n rows with
                      | true => some (.slc n, add n (.own i.size (es ++ rows)) r)
                      | false => none
                    | false => none
                  | none => none
                | none => none
              | false => none
            | false => none
          | false => none
        | none => none
      | none => none
    | _ => none
  | _, _ => none
theorem xSrc_ok {u : TypeId} {size : Nat} {s : XSt} {y : XV} {rows : List (List XV)} {h : Heap} (hx : xSrc P u size s y = some rows) (h0 : 0 < size) (hs : sat h (asn β s ++ L)) :
    ∃ ys : List (VS size), ys.map (·.1) = rows.map (vals β) ∧
      ((∃ e b m d, P.underlying u = some (.slice e) ∧ val β y = .slice b m d ∧ m = rows.length ∧ srcSlc size ⟨b, m, d⟩ h (ys.flatMap vsV).toArray) ∨
       (∃ b, P.underlying u = some .string ∧ val β y = .string b ∧ b.size = rows.length ∧ srcStr b h (ys.flatMap vsV).toArray)) := by
  unfold xSrc at hx
  split at hx
  · rename_i e hu
    split at hx
    · cases hx
      refine ⟨[], rfl, .inl ⟨e, none, 0, 0, hu, rfl, rfl, ?_⟩⟩
      rfl
    · rename_i j
      split at hx
      · rename_i sz es hl
        split at hx
        · rename_i hb
          cases hx
          have := Nat.eq_of_beq_eq_true hb
          subst this
          obtain ⟨R, hs1⟩ := look_sat (L := L) hl hs
          obtain ⟨xs, ⟨hx, -⟩, hs2⟩ := ownX_iff.1 (show sat h (ownX β j sz rows :: R) from hs1)
          have hlen : (β.s j).len = rows.length := own_len hs1
          refine ⟨xs, hx, .inl ⟨e, _, _, _, hu, rfl, hlen, ?_⟩⟩
          exact row_reads (fun x => x.2.1) (hs2.own_row (fun x => x.2.1)) h0
        · cases hx
      · cases hx
    · cases hx
  · rename_i hu
    split at hx
    · rename_i b
      split at hx
      · rename_i hb
        cases hx
        have := Nat.eq_of_beq_eq_true hb
        subst this
        obtain ⟨ys, hy⟩ := rows_of (β := β) (size := 1) (es := byteX b.data.toList) (by
          intro l hl
          have : ∀ l0 : List UInt8, ∀ l ∈ byteX l0, l.length = 1 ∧ ∀ v ∈ vals β l, v.oneCell' = true := by
            intro l0
            induction l0 with
            | nil => intro l hl; cases hl
            | cons c l0 ih =>
              intro l hl
              simp only [byteX] at hl
              rcases List.mem_cons.1 hl with rfl | hl
              · exact ⟨rfl, fun v hv => by simp only [vals, List.mem_singleton] at hv; subst hv; rfl⟩
              · exact ih l hl
          exact this _ l hl)
        refine ⟨ys, hy, .inr ⟨b, hu, rfl, by rw [byteX_len]; rfl, ?_⟩⟩
        unfold srcStr
        rw [flat_of hy, byteX_ok]
        apply Array.toList_inj.1
        have : ∀ l : List UInt8, (l.map fun b => [Value.int .u8 (b.toNat : Int)]).flatten = l.map fun b => Value.int .u8 (b.toNat : Int) := by
          intro l
          induction l with
          | nil => rfl
          | cons c l ih => simp only [List.map_cons, List.flatten_cons, ih]; rfl
        rw [this]
        simp
      · cases hx
    · cases hx
  · cases hx
theorem xAppend_ok {ts : List TypeId} {n : Nat} {s s' : XSt} {vs : List XV} {v : XV} (h : xAppend P ts n s vs = some (v, s')) (hcl : CloS n s)
    (hk : ∀ γ, Agr n β γ → CloS (n + 1) s' → W (asn γ s' ++ L) (k (val γ v)) Q) : W (asn β s ++ L) (denAppend P ts (vals β vs) k) Q := by
  unfold xAppend at h
  split at h
  · rename_i t u x y
    split at h
    · rename_i elem ht
      split at h
      · rename_i i hi
        split at h
        · rename_i z hz
          split at h
          · rename_i hzl
            split at h
            · rename_i h1
              split at h
              · rename_i h2
                split at h
                · rename_i es r htk
                  split at h
                  · rename_i rows hsr
                    split at h
                    · rename_i h3
                      split at h
                      · rename_i hcr
                        cases h
                        intro hp hs
                        have h1' := Nat.le_of_ble_eq_true h1
                        have h2' := Nat.le_of_ble_eq_true h2
                        have h3' := Nat.le_of_ble_eq_true h3
                        have hz' : z.cells.size = i.size := by rw [← Nat.eq_of_beq_eq_true hzl]; rfl
                        obtain ⟨c1, c2, sl, xs, e1, e2, hs1⟩ := xTake_ok (L := L) htk hcl h1' hs
                        obtain ⟨ys, ey, hsrc⟩ := xSrc_ok (β := β) (L := L) hsr h1' hs1.drop
                        have hxl : xs.length = es.length := by have := congrArg List.length e2; simpa using this
                        have hyl : ys.length = rows.length := by have := congrArg List.length ey; simpa using this
                        have fin : ∀ s9 h9, sat h9 (ownS (vsV (size := i.size)) i.size s9 (xs ++ ys) :: (asn β r ++ L)) → k (.slice s9.a s9.len s9.cap) h9 Q := by
                          intro s9 h9 hs9
                          have hc9 : cloR n (es ++ rows) = true := by
                            rw [cloR_iff] at c2 hcr ⊢
                            intro l hl
                            rcases List.mem_append.1 hl with hl | hl
                            · exact c2 l hl
                            · exact hcr l hl
                          have hs10 := sat_named (L := L) c1 (xs := xs ++ ys) (es := es ++ rows) (by rw [List.map_append, List.map_append, e2, ey]) hc9 h1' hs9
                          have := hk (β.newS n s9) agr_newS (c1.new (g := .own i.size (es ++ rows)) (cloR_mono (Nat.le_succ _) hc9)) h9 hs10
                          simp only [val, As.newS, if_true] at this
                          exact this
                        have hb9 : (xs.length + rows.length) * i.bytes ≤ 140737488355328 := by rw [hxl]; exact h3'
                        simp only [vals]
                        rw [e1]
                        rcases hsrc with ⟨e, b, m, d, hu, hv, hm, hsr⟩ | ⟨b, hu, hv, hm, hsr⟩
                        · rw [hv]
                          subst hm
                          simp only [denAppend, ht, hi, hz, hu]
                          exact append_own (fun x => x.2.1) (fun x => x.2.2) hz' hs1 hyl hsr h1' h2' hb9 fin
                        · rw [hv]
                          simp only [denAppend, ht, hi, hz, hu, hm]
                          exact append_own (fun x => x.2.1) (fun x => x.2.2) hz' hs1 hyl hsr h1' h2' hb9 fin
                      · cases h
                    · cases h
                  · cases h
                · cases h
              · cases h
            · cases h
          · cases h
        · cases h
      · cases h
    · cases h
  · cases h
end
end Go.X
namespace Go.X
open Go.H
set_option linter.unusedSimpArgs false
set_option linter.unusedVariables false
section
variable {ρ τ : Type} {L : List Asn} {Q : ρ → Heap → Prop} {k : Value → HM ρ} {P : Program} {β : As}
theorem own_set {j size i q : Nat} {es : List (List XV)} {row : List XV} {x : XV} {R : List Asn} {h : Heap} (hs : sat h (ownX β j size es :: R)) (hi : es[i]? = some row) (hq : q < size) (hx : xone x = true) :
    ∃ a, (β.s j).a = some a ∧ (cellH h (a.add (i * size + q))).isSome = true ∧ frozenH h (a.add (i * size + q)) = false ∧
      sat (setCellH h (a.add (i * size + q)) (val β x)) (ownX β j size (es.set i (row.set q x)) :: R) := by
  obtain ⟨h0, hrl, hlen, -⟩ := own_at hs hi
  obtain ⟨xs, ⟨hxs, -⟩, hs1⟩ := ownX_iff.1 hs
  have hlt : i < xs.length := by
    have := congrArg List.length hxs
    simp only [List.length_map] at this
    rw [this]
    exact (List.getElem?_eq_some_iff.1 hi).1
  have hxi : xs[i]? = some xs[i] := List.getElem?_eq_getElem hlt
  have he : (xs[i]).1 = vals β row := by
    have e1 := congrArg (fun l : List (List Value) => l[i]?) hxs
    simp only [List.getElem?_map, hxi, hi, Option.map_some, Option.some.injEq] at e1
    exact e1
  have hone := xone_ok (β := β) hx
  let x' : VS size := ⟨(xs[i]).1.set q (val β x), by rw [List.length_set]; exact (xs[i]).2.1, fun v hv => by
    rcases List.mem_or_eq_of_mem_set hv with hv | rfl
    · exact (xs[i]).2.2 v hv
    · exact hone⟩
  obtain ⟨a, ha, -, -, hst⟩ := idx_own (enc := vsV (size := size)) (fun x => x.2.1) hs1 hxi (Q := fun p h' => h' = h ∧ ∀ (Q' : Unit → Heap → Prop), (∀ h', sat h' (ownS (vsV (size := size)) size (β.s j) (xs.set i x') :: R) → Q' () h') → HM.store1 (p.add q) (val β x) h Q')
    (fun p _ hst => ⟨rfl, fun Q' hq' => hst q (val β x) x' Q' hq rfl hone hq'⟩)
  obtain ⟨-, hst⟩ := hst
  obtain ⟨s1, s2, -, s4⟩ := hst (fun _ h' => sat h' (ownX β j size (es.set i (row.set q x)) :: R)) (fun h' hs' => ownX_iff.2 ⟨xs.set i x', ⟨by
    rw [List.map_set, hxs, List.map_set]
    congr 1
    show (xs[i]).1.set q (val β x) = vals β (row.set q x)
    rw [he, vals_map, vals_map, List.map_set], h0⟩, hs'⟩)
  rw [Int.toNat_natCast, add_add2] at s1 s2 s4
  exact ⟨a, ha, s1, s2, s4⟩
theorem own_sets {j size i : Nat} {a : Addr} (ha : (β.s j).a = some a) : ∀ (cs : List XV) (r : Nat) (es : List (List XV)) (row : List XV) {R : List Asn} {h : Heap} (p : Addr) (m : Nat), (∀ n, p.add (m + n) = a.add (i * size + (r + n))) →
    sat h (ownX β j size es :: R) → es[i]? = some row → r + cs.length ≤ size → xones cs = true → sat (setCellsH h p (vals β cs) m) (ownX β j size (es.set i (xput row r cs)) :: R)
  | [], r, es, row, R, h, p, m, hp, hs, hi, hl, h1 => by
    simp only [vals, setCellsH, xput, List.length_nil, Nat.add_zero, List.nil_append, List.take_append_drop]
    obtain ⟨hlt, rfl⟩ := List.getElem?_eq_some_iff.1 hi
    rw [List.set_getElem_self]
    exact hs
  | x :: cs, r, es, row, R, h, p, m, hp, hs, hi, hl, h1 => by
    simp only [xones] at h1
    split at h1
    · rename_i hx
      simp only [List.length_cons] at hl
      obtain ⟨h0, hrl, -, -⟩ := own_at hs hi
      obtain ⟨a', ha', -, -, hs1⟩ := own_set hs hi (q := r) (by omega) hx
      rw [ha] at ha'
      cases ha'
      simp only [vals, setCellsH]
      have e0 := hp 0
      simp only [Nat.add_zero] at e0
      rw [← e0] at hs1
      have hlt := (List.getElem?_eq_some_iff.1 hi).1
      have := own_sets ha cs (r + 1) (es.set i (row.set r x)) (row.set r x) p (m + 1) (fun n => by have := hp (1 + n); rw [show m + 1 + n = m + (1 + n) by omega, this]; congr 2; omega) hs1 (by rw [List.getElem?_set_self hlt]) (by omega) h1
      rw [List.set_set] at this
      have e : xput (row.set r x) (r + 1) cs = xput row r (x :: cs) := by
        have hrr : r < (row.set r x).length := by rw [List.length_set]; omega
        have t1 : (row.set r x).take (r + 1) = row.take r ++ [x] := by
          rw [List.take_succ_eq_append_getElem hrr, List.getElem_set_self, List.take_set, List.set_eq_of_length_le (by simp; omega)]
        have t2 : (row.set r x).drop (r + 1 + cs.length) = row.drop (r + (cs.length + 1)) := by
          rw [List.drop_set, if_pos (by omega)]
          congr 1; omega
        simp only [xput, List.length_cons]
        rw [t1, t2]
        simp
      rw [e] at this
      exact this
    · cases h1
def xStoreE (P : Program) (t : TypeId) (n : Nat) (s : XSt) (a v : XV) : Option XSt :=
  match a with
  | .eptr j o => match kindOf P t with
    | some kd => match xcells kd v with
      | some cs => match Nat.beq cs.length (P.cellsOf t) with
        | true => match xones cs with
          | true => match clos n cs with
            | true => match pick j s with
              | some (.own size es, r) => match es[o / size]? with
                | some row => match Nat.ble (o % size + cs.length) size with
                  | true => some (back j (.own size (es.set (o / size) (xput row (o % size) cs))) r)
                  | false => none
                | none => none
              | _ => none
            | false => none
          | false => none
        | false => none
      | none => none
    | none => none
  | a => xStore P t n s a v
theorem store_own {j o size : Nat} {s r : XSt} {es : List (List XV)} {row cs : List XV} {f : Unit → HM ρ} {h : Heap} (hs : sat h (asn β s ++ L)) (hp : pick j s = some (.own size es, r)) (hi : es[o / size]? = some row) (hl : o % size + cs.length ≤ size) (h1 : xones cs = true)
    (hk : W (asn β (back j (.own size (es.set (o / size) (xput row (o % size) cs))) r) ++ L) (f ()) Q) : ∃ ad, val β (.eptr j o) = .pointer (some ad) ∧ HM.bind (HM.storeN ad (vals β cs)) f h Q := by
  have hs1 : sat h (ownX β j size es :: (asn β r ++ L)) := (has_pick (β := β) (L := L) hp).s hs
  obtain ⟨h0, hrl, -, a, ha, -⟩ := own_at hs1 hi
  have e : o / size * size + o % size = o := by rw [Nat.mul_comm]; exact Nat.div_add_mod o size
  refine ⟨a.add o, by simp only [val, ha, Option.map_some], fun i v hv => ?_, ?_⟩
  · have hlt : i < cs.length := by have := (List.getElem?_eq_some_iff.1 hv).1; rwa [vals_len] at this
    obtain ⟨x, hx1, hx2⟩ : ∃ x, val β x = v ∧ xone x = true := by
      rw [vals_map, List.getElem?_map] at hv
      have hall : ∀ (l : List XV), xones l = true → ∀ x ∈ l, xone x = true := by
        intro l
        induction l with
        | nil => intro _ x hx; cases hx
        | cons y l ih =>
          intro hl x hx
          simp only [xones] at hl
          split at hl
          · rename_i hy
            rcases List.mem_cons.1 hx with rfl | hx
            · exact hy
            · exact ih hl x hx
          · cases hl
      rw [List.getElem?_eq_getElem hlt] at hv
      exact ⟨cs[i], by simpa using hv, hall cs h1 _ (List.getElem_mem hlt)⟩
    obtain ⟨a', ha', s1, s2, -⟩ := own_set hs1 hi (q := o % size + i) (by omega) hx2
    rw [ha] at ha'
    cases ha'
    rw [add_add2, show o + i = o / size * size + (o % size + i) by omega]
    exact ⟨s1, s2, by rw [← hx1]; exact xone_ok hx2⟩
  · refine hk _ ((sub_back (β := β) (L := L) hp _).s ?_)
    exact own_sets ha cs (o % size) es row (a.add o) 0 (fun n => by rw [add_add2]; congr 1; omega) hs1 hi hl h1
theorem xStoreE_ok {t : TypeId} {n : Nat} {s s' : XSt} {a v : XV} (h : xStoreE P t n s a v = some s') (hcl : CloS n s) (hk : CloS n s' → W (asn β s' ++ L) (k undef) Q) : W (asn β s ++ L) (denStore P t (val β a) (val β v) k) Q := by
  unfold xStoreE at h
  split at h
  · rename_i j o
    split at h
    · rename_i kd hkd
      split at h
      · rename_i cs hcs
        split at h
        · rename_i hbl
          split at h
          · rename_i h1
            split at h
            · rename_i hc
              split at h
              · rename_i size es r hp
                split at h
                · rename_i row hi
                  split at h
                  · rename_i hle
                    cases h
                    have hcr := (hcl _ _ (pick_mem hp).1).2
                    have hcl' : CloS n (back j (.own size (es.set (o / size) (xput row (o % size) cs))) r) := hcl.put hp (by
                      simp only [cloF] at hcr ⊢
                      rw [cloR_iff] at hcr ⊢
                      intro l hl
                      rcases List.mem_or_eq_of_mem_set hl with hl | rfl
                      · exact hcr l hl
                      · exact xput_clos (hcr row (List.mem_of_getElem? hi)) hc)
                    have hbl' : Nat.beq (vals β cs).length (P.cellsOf t) = true := by rw [vals_len]; exact hbl
                    intro hp' hs
                    obtain ⟨ad, e1, e2⟩ := store_own (f := fun _ => k undef) (Q := Q) hs hp hi (Nat.le_of_ble_eq_true hle) h1 (hk hcl')
                    rw [e1]
                    simp only [denStore, hkd, xcells_ok (β := β) hcs, hbl']
                    cases kd with
                    | one tg =>
                      simp only [xcells] at hcs
                      cases hcs
                      exact store1_N (L := asn β s ++ L) (Q := Q) (a := ad) (v := val β v) (f := fun _ => k undef) (fun h9 hs9 => by
                        obtain ⟨ad9, e3, e4⟩ := store_own (f := fun _ => k undef) (Q := Q) hs9 hp hi (Nat.le_of_ble_eq_true hle) h1 (hk hcl')
                        rw [e1] at e3
                        cases e3
                        exact e4) hp' hs
                    | agg ts => exact e2
                  · cases h
                · cases h
              · cases h
            · cases h
          · cases h
        · cases h
      · cases h
    · cases h
  · exact xStore_ok h hcl hk
end
end Go.X
namespace Go.X
open Go.H
set_option linter.unusedSimpArgs false
set_option linter.unusedVariables false
def xkind : Kind → XV → Bool
  | .one t, x => xtag t x
  | .agg ts, .agg cs => xtags ts cs
  | .agg _, _ => false
theorem xkind_ok {β : As} {kd : Kind} {x : XV} (h : xkind kd x = true) : ∃ y, val β x = kd.val y := by
  cases kd with
  | one t =>
    obtain ⟨⟨y, hy⟩, -⟩ := xtag_ok (β := β) (show xtag t x = true from h)
    exact ⟨y, Tag.get_val hy⟩
  | agg ts =>
    cases x <;> simp only [xkind] at h <;> try (cases h; done)
    obtain ⟨y, hy, hv⟩ := xtags_ok (β := β) h
    refine ⟨y, ?_⟩
    simp only [val, Kind.val]
    rw [← hv]
section
variable {ρ τ : Type} {L : List Asn} {Q : ρ → Heap → Prop} {k : Value → HM ρ} {P : Program} {β : As} {T2 : TypeId → Bool}
section
variable {K V : Type} [DecidableEq K] {ek : K → Value}
theorem lookup_raw {kd : SameK} (hk : KeyLaw kd ek) {ev : V → Value} {kind : Kind} {zero : Value} {r : Nat} {l : List (K × V)} {k : K} {y : kind.ty} {R : List Asn} {h : Heap} {Q : kind.ty × Bool → Heap → Prop}
    (hs : sat h (mapA ek ev r l :: R)) (hv : ∀ v, mget l k = some v → ev v = kind.val y) (hz : mget l k = none → zero = kind.val y) (hq : Q (y, (mget l k).isSome) h) : HM.lookup kd zero kind (some r) (ek k) h Q := by
  obtain ⟨es, c, ⟨he, hst⟩, hs⟩ := mapA_iff.1 hs
  rcases place_of hk k l es.toList 0 he with ⟨h1, h2⟩ | ⟨v, j, e, h1, h2, -, -⟩
  · refine ⟨es.toList, c, none, y, by simpa [entriesH] using hs.get, h2, hz h1, ?_⟩
    rw [h1] at hq; exact hq
  · refine ⟨es.toList, c, some (0 + j, ev v), y, by simpa [entriesH] using hs.get, h2, hv v h1, ?_⟩
    rw [h1] at hq; exact hq
end
def xFind (P : Program) (T2 : TypeId → Bool) (kt : TypeId) (s : XSt) (x key : XV) : Option (Option XV) :=
  match x with
  | .map j => match look j s with
    | some (.mapI es) => match P.underlying kt with
      | some (.int .i64) => match key with
        | .int .i64 a => some (mget es a)
        | _ => none
      | _ => none
    | some (.mapS es) => match P.underlying kt with
      | some .string => match key with
        | .str a => some (mget es a)
        | _ => none
      | _ => none
    | some (.mapT es) => match T2 kt with
      | true => match key with
        | .agg [.int .i64 a, .int .i64 b] => some (mget es (a, b))
        | _ => none
      | false => none
    | some (.walkI _ es _ _) => match P.underlying kt with
      | some (.int .i64) => match key with
        | .int .i64 a => some (mget es a)
        | _ => none
      | _ => none
    | some (.walkS _ es _ _) => match P.underlying kt with
      | some .string => match key with
        | .str a => some (mget es a)
        | _ => none
      | _ => none
    | _ => none
  | .nmap => match P.underlying kt with
    | some (.int .i64) => match key with
      | .int .i64 _ => some none
      | _ => none
    | some .string => match key with
      | .str _ => some none
      | _ => none
    | _ => none
  | _ => none
def xLookup (P : Program) (T2 : TypeId → Bool) (t : TypeId) (s : XSt) (x key : XV) (ok : Bool) : Option XV :=
  match P.underlying t with
  | some (.map kt et) => match P.underlying kt with
    | some kd => match P.info? et with
      | some i => match i.zero with
        | some z => match Kind.of z with
          | some ek => match ofV 4 z with
            | some zx => match xFind P T2 kt s x key with
              | some o => match xkind ek (o.getD zx) with
                | true => match ok with
                  | true => some (.tup [o.getD zx, .bool o.isSome])
                  | false => some (o.getD zx)
                | false => none
              | none => none
            | none => none
          | none => none
        | none => none
      | none => none
    | none => none
  | _ => none
structure T2OK (P : Program) (T2 : TypeId → Bool) : Prop where
  law : ∀ kt, T2 kt = true → (∃ fs, P.underlying kt = some (.struct fs)) ∧ KeyLaw (eqTy P 8 kt) e2
theorem xFind_ok (hT : T2OK P T2) {kt : TypeId} {kd : TypeDesc} {s : XSt} {x key : XV} {o : Option XV} {zero : Value} {kind : Kind} {y : kind.ty} {h : Heap} {Q : kind.ty × Bool → Heap → Prop} (hkd : P.underlying kt = some kd) (hx : xFind P T2 kt s x key = some o) (hs : sat h (asn β s ++ L))
    (hv : ∀ v, o = some v → val β v = kind.val y) (hz : o = none → zero = kind.val y) (hq : Q (y, o.isSome) h) :
    ∃ r, val β x = .map r ∧ HM.lookup (keySame P kt kd) zero kind r (val β key) h Q ∧ (∀ {ρ : Type} {m : HM ρ} {h' : Heap} {Q' : ρ → Heap → Prop}, m h' Q' → keyReq P kt kd (val β key) m h' Q') := by
  unfold xFind at hx
  split at hx
  · rename_i j
    split at hx
    · rename_i es hl
      obtain ⟨R, hs1⟩ := look_sat (L := L) hl hs
      split at hx
      · rename_i hu
        rw [hkd] at hu
        cases hu
        split at hx
        · rename_i a
          cases hx
          exact ⟨_, rfl, lookup_raw (key_int .i64) hs1 hv hz hq, fun hm => hm⟩
        · cases hx
      · cases hx
    · rename_i es hl
      obtain ⟨R, hs1⟩ := look_sat (L := L) hl hs
      split at hx
      · rename_i hu
        rw [hkd] at hu
        cases hu
        split at hx
        · rename_i a
          cases hx
          exact ⟨_, rfl, lookup_raw key_str hs1 hv hz hq, fun hm => hm⟩
        · cases hx
      · cases hx
    · rename_i es hl
      obtain ⟨R, hs1⟩ := look_sat (L := L) hl hs
      split at hx
      · rename_i hu
        obtain ⟨⟨fs, hf⟩, hlaw⟩ := hT.law kt hu
        rw [hkd] at hf
        cases hf
        split at hx
        · rename_i a b
          cases hx
          refine ⟨_, rfl, lookup_raw (k := (a, b)) hlaw hs1 hv hz hq, fun hm => ⟨?_, hm⟩⟩
          exact (hlaw.same (a, b) (a, b)).trans (by simp)
        · cases hx
      · cases hx
    · rename_i es _ _ hl
      obtain ⟨R, hs1⟩ := look_sat (L := L) hl hs
      split at hx
      · rename_i hu
        rw [hkd] at hu
        cases hu
        split at hx
        · rename_i a
          cases hx
          exact ⟨_, rfl, lookup_raw (key_int .i64) (itA_map hs1) hv hz hq, fun hm => hm⟩
        · cases hx
      · cases hx
    · rename_i es _ _ hl
      obtain ⟨R, hs1⟩ := look_sat (L := L) hl hs
      split at hx
      · rename_i hu
        rw [hkd] at hu
        cases hu
        split at hx
        · rename_i a
          cases hx
          exact ⟨_, rfl, lookup_raw key_str (itA_map hs1) hv hz hq, fun hm => hm⟩
        · cases hx
      · cases hx
    · cases hx
  · split at hx
    · rename_i hu
      rw [hkd] at hu
      cases hu
      split at hx
      · cases hx
        exact ⟨none, rfl, ⟨[], 0, none, y, ⟨rfl, rfl⟩, rfl, hz rfl, hq⟩, fun hm => hm⟩
      · cases hx
    · rename_i hu
      rw [hkd] at hu
      cases hu
      split at hx
      · cases hx
        exact ⟨none, rfl, ⟨[], 0, none, y, ⟨rfl, rfl⟩, rfl, hz rfl, hq⟩, fun hm => hm⟩
      · cases hx
    · cases hx
  · cases hx
theorem xLookup_ok (hT : T2OK P T2) {t : TypeId} {s : XSt} {x key v : XV} {ok : Bool} (h : xLookup P T2 t s x key ok = some v) (hk : W (asn β s ++ L) (k (val β v)) Q) : W (asn β s ++ L) (denLookup P t (val β x) (val β key) ok k) Q := by
  intro hp hs
  unfold xLookup at h
  split at h
  · rename_i kt et ht
    split at h
    · rename_i kd hkd
      split at h
      · rename_i i hi
        split at h
        · rename_i z hz
          split at h
          · rename_i ek hek
            split at h
            · rename_i zx hzx
              split at h
              · rename_i o ho
                split at h
                · rename_i hkind
                  obtain ⟨y, hy⟩ := xkind_ok (β := β) hkind
                  have hzv := (ofV_ok (β := β) 4 z zx hzx).1
                  have hh : (match ok with
                      | true => k (.tuple #[ek.val y, .bool o.isSome])
                      | false => k (ek.val y)) hp Q := by
                    cases ok with
                    | true =>
                      cases h
                      have := hk hp hs
                      simp only [val, vals, hy] at this
                      exact this
                    | false =>
                      cases h
                      have := hk hp hs
                      rw [hy] at this
                      exact this
                  obtain ⟨r, e1, e2, e3⟩ := xFind_ok (L := L) (zero := z) (kind := ek) (y := y) (Q := fun p h' => (match ok with
                      | true => k (.tuple #[ek.val p.1, .bool p.2])
                      | false => k (ek.val p.1)) h' Q) hT hkd ho hs
                    (fun v hv => by subst hv; exact hy) (fun hn => by subst hn; rw [← hzv]; exact hy) hh
                  rw [e1]
                  simp only [denLookup, ht, hkd, hi, hz, hek]
                  exact e3 e2
                · cases h
              · cases h
            · cases h
          · cases h
        · cases h
      · cases h
    · cases h
  · cases h
end
end Go.X
