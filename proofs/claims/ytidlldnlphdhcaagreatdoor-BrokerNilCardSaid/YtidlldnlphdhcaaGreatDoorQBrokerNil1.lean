/-
  QBrokerNil1: what the proof BrokerNilProof reaches of our texts: HB, Hrd, Sf.
-/
import Derived.Test.YtidlldnlphdhcaaGreatDoorQBrokerNil0
import Derived.MapKept
import Derived.Below
import Derived.Laws.Append
import Derived.ChangeArms
import Derived.DataReads
import Derived.SizedLaws
import Derived.Handed
import Derived.OpenShut
import Derived.Test.YtidlldnlphdhcaaGreatDoorProg
import Derived.KernelRfl
namespace Go.H
set_option linter.unusedSimpArgs false
set_option linter.unusedVariables false
open Go.MapKept (Stamped)
abbrev PH := Nat → Option Obj
def PH.sub (m : PH) (h : Heap) : Prop := ∀ k o, m k = some o → h[k]? = some o
def PH.disj (a b : PH) : Prop := ∀ k, a k = none ∨ b k = none
def PH.join (a b : PH) : PH := fun k => match a k with | some o => some o | none => b k
abbrev Asn := PH → Prop
def star (A B : Asn) : Asn := fun m => ∃ a b, a.disj b ∧ m = a.join b ∧ A a ∧ B b
def stars : List Asn → Asn
  | [] => fun _ => True
  | A :: L => star A (stars L)
def exA {α : Type} (f : α → Asn) : Asn := fun m => ∃ x, f x m
def pr (p : Prop) : Asn := fun _ => p
def blk (b : Nat) (o : Obj) : Asn := fun m => m b = some o
def cells (b : Nat) (cs : Array Value) : Asn := exA fun T => blk b (.cells cs T (0, 0))
def old (h0 : Heap) : Asn := fun m => ∀ (k : Nat) (o : Obj), h0[k]? = some o → m k = some o
def sat (h : Heap) (L : List Asn) : Prop := ∃ m, PH.sub m h ∧ stars L m
theorem q_h1 {a b : PH} {k : Nat} (h : a k = none) : a.join b k = b k := by simp [PH.join, h]
theorem q_d5 {a b : PH} {k : Nat} {o : Obj} (h : a k = some o) : a.join b k = some o := by simp [PH.join, h]
theorem q_il {a b : PH} {k : Nat} {o : Obj} (hd : a.disj b) (h : b k = some o) : a.join b k = some o := by
  rcases hd k with h1 | h1
  · rw [q_h1 h1]; exact h
  · rw [h] at h1; cases h1
theorem join_sub {a b : PH} {h : Heap} (hs : PH.sub (a.join b) h) (hd : a.disj b) : PH.sub a h ∧ PH.sub b h :=
  ⟨fun k o ho => hs k o (q_d5 ho), fun k o ho => hs k o (q_il hd ho)⟩
theorem sub_join {a b : PH} {h : Heap} (ha : PH.sub a h) (hb : PH.sub b h) : PH.sub (a.join b) h := by
  intro k o ho
  cases hk : a k with
  | some o' => rw [q_d5 hk] at ho; cases ho; exact ha k _ hk
  | none => rw [q_h1 hk] at ho; exact hb k o ho
theorem join_assoc (a b c : PH) : (a.join b).join c = a.join (b.join c) := by
  funext k; simp only [PH.join]; cases a k <;> rfl
theorem join_comm {a b : PH} (h : a.disj b) : a.join b = b.join a := by
  funext k; simp only [PH.join]
  rcases h k with h1 | h1
  · rw [h1]; cases b k <;> rfl
  · rw [h1]; cases a k <;> rfl
theorem q_e {a b : PH} (h : a.disj b) : b.disj a := fun k => (h k).symm
theorem disj_join {a b c : PH} (h1 : a.disj c) (h2 : b.disj c) : (a.join b).disj c := by
  intro k
  rcases h1 k with h | h
  · rw [q_h1 h]; exact h2 k
  · exact .inr h
theorem disj_of_join {a b c : PH} (h : (a.join b).disj c) (hd : a.disj b) : a.disj c ∧ b.disj c := by
  refine ⟨fun k => ?_, fun k => ?_⟩
  · rcases h k with h1 | h1
    · cases hk : a k with
      | none => exact .inl rfl
      | some o => rw [q_d5 hk] at h1; cases h1
    · exact .inr h1
  · rcases h k with h1 | h1
    · cases hk : b k with
      | none => exact .inl rfl
      | some o => rw [q_il hd hk] at h1; cases h1
    · exact .inr h1
theorem star_assoc {A B C : Asn} {m : PH} (h : star (star A B) C m) : star A (star B C) m := by
  obtain ⟨ab, c, hd, rfl, ⟨a, b, hd', rfl, ha, hb⟩, hc⟩ := h
  obtain ⟨h1, h2⟩ := disj_of_join hd hd'
  exact ⟨a, b.join c, q_e (disj_join (q_e hd') (q_e h1)), join_assoc a b c, ha, b, c, h2, rfl, hb, hc⟩
theorem star_assoc' {A B C : Asn} {m : PH} (h : star A (star B C) m) : star (star A B) C m := by
  obtain ⟨a, bc, hd, rfl, ha, b, c, hd', rfl, hb, hc⟩ := h
  obtain ⟨h1, h2⟩ := disj_of_join (q_e hd) hd'
  exact ⟨a.join b, c, disj_join (q_e h2) hd', (join_assoc a b c).symm, ⟨a, b, q_e h1, rfl, ha, hb⟩, hc⟩
theorem star_comm {A B : Asn} {m : PH} (h : star A B m) : star B A m := by
  obtain ⟨a, b, hd, rfl, ha, hb⟩ := h
  exact ⟨b, a, q_e hd, join_comm hd, hb, ha⟩
theorem q_a0 {A A' B B' : Asn} (ha : ∀ m, A m → A' m) (hb : ∀ m, B m → B' m) {m : PH} (h : star A B m) : star A' B' m := by
  obtain ⟨a, b, hd, rfl, h1, h2⟩ := h
  exact ⟨a, b, hd, rfl, ha _ h1, hb _ h2⟩
section
variable {h : Heap} {A B C D E F G : Asn} {R : List Asn}
theorem sat.imp (hs : sat h (A :: R)) (ha : ∀ m, A m → B m) : sat h (B :: R) := by
  obtain ⟨m, h1, h2⟩ := hs
  exact ⟨m, h1, q_a0 ha (fun _ h => h) h2⟩
theorem sat.tail {R' : List Asn} (hs : sat h (A :: R)) (hr : ∀ m, stars R m → stars R' m) : sat h (A :: R') := by
  obtain ⟨m, h1, h2⟩ := hs
  exact ⟨m, h1, q_a0 (fun _ h => h) hr h2⟩
theorem q_ah {m : PH} (h : stars (A :: B :: R) m) : stars (B :: A :: R) m :=
  star_assoc (q_a0 (fun _ h => star_comm h) (fun _ h => h) (star_assoc' h))
theorem q_bp {R R' : List Asn} (hr : ∀ m, stars R m → stars R' m) {m : PH} (h : stars (A :: R) m) : stars (A :: R') m := q_a0 (fun _ h => h) hr h
theorem sat.p1 (hs : sat h (A :: B :: R)) : sat h (B :: A :: R) := let ⟨m, h1, h2⟩ := hs; ⟨m, h1, q_ah h2⟩
theorem sat.p2 (hs : sat h (A :: B :: C :: R)) : sat h (C :: A :: B :: R) := (hs.tail fun _ => q_ah).p1
theorem sat.p3 (hs : sat h (A :: B :: C :: D :: R)) : sat h (D :: A :: B :: C :: R) := (hs.tail fun _ hm => q_ah (q_bp (fun _ => q_ah) hm)).p1
theorem sat.p4 (hs : sat h (A :: B :: C :: D :: E :: R)) : sat h (E :: A :: B :: C :: D :: R) := (hs.tail fun _ hm => q_ah (q_bp (fun _ hm => q_ah (q_bp (fun _ => q_ah) hm)) hm)).p1
theorem sat.p5 (hs : sat h (A :: B :: C :: D :: E :: F :: R)) : sat h (F :: A :: B :: C :: D :: E :: R) :=
  (hs.tail fun _ hm => q_ah (q_bp (fun _ hm => q_ah (q_bp (fun _ hm => q_ah (q_bp (fun _ => q_ah) hm)) hm)) hm)).p1
theorem sat.b1 (hs : sat h (B :: A :: R)) : sat h (A :: B :: R) := hs.p1
theorem sat.b2 (hs : sat h (C :: A :: B :: R)) : sat h (A :: B :: C :: R) := hs.p1.tail fun _ => q_ah
theorem sat.b3 (hs : sat h (D :: A :: B :: C :: R)) : sat h (A :: B :: C :: D :: R) := hs.p1.tail fun _ hm => q_bp (fun _ => q_ah) (q_ah hm)
theorem sat.b4 (hs : sat h (E :: A :: B :: C :: D :: R)) : sat h (A :: B :: C :: D :: E :: R) := hs.p1.tail fun _ hm => q_bp (fun _ hm => q_bp (fun _ => q_ah) (q_ah hm)) (q_ah hm)
theorem sat.drop (hs : sat h (A :: R)) : sat h R := by
  obtain ⟨m, h1, a, r, hd, rfl, ha, hr⟩ := hs
  exact ⟨r, (join_sub h1 hd).2, hr⟩
theorem sat.star_iff : sat h (star A B :: R) ↔ sat h (A :: B :: R) :=
  ⟨fun ⟨m, h1, h2⟩ => ⟨m, h1, star_assoc h2⟩, fun ⟨m, h1, h2⟩ => ⟨m, h1, star_assoc' h2⟩⟩
theorem sat.ex_iff {α : Type} {f : α → Asn} : sat h (exA f :: R) ↔ ∃ x, sat h (f x :: R) := by
  constructor
  · rintro ⟨m, h1, a, r, hd, rfl, ⟨x, ha⟩, hr⟩
    exact ⟨x, _, h1, a, r, hd, rfl, ha, hr⟩
  · rintro ⟨x, m, h1, a, r, hd, rfl, ha, hr⟩
    exact ⟨_, h1, a, r, hd, rfl, ⟨x, ha⟩, hr⟩
theorem sat.pr_iff {p : Prop} : sat h (pr p :: R) ↔ p ∧ sat h R := by
  constructor
  · intro hs
    refine ⟨?_, hs.drop⟩
    obtain ⟨m, h1, a, r, hd, rfl, ha, hr⟩ := hs
    exact ha
  · rintro ⟨hp, m, h1, h2⟩
    refine ⟨m, h1, fun _ => none, m, fun k => .inl rfl, ?_, hp, h2⟩
    funext k; rfl
theorem q_c1 : ∀ (L R : List Asn) {m : PH}, star (stars L) (stars R) m ↔ stars (L ++ R) m
  | [], R, m => by
    constructor
    · rintro ⟨a, b, hd, rfl, -, hb⟩
      exact up R (a.join b) b (fun k o ho => q_il hd ho) hb
    · intro hr
      exact ⟨fun _ => none, m, fun k => .inl rfl, by funext k; rfl, trivial, hr⟩
  | A :: L, R, m => by
    constructor
    · intro hm
      exact q_a0 (fun _ h => h) (fun _ h => (q_c1 L R).1 h) (star_assoc hm)
    · intro hm
      exact star_assoc' (q_a0 (fun _ h => h) (fun _ h => (q_c1 L R).2 h) hm)
where
  up : ∀ (R : List Asn) (m m' : PH), (∀ k o, m' k = some o → m k = some o) → stars R m' → stars R m
    | [], _, _, _, _ => trivial
    | A :: R, m, m', hsub, ⟨a, b, hd, he, ha, hb⟩ => by
      subst he
      refine ⟨a, fun k => match a k with | some _ => none | none => m k, fun k => ?_, ?_, ha, ?_⟩
      · cases hk : a k with
        | none => exact .inl rfl
        | some o => exact .inr (by simp only [hk])
      · funext k
        cases hk : a k with
        | none => rw [q_h1 hk]; simp [hk]
        | some o => rw [q_d5 hk]; exact hsub k o (q_d5 hk)
      · refine up R _ b (fun k o ho => ?_) hb
        have hak : a k = none := by
          rcases hd k with h1 | h1
          · exact h1
          · rw [ho] at h1; cases h1
        simp only [hak]
        exact hsub k o (by rw [q_h1 hak]; exact ho)
theorem sat.stars_iff {L : List Asn} : sat h (stars L :: R) ↔ sat h (L ++ R) :=
  ⟨fun ⟨m, h1, h2⟩ => ⟨m, h1, (q_c1 L R).1 h2⟩, fun ⟨m, h1, h2⟩ => ⟨m, h1, (q_c1 L R).2 h2⟩⟩
theorem sat.get {b : Nat} {o : Obj} (hs : sat h (blk b o :: R)) : h[b]? = some o := by
  obtain ⟨m, h1, a, r, hd, rfl, ha, hr⟩ := hs
  exact h1 b o (q_d5 ha)
theorem sat.lt {b : Nat} {o : Obj} (hs : sat h (blk b o :: R)) : b < h.size := (Array.getElem?_eq_some_iff.1 hs.get).1
theorem sat.turn {b : Nat} {o o' : Obj} {h' : Heap} (hs : sat h (blk b o :: R)) (hb : h'[b]? = some o') (hk : ∀ k, k ≠ b → h'[k]? = h[k]?) : sat h' (blk b o' :: R) := by
  obtain ⟨m, h1, a, r, hd, rfl, ha, hr⟩ := hs
  have hrb : r b = none := by
    rcases hd b with h2 | h2
    · rw [ha] at h2; cases h2
    · exact h2
  refine ⟨PH.join (fun k => if k = b then some o' else none) r, ?_, _, r, fun k => ?_, rfl, by simp [blk], hr⟩
  · refine sub_join (fun k x hx => ?_) (fun k x hx => ?_)
    · have hx' : (if k = b then some o' else none) = some x := hx
      split at hx'
      · rename_i e; subst e; cases hx'; exact hb
      · cases hx'
    · rw [hk k (fun e => by subst e; rw [hrb] at hx; cases hx)]
      exact (join_sub h1 hd).2 k x hx
  · by_cases e : k = b
    · subst e; exact .inr hrb
    · exact .inl (by simp [e])
theorem sat.push {o : Obj} (hs : sat h R) : sat (h.push o) (blk h.size o :: R) := by
  obtain ⟨m, h1, hr⟩ := hs
  have hm : m h.size = none := by
    cases hh : m h.size with
    | none => rfl
    | some x =>
      have := h1 _ _ hh
      rw [Array.getElem?_eq_none (by omega)] at this
      cases this
  refine ⟨PH.join (fun k => if k = h.size then some o else none) m, ?_, _, m, fun k => ?_, rfl, by simp [blk], hr⟩
  · refine sub_join (fun k x hx => ?_) (fun k x hx => ?_)
    · have hx' : (if k = h.size then some o else none) = some x := hx
      split at hx'
      · rename_i e; subst e; cases hx'; simp
      · cases hx'
    · have := h1 k x hx
      have hlt := (Array.getElem?_eq_some_iff.1 this).1
      rw [Array.getElem?_push, if_neg (by omega)]
      exact this
  · by_cases e : k = h.size
    · subst e; exact .inr hm
    · exact .inl (by simp [e])
theorem sat.old_get {h0 : Heap} {k : Nat} {o : Obj} (hs : sat h (old h0 :: R)) (hk : h0[k]? = some o) : h[k]? = some o := by
  obtain ⟨m, h1, a, r, hd, rfl, ha, hr⟩ := hs
  exact h1 k o (q_d5 (ha k o hk))
theorem sat_old (h0 : Heap) : sat h0 [old h0] := by
  refine ⟨fun k => h0[k]?, fun k o ho => ho, fun k => h0[k]?, fun _ => none, fun k => .inr rfl, ?_, fun k o ho => ho, trivial⟩
  funext k
  simp only [PH.join]
  cases h0[k]? <;> rfl
theorem sat.old_cell {h0 : Heap} {a : Addr} {v : Value} (hs : sat h (old h0 :: R)) (hc : cellH h0 a = some v) : cellH h a = some v := by
  unfold cellH at hc ⊢
  cases hb : h0[a.block]? with
  | none => simp [hb] at hc
  | some o => rw [hs.old_get hb]; rw [hb] at hc; exact hc
theorem sat.nil : sat h [] := ⟨fun _ => none, fun _ _ ho => (by cases ho), trivial⟩
theorem q_cc {b : Nat} {cs : Array Value} : sat h (cells b cs :: R) ↔ ∃ T, sat h (blk b (.cells cs T (0, 0)) :: R) := sat.ex_iff
theorem sat.cell {b : Nat} {cs : Array Value} (hs : sat h (cells b cs :: R)) (i : Nat) : cellH h ⟨b, i, none⟩ = cs[i]? := by
  obtain ⟨T, hs⟩ := q_cc.1 hs
  simp [cellH, hs.get]
theorem sat.free {b : Nat} {cs : Array Value} (hs : sat h (cells b cs :: R)) (i : Nat) : frozenH h ⟨b, i, none⟩ = false := by
  obtain ⟨T, hs⟩ := q_cc.1 hs
  simp [frozenH, hs.get]
theorem sat.cells_lt {b : Nat} {cs : Array Value} (hs : sat h (cells b cs :: R)) : b < h.size := by
  obtain ⟨T, hs⟩ := q_cc.1 hs
  exact hs.lt
theorem sat.set {b : Nat} {cs : Array Value} (hs : sat h (cells b cs :: R)) (i : Nat) (v : Value) : sat (setCellH h ⟨b, i, none⟩ v) (cells b (cs.setIfInBounds i v) :: R) := by
  obtain ⟨T, hs⟩ := q_cc.1 hs
  refine q_cc.2 ⟨T, hs.turn ?_ ?_⟩
  · simp [setCellH, Array.getElem?_modify, hs.get]
  · intro k hk
    simp only [setCellH, Array.getElem?_modify]
    rw [if_neg (fun e => hk e.symm)]
theorem sat.push_cells {T : TypeId} {cs : Array Value} (hs : sat h R) : sat (h.push (.cells cs T)) (cells h.size cs :: R) := q_cc.2 ⟨T, hs.push⟩
end
section
variable {α β : Type} {h : Heap} {Q : α → Heap → Prop} {R : List Asn}
@[simp] theorem HM.pure_apply (a : α) : HM.pure a h Q = Q a h := rfl
@[simp] theorem HM.bind_apply (m : HM β) (f : β → HM α) : HM.bind m f h Q = m h (fun b h' => f b h' Q) := rfl
@[simp] theorem HM.ite_apply (b : Bool) (x y : HM α) : HM.ite b x y h Q = if b = true then x h Q else y h Q := rfl
@[simp] theorem HM.both_apply (x y : HM α) : HM.both x y h Q = (x h Q ∧ y h Q) := rfl
@[simp] theorem HM.req_apply (p : Prop) (m : HM α) : HM.req p m h Q = (p ∧ m h Q) := rfl
@[simp] theorem HM.fail_apply : (HM.fail : HM α) h Q = False := rfl
@[simp] theorem HM.nonnil_some (a : Addr) (Q : Addr → Heap → Prop) : HM.nonnil (some a) h Q = Q a h := by simp [HM.nonnil]
theorem HM.load1_of {t : Tag} {a : Addr} {x : t.ty} {Q : t.ty → Heap → Prop} (hc : cellH h a = some (t.val x)) (hq : Q x h) : HM.load1 t a h Q := ⟨x, hc, hq⟩
@[simp] theorem Addr.add_at (b o n : Nat) : Addr.add ⟨b, o, none⟩ n = ⟨b, o + n, none⟩ := by
  cases n <;> simp [Addr.add]
@[simp] theorem load1_int (k : IntKind) (a : Addr) (Q : Int → Heap → Prop) : HM.load1 (.int k) a h Q = ∃ x, cellH h a = some (.int k x) ∧ Q x h := rfl
@[simp] theorem load1_bool (a : Addr) (Q : Bool → Heap → Prop) : HM.load1 .bool a h Q = ∃ x, cellH h a = some (.bool x) ∧ Q x h := rfl
@[simp] theorem load1_str (a : Addr) (Q : ByteArray → Heap → Prop) : HM.load1 .str a h Q = ∃ x, cellH h a = some (.string x) ∧ Q x h := rfl
@[simp] theorem load1_ptr (a : Addr) (Q : Option Addr → Heap → Prop) : HM.load1 .ptr a h Q = ∃ x, cellH h a = some (.pointer x) ∧ Q x h := rfl
@[simp] theorem load1_map (a : Addr) (Q : Option Nat → Heap → Prop) : HM.load1 .map a h Q = ∃ x, cellH h a = some (.map x) ∧ Q x h := rfl
@[simp] theorem load1_any (a : Addr) (Q : Value → Heap → Prop) : HM.load1 .any a h Q = ∃ x, cellH h a = some x ∧ Q x h := rfl
def slcOf : Option Value → Option Slc
  | some (.slice p n c) => some ⟨p, n, c⟩
  | _ => none
@[simp] theorem slcOf_slice (p : Option Addr) (n c : Nat) : slcOf (some (.slice p n c)) = some ⟨p, n, c⟩ := rfl
@[simp] theorem Slc.eta (s : Slc) : (⟨s.a, s.len, s.cap⟩ : Slc) = s := rfl
@[simp] theorem load1_slc (a : Addr) (Q : Slc → Heap → Prop) : HM.load1 .slc a h Q = ∃ x, slcOf (cellH h a) = some x ∧ Q x h := by
  refine propext ⟨fun ⟨x, h1, h2⟩ => ⟨x, by rw [h1]; rfl, h2⟩, fun ⟨x, h1, h2⟩ => ⟨x, ?_, h2⟩⟩
  unfold slcOf at h1
  split at h1
  · rename_i e; rw [e]; cases h1; rfl
  · cases h1
theorem q_ag {b : Nat} {cs : Array Value} {i : Nat} {v : Value} {Q : Unit → Heap → Prop} (hs : sat h (cells b cs :: R)) (hi : i < cs.size) (hv : v.oneCell' = true)
    (hq : ∀ h', sat h' (cells b (cs.setIfInBounds i v) :: R) → Q () h') : HM.store1 ⟨b, i, none⟩ v h Q :=
  ⟨by rw [hs.cell i]; simp [hi], hs.free i, hv, hq _ (hs.set i v)⟩
theorem q_ae {cs : Array Value} {T : TypeId} {Q : Nat → Heap → Prop} (hs : sat h R) (hq : ∀ b h', sat h' (cells b cs :: R) → Q b h') : HM.new (.cells cs T) h Q := hq _ _ hs.push_cells
theorem new_blk {o : Obj} {Q : Nat → Heap → Prop} (hs : sat h R) (hq : ∀ b h', sat h' (blk b o :: R) → Q b h') : HM.new o h Q := hq _ _ hs.push
def Kind.un (k : Kind) (Q : k.ty → Heap → Prop) (v : Value) (h : Heap) : Prop := ∃ x, v = k.val x ∧ Q x h
def KTup.un (ks : List Kind) (Q : KTup ks → Heap → Prop) (v : Value) (h : Heap) : Prop := ∃ x, v = .tuple (KTup.vals ks x).toArray ∧ Q x h
@[simp] theorem HM.call1_apply (P : Program) (k : Kind) (f : FuncId) (args : Array Value) (Q : k.ty → Heap → Prop) : HM.call1 P k f args h Q = HCalls P f args h (k.un Q) := rfl
@[simp] theorem HM.callN_apply (P : Program) (ks : List Kind) (f : FuncId) (args : Array Value) (Q : KTup ks → Heap → Prop) : HM.callN P ks f args h Q = HCalls P f args h (KTup.un ks Q) := rfl
@[simp] theorem un_int (k : IntKind) (Q : Int → Heap → Prop) (n : Int) : Kind.un (.one (.int k)) Q (.int k n) h = Q n h := by simp [Kind.un, Kind.val, Tag.val]
@[simp] theorem un_bool (Q : Bool → Heap → Prop) (b : Bool) : Kind.un (.one .bool) Q (.bool b) h = Q b h := by
  simp only [Kind.un, Kind.val, Tag.val, Value.bool.injEq]
  exact propext ⟨fun ⟨x, h1, h2⟩ => h1 ▸ h2, fun h => ⟨b, rfl, h⟩⟩
@[simp] theorem un_str (Q : ByteArray → Heap → Prop) (b : ByteArray) : Kind.un (.one .str) Q (.string b) h = Q b h := by simp [Kind.un, Kind.val, Tag.val]
@[simp] theorem un_ptr (Q : Option Addr → Heap → Prop) (b : Option Addr) : Kind.un (.one .ptr) Q (.pointer b) h = Q b h := by simp [Kind.un, Kind.val, Tag.val]
@[simp] theorem un_map (Q : Option Nat → Heap → Prop) (b : Option Nat) : Kind.un (.one .map) Q (.map b) h = Q b h := by simp [Kind.un, Kind.val, Tag.val]
@[simp] theorem un_any (Q : Value → Heap → Prop) (b : Value) : Kind.un (.one .any) Q b h = Q b h := by simp [Kind.un, Kind.val, Tag.val]
@[simp] theorem un_slc (Q : Slc → Heap → Prop) (a : Option Addr) (n c : Nat) : Kind.un (.one .slc) Q (.slice a n c) h = Q ⟨a, n, c⟩ h := by
  refine propext ⟨?_, fun hq => ⟨⟨a, n, c⟩, rfl, hq⟩⟩
  rintro ⟨x, h1, h2⟩
  cases h1
  exact h2
theorem q_ab {β : Type} {P : Program} {k : Kind} {f : FuncId} {args : Array Value} {g : k.ty → HM β} {h : Heap} {Q : β → Heap → Prop} (hc : HCalls P f args h (k.un fun x h' => g x h' Q)) : (HM.bind (HM.call1 P k f args) g) h Q := hc
theorem q_az {β : Type} {P : Program} {ks : List Kind} {f : FuncId} {args : Array Value} {g : KTup ks → HM β} {h : Heap} {Q : β → Heap → Prop} (hc : HCalls P f args h (KTup.un ks fun x h' => g x h' Q)) : (HM.bind (HM.callN P ks f args) g) h Q := hc
@[simp] theorem un2 (k l : Kind) (Q : KTup [k, l] → Heap → Prop) (v w : Value) : KTup.un [k, l] Q (.tuple #[v, w]) h = k.un (fun x _ => l.un (fun y h => Q (x, y, ()) h) w h) v h := by
  refine propext ⟨?_, ?_⟩
  · rintro ⟨⟨x, y, u⟩, h1, h2⟩
    have h1 : #[v, w] = [k.val x, l.val y].toArray := Value.tuple.inj h1
    have h1 := congrArg Array.toList h1
    simp at h1
    exact ⟨x, h1.1, y, h1.2, h2⟩
  · rintro ⟨x, h1, y, h2, h3⟩
    exact ⟨(x, y, ()), by rw [h1, h2]; rfl, h3⟩
@[simp] theorem un3 (k l m : Kind) (Q : KTup [k, l, m] → Heap → Prop) (v w z : Value) : KTup.un [k, l, m] Q (.tuple #[v, w, z]) h = k.un (fun x _ => l.un (fun y _ => m.un (fun t h => Q (x, y, t, ()) h) z h) w h) v h := by
  refine propext ⟨?_, ?_⟩
  · rintro ⟨⟨x, y, t, u⟩, h1, h2⟩
    have h1 : #[v, w, z] = [k.val x, l.val y, m.val t].toArray := Value.tuple.inj h1
    have h1 := congrArg Array.toList h1
    simp at h1
    exact ⟨x, h1.1, y, h1.2.1, t, h1.2.2, h2⟩
  · rintro ⟨x, h1, y, h2, t, h3, h4⟩
    exact ⟨(x, y, t, ()), by rw [h1, h2, h3]; rfl, h4⟩
@[simp] theorem un0 (Q : KTup [] → Heap → Prop) : KTup.un [] Q (.tuple #[]) h = Q () h := by
  refine propext ⟨fun ⟨x, _, h2⟩ => h2, fun h => ⟨(), rfl, h⟩⟩
@[simp] theorem packed0 (x : Unit) : packed [] x = .tuple #[] := rfl
@[simp] theorem packed1 (k : Kind) (x : k.ty) : packed [k] (x, ()) = k.val x := rfl
@[simp] theorem packed2 (k l : Kind) (x : k.ty) (y : l.ty) : packed [k, l] (x, y, ()) = .tuple #[k.val x, l.val y] := rfl
@[simp] theorem packed3 (k l m : Kind) (x : k.ty) (y : l.ty) (z : m.ty) : packed [k, l, m] (x, y, z, ()) = .tuple #[k.val x, l.val y, m.val z] := rfl
@[simp] theorem val_one (t : Tag) (x : t.ty) : Kind.val (.one t) x = t.val x := rfl
@[simp] theorem val_int (k : IntKind) (x : Int) : Tag.val (.int k) x = .int k x := rfl
@[simp] theorem val_bool (x : Bool) : Tag.val .bool x = .bool x := rfl
@[simp] theorem val_str (x : ByteArray) : Tag.val .str x = .string x := rfl
@[simp] theorem val_ptr (x : Option Addr) : Tag.val .ptr x = .pointer x := rfl
@[simp] theorem val_map (x : Option Nat) : Tag.val .map x = .map x := rfl
@[simp] theorem val_any (x : Value) : Tag.val .any x = x := rfl
@[simp] theorem val_slc (x : Slc) : Tag.val .slc x = .slice x.a x.len x.cap := rfl
@[simp] theorem ex_int {k : IntKind} {n : Int} {Q : Int → Prop} : (∃ x : Int, Value.int k n = .int k x ∧ Q x) = Q n := by simp
theorem loop_of {σ τ : Type} {body : σ → HM (σ ⊕ τ)} {s : σ} {Q : τ → Heap → Prop} (I : σ → Heap → Prop) (μ : σ → Heap → Nat) (h0 : I s h) (hr : ∀ s h, I s h → body s h fun r h' => match r with
      | .inl s' => I s' h' ∧ μ s' h' < μ s h
      | .inr t => Q t h') : HM.loop body s h Q := ⟨I, μ, h0, hr⟩
theorem loop_ghost {σ τ : Type} {body : σ → HM (σ ⊕ τ)} {s : σ} {h : Heap} {Q : τ → Heap → Prop} (I : Nat → σ → Heap → Prop) {n : Nat} (h0 : I n s h)
    (hr : ∀ n s h, I n s h → body s h fun r h' => match r with
      | .inl s' => ∃ m, m < n ∧ I m s' h'
      | .inr t => Q t h') (hmono : ∀ s h (Q1 Q2 : σ ⊕ τ → Heap → Prop), (∀ r h', Q1 r h' → Q2 r h') → body s h Q1 → body s h Q2) : HM.loop body s h Q := by
  classical
  have least : ∀ s h, (∃ n, I n s h) → ∃ n, I n s h ∧ ∀ m, I m s h → n ≤ m := by
    intro s h ⟨n, hn⟩
    induction n using Nat.strongRecOn with
    | _ n ih =>
      by_cases hx : ∃ m, m < n ∧ I m s h
      · obtain ⟨m, hm, hi⟩ := hx; exact ih m hm hi
      · exact ⟨n, hn, fun m hm => by
          rcases Nat.lt_or_ge m n with hlt | hge
          · exact absurd ⟨m, hlt, hm⟩ hx
          · exact hge⟩
  refine ⟨fun s h => ∃ n, I n s h, fun s h => if hx : ∃ n, I n s h then Classical.choose (least s h hx) else 0, ⟨n, h0⟩, fun s h hx => ?_⟩
  obtain ⟨hc1, hc2⟩ := Classical.choose_spec (least s h hx)
  refine hmono s h _ _ ?_ (hr _ s h hc1)
  intro r h' hq
  cases r with
  | inr t => exact hq
  | inl s' =>
    obtain ⟨m, hm, hi⟩ := hq
    have hx' : ∃ n, I n s' h' := ⟨m, hi⟩
    refine ⟨hx', ?_⟩
    simp only [dif_pos hx, dif_pos hx']
    obtain ⟨_, hd2⟩ := Classical.choose_spec (least s' h' hx')
    exact Nat.lt_of_le_of_lt (hd2 m hi) hm
end
section
variable {K V : Type} [DecidableEq K]
def mget (l : List (K × V)) (k : K) : Option V := (l.find? (fun p => decide (p.1 = k))).map (·.2)
def mset : List (K × V) → K → V → List (K × V)
  | [], k, v => [(k, v)]
  | (a, b) :: l, k, v => if a = k then (k, v) :: l else (a, b) :: mset l k v
def mdel : List (K × V) → K → List (K × V)
  | [], _ => []
  | (a, b) :: l, k => if a = k then l else (a, b) :: mdel l k
@[simp] theorem mget_nil (k : K) : mget ([] : List (K × V)) k = none := rfl
theorem q_af (a : K) (b : V) (l : List (K × V)) (k : K) : mget ((a, b) :: l) k = if a = k then some b else mget l k := by
  by_cases h : a = k <;> simp [mget, List.find?, h]
theorem q_ai (l : List (K × V)) (k : K) (v : V) (k' : K) : mget (mset l k v) k' = if k = k' then some v else mget l k' := by
  induction l with
  | nil => simp [mset, q_af]
  | cons p l ih =>
    obtain ⟨a, b⟩ := p
    simp only [mset]
    by_cases h : a = k
    · rw [if_pos h, q_af, q_af]
      by_cases h' : k = k'
      · simp [h']
      · rw [if_neg h', if_neg h', if_neg (by rw [h]; exact h')]
    · rw [if_neg h, q_af, q_af, ih]
      by_cases h' : k = k'
      · subst h'; simp [h]
      · simp [h']
def Ents (ek : K → Value) (ev : V → Value) (l : List (K × V)) (es : List MapEntry) : Prop := es.map (fun e => (e.key, e.val)) = l.map (fun p => (ek p.1, ev p.2))
structure KeyLaw (kd : SameK) (ek : K → Value) : Prop where
  same : ∀ a b, kd (ek a) (ek b) = some (decide (a = b))
  bits : ∀ a, Instr.sameBits 10000 (ek a) (ek a) = true
theorem place_of {kd : SameK} {ek : K → Value} (hk : KeyLaw kd ek) {ev : V → Value} (k : K) : ∀ (l : List (K × V)) (es : List MapEntry) (i : Nat), Ents ek ev l es →
    (mget l k = none ∧ placeAt kd (ek k) es i = some none) ∨ ∃ v j e, mget l k = some v ∧ placeAt kd (ek k) es i = some (some (i + j, ev v)) ∧ es[j]? = some e ∧ e.key = ek k
  | [], [], i, _ => .inl ⟨rfl, rfl⟩
  | [], _ :: _, i, h => by simp [Ents] at h
  | _ :: _, [], i, h => by simp [Ents] at h
  | (a, b) :: l, e :: es, i, h => by
    simp only [Ents, List.map_cons, List.cons.injEq, Prod.mk.injEq] at h
    obtain ⟨⟨h1, h2⟩, h3⟩ := h
    simp only [placeAt, h1, hk.same, q_af]
    by_cases hka : k = a
    · subst hka
      right
      exact ⟨b, 0, e, by simp, by simp [h2], rfl, h1⟩
    · have hak : ¬ a = k := fun hh => hka hh.symm
      simp only [hka, hak, decide_false, if_false]
      rcases place_of hk k l es (i + 1) h3 with ⟨h4, h5⟩ | ⟨v, j, e', h4, h5, h6, h7⟩
      · exact .inl ⟨h4, h5⟩
      · exact .inr ⟨v, j + 1, e', h4, by rw [h5]; congr 3; omega, by simpa using h6, h7⟩
theorem ents_set {ek : K → Value} (hinj : ∀ a b, ek a = ek b → a = b) {ev : V → Value} (k : K) (x : V) : ∀ (l : List (K × V)) (es : List MapEntry), Ents ek ev l es → ∀ (i : Nat) (o : Nat × Value) (kd : SameK), KeyLaw kd ek →
    placeAt kd (ek k) es i = some (some o) → Ents ek ev (mset l k x) (es.modify (o.1 - i) fun e => { e with key := ek k, val := ev x }) ∧ i ≤ o.1
  | [], [], _, i, o, kd, _, hf => by simp [placeAt] at hf
  | [], _ :: _, h, _, _, _, _, _ => by simp [Ents] at h
  | _ :: _, [], h, _, _, _, _, _ => by simp [Ents] at h
  | (a, b) :: l, e :: es, h, i, o, kd, hk, hf => by
    simp only [Ents, List.map_cons, List.cons.injEq, Prod.mk.injEq] at h
    obtain ⟨⟨h1, h2⟩, h3⟩ := h
    simp only [placeAt, h1, hk.same] at hf
    by_cases hka : k = a
    · subst hka
      simp only [decide_true, Option.some.injEq] at hf
      subst hf
      simp only [Nat.sub_self, mset, if_true]
      refine ⟨?_, Nat.le_refl _⟩
      simp [Ents, List.modify_zero_cons] at h3 ⊢
      exact h3
    · simp only [hka, decide_false] at hf
      obtain ⟨h4, h5⟩ := ents_set hinj k x l es h3 (i + 1) o kd hk hf
      refine ⟨?_, by omega⟩
      rw [show o.1 - i = (o.1 - (i + 1)) + 1 from by omega]
      simp only [mset, if_neg (fun hh : a = k => hka hh.symm), List.modify_succ_cons]
      simp only [Ents, List.map_cons, h1, h2]
      rw [h4]
theorem q_d0 : ∀ (l : List (K × V)) (k : K) (v : V), mget l k = none → mset l k v = l ++ [(k, v)]
  | [], _, _, _ => rfl
  | (a, b) :: l, k, v, h => by
    rw [q_af] at h
    by_cases hak : a = k
    · rw [if_pos hak] at h; cases h
    · rw [if_neg hak] at h
      simp only [mset, if_neg hak, List.cons_append, q_d0 l k v h]
theorem ents_del {ek : K → Value} {ev : V → Value} (k : K) : ∀ (l : List (K × V)) (es : List MapEntry), Ents ek ev l es → ∀ (i : Nat) (o : Nat × Value) (kd : SameK), KeyLaw kd ek →
    placeAt kd (ek k) es i = some (some o) → Ents ek ev (mdel l k) (es.eraseIdx (o.1 - i)) ∧ i ≤ o.1
  | [], [], _, i, o, kd, _, hf => by simp [placeAt] at hf
  | [], _ :: _, h, _, _, _, _, _ => by simp [Ents] at h
  | _ :: _, [], h, _, _, _, _, _ => by simp [Ents] at h
  | (a, b) :: l, e :: es, h, i, o, kd, hk, hf => by
    simp only [Ents, List.map_cons, List.cons.injEq, Prod.mk.injEq] at h
    obtain ⟨⟨h1, h2⟩, h3⟩ := h
    simp only [placeAt, h1, hk.same] at hf
    by_cases hka : k = a
    · subst hka
      simp only [decide_true, Option.some.injEq] at hf
      subst hf
      simp only [Nat.sub_self, mdel, if_true]
      exact ⟨h3, Nat.le_refl _⟩
    · simp only [hka, decide_false] at hf
      obtain ⟨h4, h5⟩ := ents_del k l es h3 (i + 1) o kd hk hf
      refine ⟨?_, by omega⟩
      rw [show o.1 - i = (o.1 - (i + 1)) + 1 from by omega]
      simp only [mdel, if_neg (fun hh : a = k => hka hh.symm), List.eraseIdx_cons_succ]
      simp only [Ents, List.map_cons, h1, h2]
      rw [h4]
theorem mdel_none : ∀ (l : List (K × V)) (k : K), mget l k = none → mdel l k = l
  | [], _, _ => rfl
  | (a, b) :: l, k, h => by
    rw [q_af] at h
    by_cases hak : a = k
    · rw [if_pos hak] at h; cases h
    · rw [if_neg hak] at h
      simp only [mdel, if_neg hak, mdel_none l k h]
end
section
variable {K V : Type}
def mapA (ek : K → Value) (ev : V → Value) (r : Nat) (l : List (K × V)) : Asn :=
  exA fun x : Array MapEntry × Nat => star (pr (Ents ek ev l x.1.toList ∧ Stamped x.1 x.2)) (blk r (.map x.1 x.2))
variable {h : Heap} {R : List Asn} {ek : K → Value}
theorem q_bg {ev : V → Value} {r : Nat} {l : List (K × V)} : sat h (mapA ek ev r l :: R) ↔ ∃ es clock, (Ents ek ev l es.toList ∧ Stamped es clock) ∧ sat h (blk r (.map es clock) :: R) := by
  unfold mapA
  rw [sat.ex_iff]
  constructor
  · rintro ⟨⟨es, c⟩, hs⟩
    rw [sat.star_iff, sat.pr_iff] at hs
    exact ⟨es, c, hs⟩
  · rintro ⟨es, c, hs⟩
    exact ⟨(es, c), by rw [sat.star_iff, sat.pr_iff]; exact hs⟩
theorem new_map {ev : V → Value} {Q : Nat → Heap → Prop} (hs : sat h R) (hq : ∀ r h', sat h' (mapA ek ev r [] :: R) → Q r h') : HM.new (.map #[] 0) h Q :=
  new_blk hs fun r h' hs' => hq r h' (q_bg.2 ⟨#[], 0, ⟨rfl, Go.MapKept.stamped_empty 0⟩, hs'⟩)
theorem len_map {ev : V → Value} {r : Nat} {l : List (K × V)} {Q : Int → Heap → Prop} (hs : sat h (mapA ek ev r l :: R)) (hq : Q (l.length : Int) h) : HM.mapLen (some r) h Q := by
  obtain ⟨es, c, ⟨he, hst⟩, hs⟩ := q_bg.1 hs
  refine ⟨es.toList, c, by simpa [entriesH] using hs.get, ?_⟩
  have := congrArg List.length he
  simp at this
  simpa [this] using hq
theorem sat.map_nodup {ev : V → Value} {r : Nat} {l : List (K × V)} (hs : sat h (mapA ek ev r l :: R)) : (l.map (·.1)).Nodup := by
  obtain ⟨es, c, ⟨he, hst⟩, hs⟩ := q_bg.1 hs
  have hk := hst.2.2
  have e : es.toList.map (·.key) = (l.map (·.1)).map ek := by
    have := congrArg (List.map Prod.fst) he
    simpa [Function.comp_def] using this
  rw [e] at hk
  exact List.Pairwise.of_map ek (fun a b hne hab => hne (congrArg ek hab)) hk
end
section
variable {K V : Type} [DecidableEq K] {h : Heap} {R : List Asn} {ek : K → Value}
theorem q_ap {kd : SameK} (hk : KeyLaw kd ek) {kind : Kind} {z : kind.ty} {zero : Value} (hz : zero = kind.val z) {r : Nat} {l : List (K × kind.ty)} {k : K} {Q : kind.ty × Bool → Heap → Prop}
    (hs : sat h (mapA ek kind.val r l :: R)) (hq : Q ((mget l k).getD z, (mget l k).isSome) h) : HM.lookup kd zero kind (some r) (ek k) h Q := by
  obtain ⟨es, c, ⟨he, hst⟩, hs⟩ := q_bg.1 hs
  rcases place_of hk k l es.toList 0 he with ⟨h1, h2⟩ | ⟨v, j, e, h1, h2, -, -⟩
  · refine ⟨es.toList, c, none, z, by simpa [entriesH] using hs.get, h2, hz, ?_⟩
    rw [h1] at hq; exact hq
  · refine ⟨es.toList, c, some (0 + j, kind.val v), v, by simpa [entriesH] using hs.get, h2, rfl, ?_⟩
    rw [h1] at hq; exact hq
theorem q_a7 (l : List (K × V)) (k : K) : mget l k = none ↔ k ∉ l.map (·.1) := by
  induction l with
  | nil => simp
  | cons p l ih =>
    obtain ⟨a, b⟩ := p
    rw [q_af]
    by_cases h : a = k
    · simp [h]
    · rw [if_neg h, ih]
      simp [Ne.symm h]
theorem q_fu {kd : SameK} (hk : KeyLaw kd ek) (hinj : ∀ a b, ek a = ek b → a = b) {ev : V → Value} {r : Nat} {l : List (K × V)} {k : K} {x : V} {Q : Unit → Heap → Prop}
    (hs : sat h (mapA ek ev r l :: R)) (hq : ∀ h', sat h' (mapA ek ev r (mset l k x) :: R) → Q () h') : HM.mapSet kd (some r) (ek k) (ev x) h Q := by
  obtain ⟨es, c, ⟨he, hst⟩, hs⟩ := q_bg.1 hs
  have hlt := hs.lt
  rcases place_of hk k l es.toList 0 he with ⟨h1, h2⟩ | ⟨v, j, e, h1, h2, h3, h4⟩
  · refine ⟨r, es, c, none, rfl, hs.get, h2, hq _ (q_bg.2 ⟨_, _, ⟨?_, ?_⟩, hs.turn (o' := .map (es.push { key := ek k, val := ev x, born := c }) (c + 1)) (by simp [hlt]) (fun k hk => ?_)⟩)⟩
    · rw [q_d0 l k x h1]
      simp only [Ents, Array.toList_push, List.map_append, List.map_cons, List.map_nil]
      rw [he]
    · refine Go.MapKept.stamped_push hst fun y hy hyk => ?_
      have e : es.toList.map (·.key) = (l.map (·.1)).map ek := by
        have := congrArg (List.map Prod.fst) he
        simpa [Function.comp_def] using this
      have hm : ek k ∈ (l.map (·.1)).map ek := by rw [← e, ← hyk]; exact List.mem_map_of_mem hy
      obtain ⟨k', hk', he'⟩ := List.mem_map.1 hm
      exact (q_a7 l k).1 h1 (hinj _ _ he' ▸ hk')
    · rw [Array.getElem?_setIfInBounds, if_neg (fun e => hk e.symm)]
  · have h3' : es[0 + j]? = some e := by simpa using h3
    refine ⟨r, es, c, some (0 + j, ev v), rfl, hs.get, h2, ?_, hk.bits k, hq _ (q_bg.2 ⟨_, _, ⟨?_, ?_⟩, hs.turn (o' := .map (es.modify (0 + j) fun e => { e with key := ek k, val := ev x }) c) (by simp [hlt]) (fun k hk => ?_)⟩)⟩
    · rw [h3']; exact h4
    · have := (ents_set hinj k x l es.toList he 0 _ kd hk h2).1
      simpa using this
    · refine Go.MapKept.stamped_modify hst _ _ (fun _ _ => rfl) (fun e' _ he' => ?_)
      rw [h3'] at he'
      cases he'
      exact h4.symm
    · rw [Array.getElem?_setIfInBounds, if_neg (fun e => hk e.symm)]
theorem q_h8 {kd : SameK} (hk : KeyLaw kd ek) {ev : V → Value} {r : Nat} {l : List (K × V)} {k : K} {Q : Unit → Heap → Prop}
    (hs : sat h (mapA ek ev r l :: R)) (hq : ∀ h', sat h' (mapA ek ev r (mdel l k) :: R) → Q () h') : HM.mapDel kd (some r) (ek k) h Q := by
  obtain ⟨es, c, ⟨he, hst⟩, hs⟩ := q_bg.1 hs
  have hlt := hs.lt
  rcases place_of hk k l es.toList 0 he with ⟨h1, h2⟩ | ⟨v, j, e, h1, h2, h3, h4⟩
  · refine ⟨es, c, none, hs.get, h2, hq _ (q_bg.2 ⟨es, c, ⟨by rw [mdel_none l k h1]; exact he, hst⟩, hs.turn (by simp [hlt]) (fun k hk => ?_)⟩)⟩
    rw [Array.getElem?_setIfInBounds, if_neg (fun e => hk e.symm)]
  · refine ⟨es, c, some (0 + j, ev v), hs.get, h2, hq _ (q_bg.2 ⟨_, _, ⟨?_, Go.MapKept.stamped_erase hst (0 + j)⟩, hs.turn (o' := .map (es.eraseIdxIfInBounds (0 + j)) c) (by simp [hlt]) (fun k hk => ?_)⟩)⟩
    · have := (ents_del k l es.toList he 0 _ kd hk h2).1
      have hj : j < es.size := by
        have := (List.getElem?_eq_some_iff.1 h3).1
        simpa using this
      simpa [Array.eraseIdxIfInBounds, hj] using this
    · rw [Array.getElem?_setIfInBounds, if_neg (fun e => hk e.symm)]
end
theorem key_int (k : IntKind) : KeyLaw (Instr.sameNow (.int k)) (fun n : Int => Value.int k n) := ⟨fun a b => by simp [Instr.sameNow]; exact Bool.eq_iff_iff.2 (by simp), fun a => by simp [Instr.sameBits]⟩
theorem key_str : KeyLaw (Instr.sameNow .string) (fun s : ByteArray => Value.string s) := ⟨fun a b => by
  simp only [Instr.sameNow, Option.some.injEq]
  exact (beq_toListBytes a b).trans (str_eq a b), fun a => by simp [Instr.sameBits, beq_toListBytes]⟩
theorem inj_str : ∀ a b : ByteArray, Value.string a = Value.string b → a = b := fun a b h => by cases h; rfl
theorem inj_int (k : IntKind) : ∀ a b : Int, Value.int k a = Value.int k b → a = b := fun a b h => by cases h; rfl
end Go.H
namespace Go.H
set_option linter.unusedSimpArgs false
set_option linter.unusedVariables false
class Mono {α : Type} (m : HM α) : Prop where
  mono : ∀ (h : Heap) (Q1 Q2 : α → Heap → Prop), (∀ a h', Q1 a h' → Q2 a h') → m h Q1 → m h Q2
section
variable {α β σ τ : Type}
instance mono_pure (a : α) : Mono (HM.pure a) := ⟨fun _ _ _ hq hm => hq _ _ hm⟩
instance mono_bind (m : HM α) (f : α → HM β) [Mono m] [hf : ∀ a, Mono (f a)] : Mono (HM.bind m f) :=
  ⟨fun h _ _ hq hm => Mono.mono (m := m) h _ _ (fun a h' hx => (hf a).mono h' _ _ hq hx) hm⟩
instance : Mono (HM.fail : HM α) := ⟨fun _ _ _ _ hm => hm⟩
instance mono_both (x y : HM α) [hx : Mono x] [hy : Mono y] : Mono (HM.both x y) := ⟨fun h Q Q' hq hm => ⟨hx.mono h Q Q' hq hm.1, hy.mono h Q Q' hq hm.2⟩⟩
instance mono_ite (b : Bool) (x y : HM α) [Mono x] [Mono y] : Mono (HM.ite b x y) := ⟨fun h _ _ hq hm => by
  cases b
  · exact Mono.mono (m := y) h _ _ hq hm
  · exact Mono.mono (m := x) h _ _ hq hm⟩
instance mono_req (p : Prop) (m : HM α) [Mono m] : Mono (HM.req p m) := ⟨fun h _ _ hq hm => ⟨hm.1, Mono.mono (m := m) h _ _ hq hm.2⟩⟩
instance mono_loop (body : σ → HM (σ ⊕ τ)) (s : σ) [hb : ∀ s, Mono (body s)] : Mono (HM.loop body s) := ⟨fun _ _ _ hq => by
  rintro ⟨I, μ, h0, hr⟩
  refine ⟨I, μ, h0, fun s h hi => (hb s).mono h _ _ ?_ (hr s h hi)⟩
  intro r h' hx
  cases r with
  | inl _ => exact hx
  | inr _ => exact hq _ _ hx⟩
instance mono_elim (f : α → HM τ) (g : β → HM τ) (x : α ⊕ β) [hf : ∀ a, Mono (f a)] [hg : ∀ b, Mono (g b)] : Mono (Sum.elim f g x : HM τ) := by
  cases x with
  | inl a => exact hf a
  | inr b => exact hg b
instance (t : Tag) (a : Addr) : Mono (α := no_index (Tag.ty t)) (HM.load1 t a) := ⟨fun _ _ _ hq ⟨x, h1, h2⟩ => ⟨x, h1, hq _ _ h2⟩⟩
instance (ts : List Tag) (a : Addr) : Mono (α := no_index (Tup ts)) (HM.loadN ts a) := ⟨fun _ _ _ hq ⟨x, h1, h2⟩ => ⟨x, h1, hq _ _ h2⟩⟩
instance (a : Addr) (v : Value) : Mono (HM.store1 a v) := ⟨fun _ _ _ hq ⟨x, h1, h2, h3⟩ => ⟨x, h1, h2, hq _ _ h3⟩⟩
instance (a : Addr) (vs : List Value) : Mono (HM.storeN a vs) := ⟨fun _ _ _ hq ⟨x, h1⟩ => ⟨x, hq _ _ h1⟩⟩
instance (o : Obj) : Mono (HM.new o) := ⟨fun _ _ _ hq hm => hq _ _ hm⟩
instance (p : Option Addr) : Mono (HM.nonnil p) := ⟨fun _ _ _ hq ⟨x, h1, h2⟩ => ⟨x, h1, hq _ _ h2⟩⟩
instance (a : Option Addr) (len : Nat) (i : Int) (size : Nat) : Mono (HM.idx a len i size) := ⟨fun _ _ _ hq ⟨x, h1, h2, h3, h4⟩ => ⟨x, h1, h2, h3, hq _ _ h4⟩⟩
instance (s : ByteArray) (i : Int) : Mono (HM.strIdx s i) := ⟨fun _ _ _ hq ⟨x, h1, h2, h3⟩ => ⟨x, h1, h2, hq _ _ h3⟩⟩
instance (P : Program) (k : Kind) (f : FuncId) (args : Array Value) : Mono (α := no_index (Kind.ty k)) (HM.call1 P k f args) := ⟨fun _ _ _ hq hm => HCalls.mono hm fun _ _ ⟨x, h1, h2⟩ => ⟨x, h1, hq _ _ h2⟩⟩
instance (P : Program) (ks : List Kind) (f : FuncId) (args : Array Value) : Mono (α := no_index (KTup ks)) (HM.callN P ks f args) := ⟨fun _ _ _ hq hm => HCalls.mono hm fun _ _ ⟨x, h1, h2⟩ => ⟨x, h1, hq _ _ h2⟩⟩
instance (P : Program) (k : Kind) (v : Value) (args : Array Value) : Mono (α := no_index (Kind.ty k)) (HM.callV1 P k v args) := ⟨fun _ _ _ hq ⟨f, first, captured, h1, h2, hm⟩ => ⟨f, first, captured, h1, h2, HCalls.mono hm fun _ _ ⟨x, h1, h2⟩ => ⟨x, h1, hq _ _ h2⟩⟩⟩
instance (P : Program) (ks : List Kind) (v : Value) (args : Array Value) : Mono (α := no_index (KTup ks)) (HM.callVN P ks v args) := ⟨fun _ _ _ hq ⟨f, first, captured, h1, h2, hm⟩ => ⟨f, first, captured, h1, h2, HCalls.mono hm fun _ _ ⟨x, h1, h2⟩ => ⟨x, h1, hq _ _ h2⟩⟩⟩
instance (s : Slc) (lo hi mx : Option Int) (size : Nat) : Mono (HM.slice s lo hi mx size) := ⟨fun _ _ _ hq ⟨l, hh, m, h1, h2, h3, h4⟩ => ⟨l, hh, m, h1, h2, h3, hq _ _ h4⟩⟩
instance (s : ByteArray) (lo hi : Option Int) : Mono (HM.substr s lo hi) := ⟨fun _ _ _ hq ⟨l, hh, h1, h2, h4⟩ => ⟨l, hh, h1, h2, hq _ _ h4⟩⟩
instance (elem : TypeId) (size bytes : Nat) (zero : Array Value) (s : Slc) (n : Nat) (src : Heap → Array Value → Prop) : Mono (HM.append elem size bytes zero s n src) := ⟨fun h Q1 Q2 hq hm => by
  refine ⟨fun hc => ?_, fun hc => ?_⟩
  · obtain ⟨vs, h1, h2⟩ := hm.1 hc
    refine ⟨vs, h1, ?_⟩
    cases hs : s.a with
    | none => rw [hs] at h2; exact hq _ _ h2
    | some a => rw [hs] at h2; exact ⟨h2.1, hq _ _ h2.2⟩
  · obtain ⟨h1, h2, old, vs, h3, h4, h5⟩ := hm.2 hc
    exact ⟨h1, h2, old, vs, h3, h4, fun c hc hc2 => hq _ _ (h5 c hc hc2)⟩⟩
instance (elem : TypeId) (bytes : Nat) (zero : Array Value) (n c : Int) : Mono (HM.makeSlice elem bytes zero n c) := ⟨fun _ _ _ hq ⟨h1, h2, h3, h4, h5⟩ => ⟨h1, h2, h3, h4, hq _ _ h5⟩⟩
instance (d : Slc) (n : Nat) (src : Nat → Heap → Array Value → Prop) : Mono (HM.copy d n src) := ⟨fun h Q1 Q2 hq ⟨vs, h1, h2⟩ => by
  refine ⟨vs, h1, ?_⟩
  cases hs : d.a with
  | none => rw [hs] at h2; exact hq _ _ h2
  | some a => rw [hs] at h2; exact ⟨h2.1, hq _ _ h2.2⟩⟩
instance (kd : SameK) (zero : Value) (k : Kind) (r : Option Nat) (key : Value) : Mono (α := no_index (Kind.ty k × Bool)) (HM.lookup kd zero k r key) := ⟨fun _ _ _ hq ⟨es, c, o, x, h1, h2, h3, h4⟩ => ⟨es, c, o, x, h1, h2, h3, hq _ _ h4⟩⟩
instance (kd : SameK) (r : Option Nat) (key val : Value) : Mono (HM.mapSet kd r key val) := ⟨fun h Q1 Q2 hq ⟨b, es, c, o, h1, h2, h3, h4⟩ => by
  refine ⟨b, es, c, o, h1, h2, h3, ?_⟩
  cases o with
  | none => exact hq _ _ h4
  | some o => exact ⟨h4.1, h4.2.1, hq _ _ h4.2.2⟩⟩
instance (kd : SameK) (r : Option Nat) (key : Value) : Mono (HM.mapDel kd r key) := ⟨fun h Q1 Q2 hq hm => by
  cases r with
  | none => exact hq _ _ hm
  | some b =>
    obtain ⟨es, c, o, h1, h2, h3⟩ := hm
    refine ⟨es, c, o, h1, h2, ?_⟩
    cases o with
    | none => exact hq _ _ h3
    | some o => exact hq _ _ h3⟩
instance (zero : Array Value) (s : Slc) : Mono (HM.clearS zero s) := ⟨fun h Q1 Q2 hq hm => by
  unfold HM.clearS at hm ⊢
  cases ha : s.a with
  | none => simp only [ha] at hm ⊢; exact hq _ _ hm
  | some a =>
    simp only [ha] at hm ⊢
    by_cases hn : s.len = 0
    · rw [if_pos hn] at hm ⊢; exact hq _ _ hm
    · rw [if_neg hn] at hm ⊢; exact ⟨hm.1, hq _ _ hm.2⟩⟩
instance (r : Option Nat) : Mono (HM.clearM r) := ⟨fun h Q1 Q2 hq hm => by
  cases r with
  | none => exact hq _ _ hm
  | some r => obtain ⟨es, c, h1, h2⟩ := hm; exact ⟨es, c, h1, hq _ _ h2⟩⟩
instance (r : Option Nat) : Mono (HM.rangeM r) := ⟨fun h Q1 Q2 hq hm => by
  cases r with
  | none => exact hq _ _ hm
  | some r => obtain ⟨es, c, h1, h2⟩ := hm; exact ⟨es, c, h1, hq _ _ h2⟩⟩
instance (b : Nat) : Mono (HM.nextS b) := ⟨fun h Q1 Q2 hq ⟨s, p, h1, h2, h3⟩ => ⟨s, p, h1, fun hp => hq _ _ (h2 hp), fun hp => hq _ _ (h3 hp)⟩⟩
instance (b : Nat) : Mono (HM.nextM b) := ⟨fun h Q1 Q2 hq ⟨m, since, seen, last, h1, h2⟩ => ⟨m, since, seen, last, h1, by
  cases m with
  | none => exact hq _ _ h2
  | some m =>
    obtain ⟨es, c, h3, h4, h5, h6⟩ := h2
    exact ⟨es, c, h3, h4, fun hh => hq _ _ (h5 hh), fun e he hs => hq _ _ (h6 e he hs)⟩⟩⟩
instance (kk kv : Kind) (b : Nat) : Mono (α := no_index (Kind.ty kk × Kind.ty kv)) (HM.entryM kk kv b) := ⟨fun h Q1 Q2 hq ⟨m, since, seen, stepped, es, stamp, e, k, v, h1, h2, h3, h4, h5, h6, h7⟩ => ⟨m, since, seen, stepped, es, stamp, e, k, v, h1, h2, h3, h4, h5, h6, hq _ _ h7⟩⟩
instance (kd : SameK) (zero : Value) (k : Kind) (r : Option Nat) (key : Value) : Mono (α := no_index (Kind.ty k × Int)) (HM.mapEntry kd zero k r key) := ⟨fun h Q1 Q2 hq ⟨b, es, c, o, h1, h2, h3, h4⟩ => ⟨b, es, c, o, h1, h2, h3, by
  cases o with
  | none => obtain ⟨x, h5, h6⟩ := h4; exact ⟨x, h5, hq _ _ h6⟩
  | some p => obtain ⟨h7, h8, x, h5, h6⟩ := h4; exact ⟨h7, h8, x, h5, hq _ _ h6⟩⟩⟩
instance (r : Option Nat) (st : Int) (v : Value) : Mono (HM.entryStore r st v) := ⟨fun h Q1 Q2 hq ⟨b, es, c, i, h1, h2, h3, h4⟩ => ⟨b, es, c, i, h1, h2, h3, hq _ _ h4⟩⟩
instance mono_opt (o : Option α) (a : HM β) (f : α → HM β) [ha : Mono a] [hf : ∀ x, Mono (f x)] : Mono (HM.opt o a f) := ⟨fun h Q1 Q2 hq hm => by
  cases o with
  | none => exact ha.mono _ _ _ hq hm
  | some x => exact (hf x).mono _ _ _ hq hm⟩
instance (s : Slc) : Mono (HM.strOf s) := ⟨fun _ _ _ hq ⟨ns, h1, h2⟩ => ⟨ns, h1, hq _ _ h2⟩⟩
instance (r : Option Nat) : Mono (HM.mapLen r) := ⟨fun _ _ _ hq ⟨es, c, h1, h2⟩ => ⟨es, c, h1, hq _ _ h2⟩⟩
theorem loop_gh {γ : Type} {body : σ → HM (σ ⊕ τ)} {s : σ} {h : Heap} {Q : τ → Heap → Prop} [hb : ∀ s, Mono (body s)] (I : γ → σ → Heap → Prop) (μ : γ → Nat) (g : γ) (h0 : I g s h)
    (hr : ∀ g s h, I g s h → body s h fun r h' => match r with
      | .inl s' => ∃ g', μ g' < μ g ∧ I g' s' h'
      | .inr t => Q t h') : HM.loop body s h Q := by
  refine loop_ghost (fun n s h => ∃ g, μ g = n ∧ I g s h) (n := μ g) ⟨g, rfl, h0⟩ ?_ (fun s h _ _ hq hm => (hb s).mono h _ _ hq hm)
  rintro n s h ⟨g, rfl, hi⟩
  refine (hb s).mono h _ _ ?_ (hr g s h hi)
  intro r h' hx
  cases r with
  | inr t => exact hx
  | inl s' =>
    obtain ⟨g', h1, h2⟩ := hx
    exact ⟨_, h1, g', rfl, h2⟩
def Next {γ σ : Type} (I : γ → σ → Heap → Prop) (μ : γ → Nat) (g : γ) (s : σ) (h : Heap) : Prop := ∃ g', μ g' < μ g ∧ I g' s h
theorem Next.mk {γ σ : Type} {I : γ → σ → Heap → Prop} {μ : γ → Nat} {g : γ} {s : σ} {h : Heap} (g' : γ) (h1 : μ g' < μ g) (h2 : I g' s h) : Next I μ g s h := ⟨g', h1, h2⟩
theorem q_cv {γ : Type} {body : σ → HM (σ ⊕ τ)} {s : σ} {h : Heap} {Q : τ → Heap → Prop} [hb : ∀ s, Mono (body s)] (I : γ → σ → Heap → Prop) (μ : γ → Nat) (g : γ) (h0 : I g s h)
    (hr : ∀ g s h, I g s h → body s h fun r h' => match r with
      | .inl s' => Next I μ g s' h'
      | .inr t => Q t h') : HM.loop body s h Q := loop_gh I μ g h0 hr
end
theorem q_ad {α β : Type} {m : HM α} [hm : Mono m] {f : α → HM β} {h : Heap} {Q : β → Heap → Prop} (P : α → Heap → Prop) (h1 : m h P) (h2 : ∀ a h', P a h' → f a h' Q) : (m.bind f) h Q :=
  hm.mono h P _ h2 h1
end Go.H
namespace Go.H
set_option linter.unusedSimpArgs false
set_option linter.unusedVariables false
open Go.MapKept (Stamped)
section
variable {K V : Type}
def PairE (ek : K → Value) (ev : V → Value) (l : List (K × V)) (es : List MapEntry) : Prop := es.map (fun e => (e.key, e.val)) = l.map (fun p => (ek p.1, ev p.2))
structure ItF (ek : K → Value) (ev : V → Value) (l done todo : List (K × V)) (es : Array MapEntry) (clock : Nat) (seen : Array Nat) (des tes : List MapEntry) : Prop where
  ents : Ents ek ev l es.toList
  stamped : Stamped es clock
  perm : (des ++ tes).Perm es.toList
  seen : seen.toList = des.map (·.born)
  done : PairE ek ev done des
  todo : PairE ek ev todo tes
def itA (ek : K → Value) (ev : V → Value) (m : Nat) (l : List (K × V)) (it : Nat) (done todo : List (K × V)) : Asn :=
  exA fun x : Array MapEntry × Nat × Array Nat × List MapEntry × List MapEntry =>
    star (pr (ItF ek ev l done todo x.1 x.2.1 x.2.2.1 x.2.2.2.1 x.2.2.2.2)) (star (blk it (.mapIter (some m) x.2.1 x.2.2.1 x.2.1)) (blk m (.map x.1 x.2.1)))
variable {h : Heap} {R : List Asn} {ek : K → Value} {ev : V → Value} {m it : Nat} {l done todo : List (K × V)}
theorem itA_iff : sat h (itA ek ev m l it done todo :: R) ↔ ∃ es clock seen des tes, ItF ek ev l done todo es clock seen des tes ∧ sat h (blk it (.mapIter (some m) clock seen clock) :: blk m (.map es clock) :: R) := by
  unfold itA
  rw [sat.ex_iff]
  constructor
  · rintro ⟨⟨es, c, s, d, t⟩, hs⟩
    rw [sat.star_iff, sat.pr_iff, sat.star_iff] at hs
    exact ⟨es, c, s, d, t, hs⟩
  · rintro ⟨es, c, s, d, t, hs⟩
    exact ⟨(es, c, s, d, t), by rw [sat.star_iff, sat.pr_iff, sat.star_iff]; exact hs⟩
theorem range_map {Q : Nat → Heap → Prop} (hs : sat h (mapA ek ev m l :: R)) (hq : ∀ it h', sat h' (itA ek ev m l it [] l :: R) → Q it h') : HM.rangeM (some m) h Q := by
  obtain ⟨es, c, ⟨he, hst⟩, hs⟩ := q_bg.1 hs
  refine ⟨es, c, hs.get, ?_⟩
  refine hq _ _ (itA_iff.2 ⟨es, c, #[], [], es.toList, ⟨he, hst, by simp, rfl, rfl, he⟩, ?_⟩)
  exact hs.push
theorem itA_map (hs : sat h (itA ek ev m l it done todo :: R)) : sat h (mapA ek ev m l :: R) := by
  obtain ⟨es, c, s, d, t, hf, hs⟩ := itA_iff.1 hs
  exact q_bg.2 ⟨es, c, ⟨hf.ents, hf.stamped⟩, hs.drop⟩
theorem next_map {Q : Option (Value × Value) → Heap → Prop} (hs : sat h (itA ek ev m l it done todo :: R)) (h0 : todo = [] → Q none h)
    (h1 : ∀ (p : K × V) (t1 t2 : List (K × V)), todo = t1 ++ p :: t2 → ∀ h', sat h' (itA ek ev m l it (done ++ [p]) (t1 ++ t2) :: R) → Q (some (ek p.1, ev p.2)) h') : HM.nextM it h Q := by
  obtain ⟨es, c, seen, des, tes, hf, hs⟩ := itA_iff.1 hs
  have hborn : ∀ e ∈ es, e.born < c := fun e he => hf.stamped.1 e (by simpa using he)
  have hnd : (es.toList.map (·.born)).Nodup := hf.stamped.2.1
  have hnd' : ((des ++ tes).map (·.born)).Nodup := (hf.perm.map (·.born)).nodup_iff.2 hnd
  rw [List.map_append, List.nodup_append] at hnd'
  have hmem : ∀ e : MapEntry, e ∈ es ↔ e ∈ des ∨ e ∈ tes := fun e => by
    rw [← Array.mem_toList_iff, ← hf.perm.mem_iff, List.mem_append]
  have hseen : ∀ b, seen.contains b = true ↔ b ∈ des.map (·.born) := fun b => by
    rw [← hf.seen]; simp
  have htes : ∀ e ∈ es, seen.contains e.born = false → e ∈ tes := fun e he hc => by
    rcases (hmem e).1 he with hd | ht
    · exact absurd ((hseen e.born).2 (List.mem_map_of_mem hd)) (by rw [hc]; simp)
    · exact ht
  refine ⟨some m, c, seen, c, hs.get, es, c, hs.p1.get, ?_, fun hall => ?_, fun e he hc => ?_⟩
  · by_cases hz : es.isEmpty = true
    · simp [hz]
    · have hne : es ≠ #[] := by simpa using hz
      obtain ⟨e, he⟩ : ∃ e, e ∈ es := ⟨es[0]'(Array.size_pos_iff.2 hne), Array.getElem_mem _⟩
      have hlt := hborn e he
      have : es.all (fun e => decide (e.born ≥ c)) = false := by
        cases hh : es.all (fun e => decide (e.born ≥ c)) with
        | false => rfl
        | true =>
          rw [Array.all_eq_true_iff_forall_mem] at hh
          have := hh e he
          simp at this
          omega
      simp [this]
  ·
    refine h0 ?_
    have : tes = [] := by
      cases tes with
      | nil => rfl
      | cons e t =>
        have he : e ∈ es := (hmem e).2 (.inr (List.mem_cons_self ..))
        have hnc : seen.contains e.born = false := by
          cases hh : seen.contains e.born with
          | false => rfl
          | true =>
            exact absurd rfl (hnd'.2.2 e.born ((hseen _).1 hh) e.born (by simp))
        have := hall e he hnc
        have := hborn e he
        omega
    have ht := hf.todo
    rw [this] at ht
    simp only [PairE, List.map_nil] at ht
    exact List.map_eq_nil_iff.1 ht.symm
  · have ht := htes e he hc
    obtain ⟨t1, t2, rfl⟩ := List.append_of_mem ht
    have htd := hf.todo
    simp only [PairE, List.map_append, List.map_cons] at htd
    obtain ⟨l1, l2', e1, e2, e3⟩ := List.map_eq_append_iff.1 htd.symm
    obtain ⟨p, l2, e4, e5, e6⟩ := List.map_eq_cons_iff.1 e3
    subst e4
    have e5' : (ek p.1, ev p.2) = (e.key, e.val) := e5
    obtain ⟨k1, k2⟩ := Prod.mk.inj e5'
    rw [← k1, ← k2]
    have hlt := hs.lt
    refine h1 p l1 l2 e1 _ (itA_iff.2 ⟨es, c, seen.push e.born, des ++ [e], t1 ++ t2, ⟨hf.ents, hf.stamped, ?_, ?_, ?_, ?_⟩, ?_⟩)
    · refine List.Perm.trans ?_ hf.perm
      rw [List.append_assoc]
      refine List.Perm.append_left des ?_
      show (e :: (t1 ++ t2)).Perm _
      exact List.perm_middle.symm
    · simp [hf.seen]
    · simp only [PairE, List.map_append, List.map_cons, List.map_nil]
      rw [hf.done, e5']
    · simp only [PairE, List.map_append]
      rw [e2, e6]
    · exact hs.turn (o' := .mapIter (some m) c (seen.push e.born) c) (by simp [hlt]) (fun k hk => by rw [Array.getElem?_setIfInBounds, if_neg (fun e => hk e.symm)])
theorem entry_map {kk kv : Kind} {p : K × V} {x : kk.ty} {y : kv.ty} {Q : kk.ty × kv.ty → Heap → Prop} (hk : ek p.1 = kk.val x) (hv : ev p.2 = kv.val y)
    (hs : sat h (itA ek ev m l it (done ++ [p]) todo :: R)) (hq : Q (x, y) h) : HM.entryM kk kv it h Q := by
  obtain ⟨es, c, seen, des, tes, hf, hs⟩ := itA_iff.1 hs
  have hd := hf.done
  simp only [PairE, List.map_append, List.map_cons, List.map_nil] at hd
  obtain ⟨d1, d2', e1, e2, e3⟩ := List.map_eq_append_iff.1 hd
  obtain ⟨e, d2, e4, e5, e6⟩ := List.map_eq_cons_iff.1 e3
  have : d2 = [] := List.map_eq_nil_iff.1 e6
  subst this e4 e1
  obtain ⟨k1, k2⟩ := Prod.mk.inj e5
  have hnd : (es.toList.map (·.born)).Nodup := hf.stamped.2.1
  have hem : e ∈ es.toList := hf.perm.mem_iff.1 (by simp)
  have hfind : es.find? (fun x => x.born == e.born) = some e := by
    rw [← Array.find?_toList]
    obtain ⟨a, b, hab⟩ := List.append_of_mem hem
    rw [hab]
    rw [hab, List.map_append, List.map_cons, List.nodup_append] at hnd
    rw [List.find?_append]
    have : a.find? (fun x => x.born == e.born) = none := by
      rw [List.find?_eq_none]
      intro x hx
      have := hnd.2.2 x.born (List.mem_map_of_mem hx) e.born (by simp)
      simpa using this
    rw [this]
    simp
  have hback : seen.back? = some e.born := by
    have hsn := hf.seen
    rw [List.map_append, List.map_cons, List.map_nil] at hsn
    rw [← Array.getLast?_toList, hsn]
    simp
  exact ⟨m, c, seen, c, es, e.born, e, x, y, hs.get, hback, hs.p1.get, hfind, k1.trans hk, k2.trans hv, hq⟩
end
@[simp] theorem opt_none {α β : Type} (a : HM β) (f : α → HM β) {h : Heap} {Q : β → Heap → Prop} : HM.opt none a f h Q = a h Q := rfl
@[simp] theorem opt_some {α β : Type} (x : α) (a : HM β) (f : α → HM β) {h : Heap} {Q : β → Heap → Prop} : HM.opt (some x) a f h Q = f x h Q := rfl
def bigA {α : Type} (f : α → Asn) : List α → Asn
  | [] => pr True
  | x :: l => star (f x) (bigA f l)
section
variable {α : Type} {f : α → Asn} {h : Heap} {R : List Asn}
theorem q_dq : sat h (bigA f [] :: R) ↔ sat h R := sat.pr_iff.trans ⟨fun hh => hh.2, fun hh => ⟨trivial, hh⟩⟩
theorem q_ao {x : α} {l : List α} : sat h (bigA f (x :: l) :: R) ↔ sat h (f x :: bigA f l :: R) := sat.star_iff
theorem q_an {x : α} {l2 : List α} : ∀ {l1 : List α} {R : List Asn}, sat h (bigA f (l1 ++ x :: l2) :: R) ↔ sat h (f x :: bigA f (l1 ++ l2) :: R)
  | [], R => q_ao
  | y :: l1, R => by
    rw [List.cons_append, List.cons_append, q_ao]
    constructor
    · intro hs
      exact (q_ao.2 (q_an.1 hs.p1).p2.p2.p1).p1
    · intro hs
      exact (q_an.2 (q_ao.1 hs.p1).p2.p2.p1).p1
theorem bigA_mem {x : α} {l : List α} (hx : x ∈ l) (hs : sat h (bigA f l :: R)) : ∃ R', sat h (f x :: R') := by
  obtain ⟨l1, l2, rfl⟩ := List.append_of_mem hx
  exact ⟨_, q_an.1 hs⟩
end
theorem stars_perm {L L' : List Asn} (hp : L.Perm L') : ∀ m, stars L m → stars L' m := by
  induction hp with
  | nil => exact fun _ h => h
  | cons x _ ih => exact fun m h => q_a0 (fun _ h => h) ih h
  | swap x y l => exact fun m h => q_ah h
  | trans _ _ ih1 ih2 => exact fun m h => ih2 m (ih1 m h)
theorem sat.perm {h : Heap} {L L' : List Asn} (hp : L.Perm L') (hs : sat h L) : sat h L' :=
  let ⟨m, h1, h2⟩ := hs
  ⟨m, h1, stars_perm hp m h2⟩
theorem sat.trues {h : Heap} {R : List Asn} : ∀ (n : Nat), sat h R → sat h (List.replicate n (pr True) ++ R)
  | 0, hs => hs
  | n + 1, hs => sat.pr_iff.2 ⟨trivial, sat.trues n hs⟩
theorem sat.re {h : Heap} {L : List Asn} (hs : sat h L) (idx : List Nat) (hi : idx.isPerm (List.range idx.length) = true := by rfl) :
    sat h (idx.map (fun i => L.getD i (pr True)) ++ L.drop idx.length) := by
  have h1 : (idx.map (fun i => L.getD i (pr True))).Perm ((List.range idx.length).map (fun i => L.getD i (pr True))) := (List.isPerm_iff.1 hi).map _
  refine sat.perm (h1.symm.append_right _) ?_
  generalize idx.length = n
  clear h1 hi
  by_cases hn : n ≤ L.length
  · have e : (List.range n).map (fun i => L.getD i (pr True)) = L.take n := by
      refine List.ext_getElem (by simp; omega) fun i h2 h3 => ?_
      simp at h2 h3
      simp [List.getElem?_eq_getElem (show i < L.length by omega)]
    rw [e, List.take_append_drop]
    exact hs
  · rw [List.drop_of_length_le (by omega), List.append_nil]
    have e : (List.range n).map (fun i => L.getD i (pr True)) = L ++ List.replicate (n - L.length) (pr True) := by
      refine List.ext_getElem? fun i => ?_
      rw [List.getElem?_append]
      by_cases h2 : i < L.length
      · simp [h2, show i < n by omega]
      · by_cases h3 : i < n
        · simp [h2, h3, List.getElem?_replicate, show i - L.length < n - L.length by omega, List.getElem?_eq_none (show L.length ≤ i by omega)]
        · simp [h2, h3, List.getElem?_replicate]
          omega
    rw [e]
    exact (sat.trues _ hs).perm List.perm_append_comm
section
variable {K V : Type} [DecidableEq K]
theorem q_f4 : ∀ {l : List (K × V)} {k : K} {v : V}, mget l k = some v → (k, v) ∈ l
  | [], k, v, h => by simp at h
  | (a, b) :: l, k, v, h => by
    rw [q_af] at h
    by_cases e : a = k
    · rw [if_pos e] at h
      cases h
      subst e
      exact List.mem_cons_self ..
    · rw [if_neg e] at h
      exact List.mem_cons_of_mem _ (q_f4 h)
theorem mdel_mid : ∀ {l1 l2 : List (K × V)} {k : K} {v : V}, k ∉ l1.map (·.1) → mdel (l1 ++ (k, v) :: l2) k = l1 ++ l2
  | [], l2, k, v, _ => by simp [mdel]
  | (a, b) :: l1, l2, k, v, h => by
    simp only [List.map_cons, List.mem_cons, not_or] at h
    simp only [List.cons_append, mdel, if_neg (fun e : a = k => h.1 e.symm), mdel_mid h.2]
end
end Go.H
namespace Go.H
set_option linter.unusedSimpArgs false
set_option linter.unusedVariables false
open Go.RowKit
theorem below_of {w w' : World} {R : List Asn} (hs : Same w w') (ho : sat w'.heap (old w.heap :: R)) : Below w.heap.size w w' := by
  refine ⟨hs.os, hs.tape, hs.output, ?_, fun k hk => ?_⟩
  · rcases Nat.eq_zero_or_pos w.heap.size with h0 | hp
    · omega
    · have hg : w.heap[w.heap.size - 1]? = some w.heap[w.heap.size - 1] := Array.getElem?_eq_getElem (by omega)
      have := (Array.getElem?_eq_some_iff.1 (ho.old_get hg)).1
      omega
  · rw [ho.old_get (Array.getElem?_eq_getElem hk), Array.getElem?_eq_getElem hk]
theorem walk_of {P : Program} {f : FuncId} {args : Array Value} {w : World} {v : Value}
    (hc : HCalls P f args w.heap fun v' h' => v' = v ∧ ∃ R, sat h' (old w.heap :: R)) : Calls P f args w fun e w' => e = .returned v ∧ Below w.heap.size w w' :=
  (hc w rfl).mono fun e w' ⟨_, he, hs, hv, R, ho⟩ => ⟨by rw [he, hv], below_of hs ho⟩
def RowAt {α : Type} (enc : α → List Value) (size : Nat) (h0 : Heap) (s : Slc) (xs : List α) : Prop :=
  s.len = xs.length ∧ s.len ≤ s.cap ∧ ∀ (i : Nat) x, xs[i]? = some x → ∃ a, s.a = some a ∧ ∀ j v, (enc x)[j]? = some v → cellH h0 ((a.add (i * size)).add j) = some v
section
variable {α β : Type} {enc : α → List Value} {size : Nat} {h0 h : Heap} {s : Slc} {xs : List α}
theorem q_bi (hr : RowAt enc size h0 s xs) {i : Nat} {x : α} (hx : xs[i]? = some x) {Q : Addr → Heap → Prop}
    (hq : ∀ a, (∀ j v, (enc x)[j]? = some v → cellH h0 (a.add j) = some v) → Q a h) : HM.idx s.a s.len (i : Int) size h Q := by
  obtain ⟨a, ha, hc⟩ := hr.2.2 i x hx
  have hlt := (List.getElem?_eq_some_iff.1 hx).1
  exact ⟨a, ha, by omega, by have := hr.1; omega, hq _ (by simpa using hc)⟩
theorem slice_row (hr : RowAt enc size h0 s xs) {n : Nat} (hn : n ≤ xs.length) {Q : Slc → Heap → Prop}
    (hq : ∀ s', RowAt enc size h0 s' (xs.take n) → Q s' h) : HM.slice s none (some (n : Int)) none size h Q := by
  refine ⟨0, n, s.cap, rfl, ⟨rfl, by have := hr.1; have := hr.2.1; omega⟩, rfl, hq _ ⟨?_, ?_, ?_⟩⟩
  · simp [sliceOf]; omega
  · have := hr.1; have := hr.2.1; simp [sliceOf]; omega
  · intro i x hx
    obtain ⟨a, ha, hc⟩ := hr.2.2 i x (by
      rw [List.getElem?_take] at hx
      split at hx
      · exact hx
      · cases hx)
    refine ⟨a, ?_, hc⟩
    simp only [sliceOf, ha]
    split
    · rfl
    · simp [add_zero]
end
end Go.H
namespace Go.H
set_option linter.unusedSimpArgs false
set_option linter.unusedVariables false
theorem q_al {n : Int} (h1 : -9223372036854775808 ≤ n) (h2 : n ≤ 9223372036854775807) : IntKind.wrap .i64 n = n := by
  simp [IntKind.wrap, IntKind.bits, IntKind.signed]; omega
section
variable {h h' : Heap} {A : Asn} {R : List Asn}
theorem sat.grow (hs : sat h R) (hg : ∀ (k : Nat) o, h[k]? = some o → h'[k]? = some o) : sat h' R := by
  obtain ⟨m, h1, h2⟩ := hs
  exact ⟨m, fun k o ho => hg k o (h1 k o ho), h2⟩
theorem sat.came (hs : sat h R) (hg : ∀ (k : Nat) o, h[k]? = some o → h'[k]? = some o) {b : Nat} {o : Obj} (hb : h.size ≤ b) (ho : h'[b]? = some o) : sat h' (blk b o :: R) := by
  obtain ⟨m, h1, h2⟩ := hs
  have hm : m b = none := by
    cases hx : m b with
    | none => rfl
    | some x =>
      have := (Array.getElem?_eq_some_iff.1 (h1 _ _ hx)).1
      omega
  refine ⟨PH.join (fun k => if k = b then some o else none) m, sub_join (fun k x hx => ?_) (fun k x hx => hg k x (h1 k x hx)), _, m, fun k => ?_, rfl, by simp [blk], h2⟩
  · have hx' : (if k = b then some o else none) = some x := hx
    split at hx'
    · rename_i e; subst e; cases hx'; exact ho
    · cases hx'
  · by_cases e : k = b
    · subst e; exact .inr hm
    · exact .inl (by simp [e])
theorem sat.came_cells (hs : sat h R) (hg : ∀ (k : Nat) o, h[k]? = some o → h'[k]? = some o) {b : Nat} {cs : Array Value} {T : TypeId} (hb : h.size ≤ b) (ho : h'[b]? = some (.cells cs T (0, 0))) : sat h' (cells b cs :: R) :=
  q_cc.2 ⟨T, hs.came hg hb ho⟩
theorem calls_below {P : Program} {f : FuncId} {args : Array Value} {v : Value} {Q : Value → Heap → Prop} (hs : sat h R)
    (hc : ∀ w, w.heap = h → Calls P f args w fun e w' => e = .returned v ∧ Go.RowKit.Below w.heap.size w w') (hq : ∀ h', sat h' R → Q v h') : HCalls P f args h Q := by
  intro w hw
  refine (hc w hw).mono ?_
  rintro e w' ⟨rfl, hb⟩
  refine ⟨v, rfl, ⟨hb.os, hb.tape, hb.output⟩, hq _ (hs.grow fun k o ho => ?_)⟩
  rw [hb.block k (by rw [hw]; exact (Array.getElem?_eq_some_iff.1 ho).1), hw]
  exact ho
end
section
variable {α : Type} {enc : α → List Value} {size : Nat} {h h0 h' : Heap} {s : Slc} {xs : List α} {R : List Asn}
theorem RowAt.mono (hr : RowAt enc size h0 s xs) (hc : ∀ a v, cellH h0 a = some v → cellH h a = some v) : RowAt enc size h s xs :=
  ⟨hr.1, hr.2.1, fun i x hx => by
    obtain ⟨a, ha, hx⟩ := hr.2.2 i x hx
    exact ⟨a, ha, fun j v hv => hc _ _ (hx j v hv)⟩⟩
theorem RowAt.old (hr : RowAt enc size h0 s xs) (hs : sat h (old h0 :: R)) : RowAt enc size h s xs := hr.mono fun _ _ hc => hs.old_cell hc
theorem RowAt.nil : RowAt enc size h ⟨none, 0, 0⟩ [] := ⟨rfl, Nat.le_refl _, fun i x hx => by simp at hx⟩
end
structure OwnF {α : Type} (enc : α → List Value) (size : Nat) (s : Slc) (xs : List α) (b o : Nat) (cs : Array Value) : Prop where
  a : s.a = some ⟨b, o * size, none⟩
  le : s.len ≤ s.cap
  len : s.len = xs.length
  csize : (o + s.cap) * size ≤ cs.size
  front : (cs.toList.drop (o * size)).take (s.len * size) = xs.flatMap enc
def ownS {α : Type} (enc : α → List Value) (size : Nat) (s : Slc) (xs : List α) : Asn := fun m =>
  (s.len = 0 ∧ s.cap = 0 ∧ xs = []) ∨ exA (fun x : Nat × Nat × Array Value => star (pr (OwnF enc size s xs x.1 x.2.1 x.2.2)) (cells x.1 x.2.2)) m
section
variable {α : Type} {enc : α → List Value} {size : Nat} {h : Heap} {s : Slc} {xs : List α} {R : List Asn}
theorem q_bq (hs : sat h (ownS enc size s xs :: R)) : (s.len = 0 ∧ s.cap = 0 ∧ xs = [] ∧ sat h R) ∨ ∃ b o cs, OwnF enc size s xs b o cs ∧ sat h (cells b cs :: R) := by
  obtain ⟨m, h1, a, r, hd, rfl, ha, hr⟩ := id hs
  rcases ha with ⟨h2, h3, h4⟩ | ha
  · exact .inl ⟨h2, h3, h4, hs.drop⟩
  · have hs' : sat h (exA (fun x : Nat × Nat × Array Value => star (pr (OwnF enc size s xs x.1 x.2.1 x.2.2)) (cells x.1 x.2.2)) :: R) := ⟨_, h1, a, r, hd, rfl, ha, hr⟩
    rw [sat.ex_iff] at hs'
    obtain ⟨⟨b, o, cs⟩, hs'⟩ := hs'
    rw [sat.star_iff, sat.pr_iff] at hs'
    exact .inr ⟨b, o, cs, hs'⟩
theorem q_hr {a : Option Addr} (hs : sat h R) : sat h (ownS enc size ⟨a, 0, 0⟩ [] :: R) := by
  obtain ⟨m, h1, h2⟩ := hs
  exact ⟨m, h1, fun _ => none, m, fun k => .inl rfl, by funext k; rfl, .inl ⟨rfl, rfl, rfl⟩, h2⟩
theorem q_a3 (hs : sat h R) : sat h (ownS enc size ⟨none, 0, 0⟩ [] :: R) := q_hr hs
theorem q_cq {b o : Nat} {cs : Array Value} (ho : OwnF enc size s xs b o cs) (hs : sat h (cells b cs :: R)) : sat h (ownS enc size s xs :: R) := by
  have hs' : sat h (exA (fun x : Nat × Nat × Array Value => star (pr (OwnF enc size s xs x.1 x.2.1 x.2.2)) (cells x.1 x.2.2)) :: R) := by
    rw [sat.ex_iff]
    refine ⟨(b, o, cs), ?_⟩
    rw [sat.star_iff, sat.pr_iff]
    exact ⟨ho, hs⟩
  exact hs'.imp fun m hm => .inr hm
theorem sat.own_len (hs : sat h (ownS enc size s xs :: R)) : s.len = xs.length := by
  rcases q_bq hs with ⟨h1, h2, rfl, -⟩ | ⟨b, o, cs, ho, -⟩
  · exact h1
  · exact ho.len
theorem sat.own_le (hs : sat h (ownS enc size s xs :: R)) : s.len ≤ s.cap := by
  rcases q_bq hs with ⟨h1, h2, rfl, -⟩ | ⟨b, o, cs, ho, -⟩
  · omega
  · exact ho.le
theorem flat_get (henc : ∀ x, (enc x).length = size) : ∀ (xs : List α) (i : Nat) (x : α), xs[i]? = some x → ∀ j v, (enc x)[j]? = some v → (xs.flatMap enc)[i * size + j]? = some v
  | [], i, x, hx, _, _, _ => by simp at hx
  | y :: xs, 0, x, hx, j, v, hv => by
    simp only [List.getElem?_cons_zero, Option.some.injEq] at hx
    subst hx
    rw [List.flatMap_cons, Nat.zero_mul, Nat.zero_add]
    have hj := (List.getElem?_eq_some_iff.1 hv).1
    rw [List.getElem?_append_left hj]
    exact hv
  | y :: xs, i + 1, x, hx, j, v, hv => by
    rw [List.getElem?_cons_succ] at hx
    rw [List.flatMap_cons, List.getElem?_append_right (by rw [henc]; rw [Nat.succ_mul]; omega), henc]
    rw [show (i + 1) * size + j - size = i * size + j from by rw [Nat.succ_mul]; omega]
    exact flat_get henc xs i x hx j v hv
theorem q_at (henc : ∀ x, (enc x).length = size) (xs : List α) : (xs.flatMap enc).length = xs.length * size := by
  induction xs with
  | nil => simp
  | cons x xs ih => rw [List.flatMap_cons, List.length_append, ih, henc, List.length_cons, Nat.succ_mul]; omega
theorem sat.own_row (henc : ∀ x, (enc x).length = size) (hs : sat h (ownS enc size s xs :: R)) : RowAt enc size h s xs := by
  rcases q_bq hs with ⟨h1, h2, rfl, -⟩ | ⟨b, o, cs, ho, hs⟩
  · exact ⟨h1, by omega, fun i x hx => by simp at hx⟩
  · refine ⟨ho.len, ho.le, fun i x hx => ⟨_, ho.a, fun j v hv => ?_⟩⟩
    rw [Addr.add_at, Addr.add_at, hs.cell]
    have h1 := flat_get henc xs i x hx j v hv
    rw [← ho.front, List.getElem?_take] at h1
    split at h1
    · rw [List.getElem?_drop] at h1
      rw [show o * size + i * size + j = o * size + (i * size + j) from by omega]
      simpa using h1
    · cases h1
theorem slice_own {lo hi : Nat} {mx : Option Int} {Q : Slc → Heap → Prop} {ol oh : Option Int} (hs : sat h (ownS enc size s xs :: R)) (henc : ∀ x, (enc x).length = size)
    (h1 : lo ≤ hi) (h2 : hi ≤ xs.length) (e1 : optLe ol (lo = 0) lo hi) (e2 : optLe oh (hi = s.len) hi s.cap)
    (hq : ∀ s', sat h (ownS enc size s' ((xs.take hi).drop lo) :: R) → Q s' h) : HM.slice s ol oh none size h Q := by
  have hl := hs.own_len
  have hc := hs.own_le
  refine ⟨lo, hi, s.cap, rfl, ?_, e1, hq _ ?_⟩
  · cases oh with
    | none => exact ⟨rfl, e2⟩
    | some x => exact e2
  rcases q_bq hs with ⟨g1, g2, rfl, hs1⟩ | ⟨b, o, cs, ho, hs1⟩
  · have : hi = 0 := by simpa using h2
    subst this
    have : lo = 0 := by omega
    subst this
    simp only [sliceOf, g2, if_true, List.take_nil, List.drop_nil, Nat.sub_self]
    exact q_hr hs1
  · by_cases hm : s.cap = lo
    · have e0 : lo = xs.length := by omega
      simp only [sliceOf, hm, if_true, Nat.sub_self]
      rw [List.drop_of_length_le (by simp; omega), show hi - lo = 0 from by omega]
      exact q_hr hs.drop
    · refine q_cq (b := b) (o := o + lo) (cs := cs) ⟨?_, ?_, ?_, ?_, ?_⟩ hs1
      · simp only [sliceOf, if_neg hm, ho.a, Option.map_some, Addr.add_at, Nat.add_mul]
      · simp only [sliceOf]; omega
      · simp only [sliceOf, List.length_drop, List.length_take]; omega
      · simp only [sliceOf]
        rw [show o + lo + (s.cap - lo) = o + s.cap from by omega]
        exact ho.csize
      · simp only [sliceOf]
        have hf := ho.front
        have e3 : ((xs.take hi).drop lo).flatMap enc = ((xs.flatMap enc).take (hi * size)).drop (lo * size) := by
          have key : ∀ (l : List α) (n : Nat), (l.flatMap enc).take (n * size) = (l.take n).flatMap enc ∧ (l.flatMap enc).drop (n * size) = (l.drop n).flatMap enc := by
            intro l
            induction l with
            | nil => intro n; simp
            | cons x l ih =>
              intro n
              cases n with
              | zero => simp
              | succ n =>
                have hx := henc x
                rw [List.flatMap_cons, Nat.succ_mul, List.take_succ_cons, List.drop_succ_cons, List.flatMap_cons]
                refine ⟨?_, ?_⟩
                · rw [List.take_append, hx, List.take_of_length_le (by omega), show n * size + size - size = n * size from by omega, (ih n).1]
                · rw [List.drop_append, hx, List.drop_of_length_le (by omega), show n * size + size - size = n * size from by omega, (ih n).2, List.nil_append]
          rw [(key xs hi).1, (key (xs.take hi) lo).2]
        rw [e3, ← hf]
        rw [List.take_take, Nat.min_eq_left (Nat.mul_le_mul_right _ (by omega : hi ≤ s.len)), List.drop_take, List.drop_drop, Nat.add_mul, ← Nat.sub_mul]
theorem sat.setCells {b : Nat} : ∀ (vs : List Value) (cs : Array Value) (o i : Nat) {h : Heap} {R : List Asn}, sat h (cells b cs :: R) → o + i + vs.length ≤ cs.size →
    ∃ cs' : Array Value, cs'.size = cs.size ∧ cs'.toList = cs.toList.take (o + i) ++ vs ++ cs.toList.drop (o + i + vs.length) ∧ sat (setCellsH h ⟨b, o, none⟩ vs i) (cells b cs' :: R)
  | [], cs, o, i, h, R, hs, hl => ⟨cs, rfl, by simp, hs⟩
  | v :: vs, cs, o, i, h, R, hs, hl => by
    simp only [List.length_cons] at hl
    have h1 := hs.set (o + i) v
    obtain ⟨cs', e1, e2, h2⟩ := sat.setCells vs (cs.setIfInBounds (o + i) v) o (i + 1) h1 (by simp; omega)
    refine ⟨cs', by simpa using e1, ?_, by simpa [setCellsH] using h2⟩
    rw [e2, Array.toList_setIfInBounds]
    have hlen : o + i < cs.toList.length := by simp; omega
    rw [show o + (i + 1) = (o + i) + 1 from by omega, List.take_succ_eq_append_getElem (by simpa using hlen)]
    rw [List.getElem_set_self, List.take_set_of_le (Nat.le_refl _), List.drop_set_of_lt (by omega)]
    simp only [List.length_cons, List.append_assoc, List.cons_append, List.nil_append]
    rw [show o + i + 1 + vs.length = o + i + (vs.length + 1) from by omega]
theorem q_c5 {b : Nat} {cs : Array Value} {o : Nat} {vs : List Value} (hs : sat h (cells b cs :: R)) (hl : o + vs.length ≤ cs.size) (hv : ∀ v ∈ vs, v.oneCell' = true) :
    ∀ (i : Nat) v, vs[i]? = some v → (cellH h (Addr.add ⟨b, o, none⟩ i)).isSome = true ∧ frozenH h (Addr.add ⟨b, o, none⟩ i) = false ∧ v.oneCell' = true := by
  intro i v hi
  have hlt := (List.getElem?_eq_some_iff.1 hi).1
  rw [Addr.add_at]
  refine ⟨?_, hs.free _, hv v (List.mem_of_getElem? hi)⟩
  rw [hs.cell]
  simp
  omega
theorem q_ds (henc : ∀ x, (enc x).length = size) (hcell : ∀ x, ∀ v ∈ enc x, v.oneCell' = true) {elem : TypeId} {bytes n : Nat} {zero : Array Value} (hz : zero.size = size) {src : Heap → Array Value → Prop} {ys : List α} {Q : Slc → Heap → Prop}
    (hs : sat h (ownS enc size s xs :: R)) (hn : ys.length = n) (hsrc : src h (ys.flatMap enc).toArray) (hsz : 0 < size) (hb0 : 0 < bytes) (hb : (xs.length + n) * bytes ≤ 140737488355328)
    (hq : ∀ s' h', sat h' (ownS enc size s' (xs ++ ys) :: R) → Q s' h') : HM.append elem size bytes zero s n src h Q := by
  have hl := hs.own_len
  have hbig : xs.length + n ≤ 140737488355328 := Nat.le_trans (Nat.le_mul_of_pos_right _ hb0) hb
  constructor
  · intro hc
    refine ⟨_, hsrc, ?_⟩
    rcases q_bq hs with ⟨g1, g2, rfl, hs1⟩ | ⟨b, o, cs, ho, hs⟩
    · have h0 : n = 0 := by omega
      subst h0
      have hy : ys = [] := List.eq_nil_of_length_eq_zero hn
      subst hy
      obtain ⟨sa, sl, sc⟩ := s
      simp only at g1 g2
      subst g1 g2
      cases sa with
      | none => exact hq _ _ (q_hr hs1)
      | some a => exact ⟨fun i v hv => by simp at hv, hq _ _ (q_hr hs1)⟩
    · rw [ho.a]
      simp only [Addr.add_at]
      have hlen : (o * size + s.len * size) + (ys.flatMap enc).length ≤ cs.size := by
        refine Nat.le_trans ?_ ho.csize
        rw [q_at henc, hn, ← Nat.add_mul, ← Nat.add_mul]
        exact Nat.mul_le_mul_right _ (by omega)
      refine ⟨?_, ?_⟩
      · have := q_c5 (o := o * size + s.len * size) (vs := ys.flatMap enc) hs hlen (fun v hv => by
          obtain ⟨x, _, hx⟩ := List.mem_flatMap.1 hv
          exact hcell x v hx)
        simpa using this
      · obtain ⟨cs', e1, e2, hs'⟩ := sat.setCells (ys.flatMap enc) cs (o * size + s.len * size) 0 hs (by simpa using hlen)
        refine hq _ _ (q_cq (b := b) (o := o) (cs := cs') ⟨rfl, hc, by simp [ho.len, hn], by rw [e1]; exact ho.csize, ?_⟩ (by simpa using hs'))
        rw [e2]
        simp only [Nat.add_zero]
        have hcl : cs.toList.length = cs.size := by simp
        have d1 : ((cs.toList.take (o * size + s.len * size) ++ ys.flatMap enc ++ cs.toList.drop (o * size + s.len * size + (ys.flatMap enc).length)).drop (o * size)) =
            xs.flatMap enc ++ ys.flatMap enc ++ cs.toList.drop (o * size + s.len * size + (ys.flatMap enc).length) := by
          rw [List.append_assoc, List.drop_append_of_le_length (by rw [List.length_take, hcl]; omega), List.drop_take, show o * size + s.len * size - o * size = s.len * size from by omega, ho.front, List.append_assoc]
        rw [d1, List.flatMap_append]
        have e3 : (s.len + n) * size = (xs.flatMap enc ++ ys.flatMap enc).length := by
          rw [List.length_append, q_at henc, q_at henc, Nat.add_mul, ho.len, hn]
        rw [e3, List.take_left']
        rfl
  · intro hc
    refine ⟨by omega, growslice_fits hc (by rw [hl]; exact hb), ?_⟩
    have hnew : ∀ old : Array Value, old.toList = xs.flatMap enc → ∀ c, s.len + n ≤ c → ∀ R', sat h R' →
        sat (h.push (.cells (old ++ (ys.flatMap enc).toArray ++ Builtin.zeroCells zero (c - (s.len + n))) elem)) (ownS enc size ⟨some ⟨h.size, 0, none⟩, s.len + n, c⟩ (xs ++ ys) :: R') := by
      intro old hold c hcc R' hR'
      have ho : old.size = s.len * size := by
        have := congrArg List.length hold
        rw [q_at henc] at this
        simpa [hl] using this
      refine q_cq (o := 0) ⟨by simp, hcc, by simp [hl, hn], Nat.le_of_eq ?_, ?_⟩ hR'.push_cells
      · simp only [Nat.zero_add, Array.size_append, ho, Builtin.zeroCells, Array.size_map, Array.size_range, hz, List.size_toArray, q_at henc, hn]
        rw [← Nat.add_mul, ← Nat.add_mul]
        congr 1
        omega
      · simp only [Array.toList_append, hold, List.flatMap_append, Nat.zero_mul, List.drop_zero]
        rw [List.take_append_of_le_length (by simp only [List.length_append, q_at henc]; rw [hl, Nat.add_mul, hn]; exact Nat.le_refl _)]
        rw [List.take_of_length_le]
        simp only [List.length_append, q_at henc]
        rw [hl, Nat.add_mul, hn]
        exact Nat.le_refl _
    rcases q_bq hs with ⟨g1, g2, rfl, hs1⟩ | ⟨b, o, cs, ho, hs⟩
    · refine ⟨#[], _, ?_, hsrc, fun c hcc _ => hq _ _ (hnew #[] rfl c hcc R hs1)⟩
      rw [g1, Nat.zero_mul]
      cases s.a with
      | none => rfl
      | some a => exact ⟨rfl, fun i v hv => by simp at hv⟩
    · refine ⟨(xs.flatMap enc).toArray, _, ?_, hsrc, fun c hcc _ => hq _ _ (hnew _ (by simp) c hcc R hs.drop)⟩
      simp only [readsH, ho.a]
      refine ⟨by simp [q_at henc, ho.len], fun i v hi => ?_⟩
      rw [Addr.add_at, hs.cell]
      have h1 : (xs.flatMap enc)[i]? = some v := by simpa using hi
      rw [← ho.front, List.getElem?_take] at h1
      split at h1
      · rw [List.getElem?_drop] at h1
        simpa using h1
      · cases h1
theorem sat.reads {b : Nat} {cs : Array Value} {n : Nat} (hs : sat h (cells b cs :: R)) (hn : cs.size = n) : readsH h (some ⟨b, 0, none⟩) n cs :=
  ⟨hn, fun i v hi => by rw [Addr.add_at, hs.cell, Nat.zero_add]; exact hi⟩
theorem app_new (henc : ∀ x, (enc x).length = size) (hcell : ∀ x, ∀ v ∈ enc x, v.oneCell' = true) {elem T : TypeId} {bytes : Nat} {zero : Array Value} (hz : zero.size = size) {x : α} {Q : Slc → Heap → Prop}
    (hs : sat h (ownS enc size s xs :: R)) (hsz : 0 < size) (hb0 : 0 < bytes) (hb : (xs.length + 1) * bytes ≤ 140737488355328)
    (hq : ∀ s' h', sat h' (ownS enc size s' (xs ++ [x]) :: R) → Q s' h') : HM.new (.cells (enc x).toArray T) h fun b h' => HM.append elem size bytes zero s 1 (srcSlc size ⟨some ⟨b, 0, none⟩, 1, 1⟩) h' Q := by
  refine q_ae hs fun b h1 hs1 => ?_
  refine q_ds henc hcell hz (ys := [x]) hs1.p1 rfl ?_ hsz hb0 hb fun s' h2 hs2 => hq s' h2 hs2.p1.drop
  simp only [srcSlc, Nat.one_mul, List.flatMap_cons, List.flatMap_nil, List.append_nil]
  exact hs1.reads (by simp [henc])
theorem q_er {ts : List Tag} {a : Addr} (x : Tup ts) {Q : Tup ts → Heap → Prop} (hc : ∀ i v, (Tup.vals ts x)[i]? = some v → cellH h (a.add i) = some v) (hq : Q x h) : HM.loadN ts a h Q := ⟨x, hc, hq⟩
theorem q_aa (b i : Nat) : (⟨b, 0, none⟩ : Addr).add i = ⟨b, i, none⟩ := by
  cases i with
  | zero => rfl
  | succ i => simp [Addr.add]
theorem q_au {b : Nat} {cs : Array Value} {ts : List Tag} (x : Tup ts) {Q : Tup ts → Heap → Prop} (hs : sat h (cells b cs :: R)) (he : cs = (Tup.vals ts x).toArray) (hq : Q x h) : HM.loadN ts ⟨b, 0, none⟩ h Q := by
  refine ⟨x, fun i v hv => ?_, hq⟩
  have := hs.cell i
  rw [he] at this
  have e : (⟨b, 0, none⟩ : Addr).add i = ⟨b, i, none⟩ := by
    cases i with
    | zero => rfl
    | succ i => simp [Addr.add]
  rw [e, this]
  simpa using hv
theorem storeN_all {b : Nat} {cs : Array Value} {vs : List Value} {Q : Unit → Heap → Prop} (hs : sat h (cells b cs :: R)) (hl : vs.length = cs.size) (hv : ∀ v ∈ vs, v.oneCell' = true)
    (hq : ∀ h', sat h' (cells b vs.toArray :: R) → Q () h') : HM.storeN ⟨b, 0, none⟩ vs h Q := by
  refine ⟨q_c5 (o := 0) hs (by omega) hv, ?_⟩
  obtain ⟨cs', e1, e2, hs'⟩ := sat.setCells vs cs 0 0 hs (by omega)
  have e3 : cs' = vs.toArray := by
    apply Array.toList_inj.1
    rw [e2]
    simp only [Nat.add_zero, Nat.zero_add, List.take_zero, List.nil_append]
    rw [List.drop_of_length_le (by simp; omega)]
    simp
  subst e3
  exact hq _ hs'
theorem storeN_all' {b : Nat} {cs : Array Value} {vs : List Value} {Q : Unit → Heap → Prop} (hs : sat h (cells b cs :: R)) (hl : vs.length = cs.size) (hv : vs.all (fun v => v.oneCell') = true)
    (hq : ∀ h', sat h' (cells b vs.toArray :: R) → Q () h') : HM.storeN ⟨b, 0, none⟩ vs h Q :=
  storeN_all hs hl (List.all_eq_true.1 hv) hq
end
end Go.H
namespace Go.R
open Go.H
set_option linter.unusedSimpArgs false
set_option linter.unusedVariables false
theorem q_ev {H : Type} {P : Program} {e : TypeId} : ∀ {l : List (DataW H)} {d : DataW H}, d ∈ l → ∀ n ∈ d.weights P e, n ∈ DataW.weightsAll P e l
  | [], _, h, _, _ => by simp at h
  | x :: l, d, h, n, hn => by
    simp only [DataW.weightsAll, List.mem_append]
    rcases List.mem_cons.1 h with rfl | h
    · exact .inl hn
    · exact .inr (q_ev h n hn)
theorem list_of {α : Type} {p : Nat → α → Prop} : ∀ (n : Nat), (∀ i, i < n → ∃ x, p i x) → ∃ xs : List α, xs.length = n ∧ ∀ (i : Nat) x, xs[i]? = some x → p i x
  | 0, _ => ⟨[], rfl, fun i x hx => by simp at hx⟩
  | n + 1, hp => by
    obtain ⟨xs, h1, h2⟩ := list_of n (fun i hi => hp i (by omega))
    obtain ⟨x, hx⟩ := hp n (by omega)
    refine ⟨xs ++ [x], by simp [h1], fun i y hy => ?_⟩
    rw [List.getElem?_append] at hy
    split at hy
    · exact h2 i y hy
    · rename_i hi
      have h3 := (List.getElem?_eq_some_iff.1 hy).1
      simp only [List.length_cons, List.length_nil] at h3
      have hin : i = n := by omega
      subst hin
      rw [h1, Nat.sub_self] at hy
      cases hy
      exact hx
structure OkLaw {H : Type} (P : Program) (ok : TypeId → DataW H → Prop) (top : Nat) (wt : TypeId → Nat) : Prop where
  str : ∀ {t : TypeId} {bs : List UInt8}, ok t (.lit (.string bs)) → bs.length ≤ top
  elem : ∀ {t e : TypeId} {elems rest : List (DataW H)} {d : DataW H}, P.underlying t = some (.slice e) → ok t (.slice elems rest) → d ∈ elems → ok e d
  cnt : ∀ {t e : TypeId} {elems rest : List (DataW H)}, P.underlying t = some (.slice e) → ok t (.slice elems rest) → elems.length * wt e ≤ top
  field : ∀ {t : TypeId} {fs : Array Field} {parts : List (DataW H)} {j : Nat} {f : Field} {d : DataW H}, P.underlying t = some (.struct fs) → ok t (.agg parts) → fs[j]? = some f → parts[j]? = some d → ok f.type d
  arr : ∀ {t e : TypeId} {n : Nat} {parts : List (DataW H)} {d : DataW H}, P.underlying t = some (.array n e) → ok t (.agg parts) → d ∈ parts → ok e d
def okW {H : Type} (P : Program) (t : TypeId) (d : DataW H) : Prop := ∀ n ∈ d.weights P t, n ≤ reachBytes
theorem okW_law {H : Type} (P : Program) : OkLaw (H := H) P (okW P) reachBytes P.bytesOf where
  str h := h _ (by simp [DataW.weights])
  elem ht h hd := fun n hn => h n (by
    simp only [DataW.weights, ht, List.mem_cons, List.mem_append]
    exact .inr (.inl (q_ev hd _ hn)))
  cnt ht h := Nat.le_trans (Nat.mul_le_mul_right _ (Nat.le_add_right _ _)) (h _ (by simp only [DataW.weights, ht, List.mem_cons]; exact .inl rfl))
  field {t fs parts j f d} ht h hf hd := fun n hn => h n (by
    simp only [DataW.weights, ht]
    exact DataW.weights_mem_each (j := j) (t := f.type) (d := d) (by rw [List.getElem?_map, Array.getElem?_toList, hf]; rfl) hd _ hn)
  arr ht h hd := fun n hn => h n (by
    simp only [DataW.weights, ht]
    exact q_ev hd _ hn)
theorem okWide_agg {P : Program} {w : World} {t : TypeId} {fs : Array Field} {r : Reach} {b0 : Nat} {v : Value} (ht : P.underlying t = some (.struct fs)) (h : Value.okWide P w r b0 t v) : ∃ cs, v = .agg cs := by
  simp only [Value.okWide, ht] at h
  obtain ⟨cs, h1, _⟩ := h
  exact ⟨cs, h1⟩
structure GoodG {α : Type} (enc : α → List Value) (size wt top : Nat) (h : Heap) (good : α → Prop) (x : Slc × List α) : Prop where
  row : RowAt enc size h x.1 x.2
  good : ∀ y ∈ x.2, good y
  cap : x.1.cap ≤ maxLen
  reach : x.2.length * wt ≤ top
section
variable {H : Type} (ec : TypeId × Value → H) (P : Program) (w : World) (base : Nat) (sp : Nat → Bool) (held : Bool) (ok : TypeId → DataW H → Prop)
def RdG {α : Type} (t : TypeId) (enc : α → List Value) (good : α → Prop) : Prop :=
  ∀ fuel cs y, DataW.trod ec P w base sp held fuel t cs = some y → ok t y.1 → ∃ x, cs = enc x ∧ good x
def RdF {α : Type} (fs : List Field) (o n : Nat) (enc : α → List Value) (good : α → Prop) : Prop :=
  ∀ fuel (cs : List Value) (xs : List (DataW H × List MemPlace)), cs.length = n → xs.length = fs.length →
    (∀ (j : Nat) f, fs[j]? = some f → DataW.trod ec P w base sp held fuel f.type ((cs.drop f.offset).take (P.cellsOf f.type)) = xs[j]?) →
    (∀ (j : Nat) f d, fs[j]? = some f → xs[j]? = some d → ok f.type d.1) → ∃ x, cs.drop o = enc x ∧ good x
end
section
variable {H : Type} {ec : TypeId × Value → H} {P : Program} {w : World} {base : Nat} {sp : Nat → Bool} {held : Bool} {ok : TypeId → DataW H → Prop} {top : Nat} {wt : TypeId → Nat}
theorem rg_map {α β : Type} {t : TypeId} {enc : α → List Value} {good : α → Prop} {enc' : β → List Value} {good' : β → Prop} (f : α → β)
    (h : RdG ec P w base sp held ok t enc good) (he : ∀ x, enc x = enc' (f x)) (hg : ∀ x, good x → good' (f x)) : RdG ec P w base sp held ok t enc' good' := fun fuel cs y hy hw => by
  obtain ⟨x, h1, h2⟩ := h fuel cs y hy hw
  exact ⟨f x, h1.trans (he x), hg x h2⟩
theorem rg_int {t : TypeId} {k : IntKind} (ht : P.underlying t = some (.int k)) : RdG ec P w base sp held ok t (fun x : Int => [.int k x]) (fun x => (Lit.int k x).wf = true) := fun _ _ _ h _ => by
  obtain ⟨n, h1, _, h2⟩ := DataW.trod_int ht h
  exact ⟨n, h1, h2⟩
theorem rg_bool {t : TypeId} (ht : P.underlying t = some .bool) : RdG ec P w base sp held ok t (fun x : Bool => [.bool x]) (fun _ => True) := fun _ _ _ h _ => by
  obtain ⟨n, h1, _⟩ := DataW.trod_bool ht h
  exact ⟨n, h1, trivial⟩
theorem rg_str (hk : OkLaw P ok top wt) {t : TypeId} (ht : P.underlying t = some .string) : RdG ec P w base sp held ok t (fun x : ByteArray => [.string x]) (fun x => x.size ≤ top) := fun _ _ _ h hw => by
  obtain ⟨n, h1, rfl, h2⟩ := DataW.trod_string ht h
  refine ⟨n, h1, ?_⟩
  have := hk.str hw
  rwa [Array.length_toList] at this
theorem rg_slice (hk : OkLaw P ok top wt) {α : Type} {t e : TypeId} {enc : α → List Value} {good : α → Prop} (ht : P.underlying t = some (.slice e)) {size k : Nat} (hc : P.cellsOf e = size) (hb : wt e = k) (he : RdG ec P w base sp held ok e enc good) :
    RdG ec P w base sp held ok t (fun x : Slc × List α => [.slice x.1.a x.1.len x.1.cap]) (GoodG enc size k top w.heap good) := fun fuel cs y h hw => by
  subst hc hb
  rcases DataW.trod_slice ht h with ⟨rfl, _⟩ | ⟨a, len, cap, elems, rest, n, _, rfl, rfl, _, hl, hm, hlen, hel, _, _⟩
  · exact ⟨(⟨none, 0, 0⟩, []), rfl, ⟨rfl, Nat.le_refl _, fun i x hx => by simp at hx⟩, fun y hy => by simp at hy, Nat.zero_le _, by simp⟩
  · have hw2 : ∀ i (hi : i < elems.length), ok e (elems[i]'hi).1 := fun i hi => hk.elem ht hw (List.mem_map_of_mem (List.getElem_mem hi))
    have hw3 := hk.cnt ht hw
    have h1 : ∀ i, i < len → ∃ x, good x ∧ ∀ j v, (enc x)[j]? = some v → cellH w.heap ((a.add (i * P.cellsOf e)).add j) = some v := by
      intro i hi
      have h2 := hel i hi
      rw [List.getElem?_eq_getElem (by omega), Option.bind_eq_some_iff] at h2
      obtain ⟨cs', h3, h4⟩ := h2
      obtain ⟨x, rfl, hg⟩ := he _ _ _ h4 (hw2 i (by omega))
      obtain ⟨_, h5, h6⟩ := World.cells?_some h3
      refine ⟨x, hg, fun j v hv => ?_⟩
      rw [← cell_eq, h6 j (by rw [← h5]; exact (List.getElem?_eq_some_iff.1 hv).1)]
      exact hv
    obtain ⟨xs, h2, h3⟩ := list_of len h1
    refine ⟨(⟨some a, len, cap⟩, xs), rfl, ⟨h2.symm, hl, fun i x hx => ⟨a, rfl, (h3 i x hx).2⟩⟩, fun y hy => ?_, hm, ?_⟩
    · obtain ⟨i, hi⟩ := List.getElem?_of_mem hy
      exact (h3 i y hi).1
    · simp only
      rw [List.length_map] at hw3
      rw [h2, ← hlen]
      exact hw3
theorem rf_cons {α β : Type} {f : Field} {fs : List Field} {o n : Nat} {c : Nat} {e0 : α → List Value} {g0 : α → Prop} {e1 : β → List Value} {g1 : β → Prop} (hc : P.cellsOf f.type = c) (ho : f.offset = o)
    (h0 : RdG ec P w base sp held ok f.type e0 g0) (h1 : RdF ec P w base sp held ok fs (o + c) n e1 g1) : RdF ec P w base sp held ok (f :: fs) o n (fun x : α × β => e0 x.1 ++ e1 x.2) (fun x => g0 x.1 ∧ g1 x.2) := fun fuel cs xs hl hx hf hok => by
  subst hc ho
  cases xs with
  | nil => simp at hx
  | cons y xs =>
    obtain ⟨x0, c0, k0⟩ := h0 fuel _ y (hf 0 f rfl) (hok 0 f y rfl rfl)
    obtain ⟨x1, c1, k1⟩ := h1 fuel cs xs hl (by simpa using hx) (fun j f' hj => by have := hf (j + 1) f' (by simpa using hj); simpa using this) (fun j f' d hj hd => hok (j + 1) f' d (by simpa using hj) (by simpa using hd))
    refine ⟨(x0, x1), ?_, k0, k1⟩
    simp only [← c0, ← c1]
    rw [← List.drop_drop, List.take_append_drop]
theorem rf_one {α : Type} {f : Field} {o n : Nat} {c : Nat} {e0 : α → List Value} {g0 : α → Prop} (hc : P.cellsOf f.type = c) (ho : f.offset = o) (hn : n ≤ o + c)
    (h0 : RdG ec P w base sp held ok f.type e0 g0) : RdF ec P w base sp held ok [f] o n e0 g0 := fun fuel cs xs hl hx hf hok => by
  subst hc ho
  cases xs with
  | nil => simp at hx
  | cons y xs =>
    obtain ⟨x0, c0, k0⟩ := h0 fuel _ y (hf 0 f rfl) (hok 0 f y rfl rfl)
    refine ⟨x0, ?_, k0⟩
    rw [← c0, List.take_of_length_le (by rw [List.length_drop]; omega)]
theorem rg_struct (hk : OkLaw P ok top wt) {α : Type} {t : TypeId} {fs : Array Field} {n : Nat} {enc : α → List Value} {good : α → Prop} (ht : P.underlying t = some (.struct fs)) (hn : P.cellsOf t = n) (h : RdF ec P w base sp held ok fs.toList 0 n enc good) :
    RdG ec P w base sp held ok t enc good := fun fuel cs y hy hw => by
  obtain ⟨xs, m, _, rfl, hl, hx, hf⟩ := DataW.trod_struct ht hy
  obtain ⟨x, h1, h2⟩ := h m cs xs (hl.trans hn) (by simpa using hx) (fun j f hj => hf j f (by simpa using hj)) (fun j f d hj hd => hk.field ht hw (by simpa using hj) (by rw [List.getElem?_map, hd]; rfl))
  exact ⟨x, by simpa using h1, h2⟩
end
end Go.R
namespace Go.Proofs
variable {H : Type} {enc : TypeId × Value → H}
theorem q_fz {a : Assume} {C : Checked} {os : Os} {f : FuncId} {fn : Func} {s : ChangeSpec} {conds : List PathCond} {apart fresh handsOn again : Bool} {X : World → Array Value → Prop}
    (hX : ∀ (w w' : World) (args : Array Value), w.heap = w'.heap → X w args → X w' args)
    (own : ownKnob C.prog.godebug = none) (started : os.Started) (noInit : C.prog.inits.idxOf? f = none) (hfn : C.prog.funcs[f]? = some fn)
    (witness : ∃ (w : World) (tape : Tape) (i : Input), w.os = os ∧ (w.forCall tape i).Shaped C.prog ∧ i.vars = [] ∧ Input.okWide C.prog (w.forCall tape i) .any w.heap.size f i ∧
      ((s.pre enc C.prog fn conds apart (w.forCall tape i).memory i.args ∧ X (w.forCall tape i).memory i.args) ∧ sizedMet enc C.prog fn (OpenSpec.ofChange s) apart (w.forCall tape i).memory i.args) ∧ a.holds C.prog (lone (Frame.enter C.prog f i.args .normal) [] (w.forCall tape i)))
    (contract : ∀ (W : World) (base : Nat) (args : Array Value) (ds gs : List (DataW H)) (before : List MemPlace),
      (∀ (j : Nat) t v, fn.params[j]? = some t → args[j]? = some v → Value.okWide C.prog W .any base t v) →
      DataW.Whole enc C.prog fn.params.toList s.vars apart W args.toList ds gs before →
      conds.all (PathCond.test C.prog ⟨fn.params.toList, ds, s.plain.varTypes C.prog, gs⟩) = true →
      (DataW.weightsEach C.prog (fn.params.toList ++ s.plain.varTypes C.prog) (ds ++ gs)).all (· ≤ reachBytes) = true → X W args → W.ShapedOpen C.prog →
      a.holds C.prog (lone (Frame.enter C.prog f args .normal) [] W) →
      Calls C.prog f args W fun e W' => ∃ v, e = .returned v ∧ s.post enc C.prog fn apart fresh handsOn again W args v W') :
    ReturnsInHanded a C os f .any (fun w args => (s.pre enc C.prog fn conds apart w args ∧ X w args) ∧ sizedMet enc C.prog fn (OpenSpec.ofChange s) apart w args) (s.post enc C.prog fn apart fresh handsOn again) := by
  refine returnsInHanded_of_calls own started noInit witness ?_
  intro w tape i _ hsh _ hok hpre hholds
  obtain ⟨_, _, _, fn', hfn', _, _, _, _, hval⟩ := hok
  have e : fn' = fn := Option.some.inj (hfn'.symm.trans hfn)
  subst e
  obtain ⟨⟨⟨ds, gs, before, hw, hc⟩, hx⟩, hz⟩ := hpre
  have hw' := DataW.Whole.of_heap (w' := w.forCall tape i) (by rfl) hw
  refine (contract (w.forCall tape i) w.heap.size i.args ds gs before hval hw' hc (hz.weights hw) (hX _ _ _ (by rfl) hx) hsh hholds).mono fun e W' ⟨v, he, hp⟩ => ?_
  subst he
  exact ChangeSpec.post_blind hp
end Go.Proofs
namespace Go.Proofs.YtidlldnlphdhcaaGreatDoor
open Go.H Go.Proofs
set_option linter.unusedVariables false
set_option linter.unusedSimpArgs false
set_option maxRecDepth 100000
set_option maxHeartbeats 4000000
theorem q_a {P : Program} {C : List Nat} {n : Nat} {live lc : List Nat} {f : FuncId} {fn : Func} {ks : List Kind} {args : List Value} {h : Heap} {Q : Value → Heap → Prop} {m : HM (KTup ks)} (hf : P.funcs[f]? = some fn) (hb : fn.body.isSome = true) (hn : fn.ntmps = n) (hlen : Nat.ble args.length n = true)
    (hC : ∀ f, f ∈ C → CallOK P f) (hm : P.follows .mixedOrders = true) (he : denFn P C n live lc fn.results.toList ks (bodyOf fn) args = m) (hd : m h fun x h' => Q (packed ks x) h') : HCalls P f args.toArray h Q :=
  calls_of_den hf hb hn hlen hC hm (he ▸ hd)
theorem orders : Tryz.prog.follows .mixedOrders = true := by kernel_rfl
theorem CN {P : Program} : ∀ f, f ∈ ([] : List Nat) → CallOK P f := fun f hf => by cases hf
theorem CC {P : Program} {a : Nat} {l : List Nat} (h : CallOK P a) (hl : ∀ f, f ∈ l → CallOK P f) : ∀ f, f ∈ a :: l → CallOK P f := fun f hf => by
  rcases List.mem_cons.1 hf with rfl | hf
  · exact h
  · exact hl f hf
abbrev tS0 : List Tag := [.int .i64, .int .i64, .int .i64, .bool, .bool, .int .i64, .int .i64, .str, .str, .int .u8, .slc, .slc, .str, .bool, .int .i64, .bool, .str, .str, .int .i64, .bool, .slc, .bool, .bool, .str, .str, .bool, .slc, .slc, .bool, .str, .str, .int .i64, .bool, .str]
abbrev yS0 : Type := Int × Int × Int × Bool × Bool × Int × Int × ByteArray × ByteArray × Int × Slc × Slc × ByteArray × Bool × Int × Bool × ByteArray × ByteArray × Int × Bool × Slc × Bool × Bool × ByteArray × ByteArray × Bool × Slc × Slc × Bool × ByteArray × ByteArray × Int × Bool × ByteArray × Unit
abbrev aS0 (x : yS0) : Array Value := #[.int .i64 x.1, .int .i64 x.2.1, .int .i64 x.2.2.1, .bool x.2.2.2.1, .bool x.2.2.2.2.1, .int .i64 x.2.2.2.2.2.1, .int .i64 x.2.2.2.2.2.2.1, .string x.2.2.2.2.2.2.2.1, .string x.2.2.2.2.2.2.2.2.1, .int .u8 x.2.2.2.2.2.2.2.2.2.1, .slice x.2.2.2.2.2.2.2.2.2.2.1.a x.2.2.2.2.2.2.2.2.2.2.1.len x.2.2.2.2.2.2.2.2.2.2.1.cap, .slice x.2.2.2.2.2.2.2.2.2.2.2.1.a x.2.2.2.2.2.2.2.2.2.2.2.1.len x.2.2.2.2.2.2.2.2.2.2.2.1.cap, .string x.2.2.2.2.2.2.2.2.2.2.2.2.1, .bool x.2.2.2.2.2.2.2.2.2.2.2.2.2.1, .int .i64 x.2.2.2.2.2.2.2.2.2.2.2.2.2.2.1, .bool x.2.2.2.2.2.2.2.2.2.2.2.2.2.2.2.1, .string x.2.2.2.2.2.2.2.2.2.2.2.2.2.2.2.2.1, .string x.2.2.2.2.2.2.2.2.2.2.2.2.2.2.2.2.2.1, .int .i64 x.2.2.2.2.2.2.2.2.2.2.2.2.2.2.2.2.2.2.1, .bool x.2.2.2.2.2.2.2.2.2.2.2.2.2.2.2.2.2.2.2.1, .slice x.2.2.2.2.2.2.2.2.2.2.2.2.2.2.2.2.2.2.2.2.1.a x.2.2.2.2.2.2.2.2.2.2.2.2.2.2.2.2.2.2.2.2.1.len x.2.2.2.2.2.2.2.2.2.2.2.2.2.2.2.2.2.2.2.2.1.cap, .bool x.2.2.2.2.2.2.2.2.2.2.2.2.2.2.2.2.2.2.2.2.2.1, .bool x.2.2.2.2.2.2.2.2.2.2.2.2.2.2.2.2.2.2.2.2.2.2.1, .string x.2.2.2.2.2.2.2.2.2.2.2.2.2.2.2.2.2.2.2.2.2.2.2.1, .string x.2.2.2.2.2.2.2.2.2.2.2.2.2.2.2.2.2.2.2.2.2.2.2.2.1, .bool x.2.2.2.2.2.2.2.2.2.2.2.2.2.2.2.2.2.2.2.2.2.2.2.2.2.1, .slice x.2.2.2.2.2.2.2.2.2.2.2.2.2.2.2.2.2.2.2.2.2.2.2.2.2.2.1.a x.2.2.2.2.2.2.2.2.2.2.2.2.2.2.2.2.2.2.2.2.2.2.2.2.2.2.1.len x.2.2.2.2.2.2.2.2.2.2.2.2.2.2.2.2.2.2.2.2.2.2.2.2.2.2.1.cap, .slice x.2.2.2.2.2.2.2.2.2.2.2.2.2.2.2.2.2.2.2.2.2.2.2.2.2.2.2.1.a x.2.2.2.2.2.2.2.2.2.2.2.2.2.2.2.2.2.2.2.2.2.2.2.2.2.2.2.1.len x.2.2.2.2.2.2.2.2.2.2.2.2.2.2.2.2.2.2.2.2.2.2.2.2.2.2.2.1.cap, .bool x.2.2.2.2.2.2.2.2.2.2.2.2.2.2.2.2.2.2.2.2.2.2.2.2.2.2.2.2.1, .string x.2.2.2.2.2.2.2.2.2.2.2.2.2.2.2.2.2.2.2.2.2.2.2.2.2.2.2.2.2.1, .string x.2.2.2.2.2.2.2.2.2.2.2.2.2.2.2.2.2.2.2.2.2.2.2.2.2.2.2.2.2.2.1, .int .i64 x.2.2.2.2.2.2.2.2.2.2.2.2.2.2.2.2.2.2.2.2.2.2.2.2.2.2.2.2.2.2.2.1, .bool x.2.2.2.2.2.2.2.2.2.2.2.2.2.2.2.2.2.2.2.2.2.2.2.2.2.2.2.2.2.2.2.2.1, .string x.2.2.2.2.2.2.2.2.2.2.2.2.2.2.2.2.2.2.2.2.2.2.2.2.2.2.2.2.2.2.2.2.2.1]
abbrev zS1 : Array Value := #[.int .i64 0, .int .i64 0, .bool false, .bool false, .int .i64 0, .int .i64 0, .string (ByteArray.mk #[]), .string (ByteArray.mk #[]), .int .u8 0, .slice none 0 0, .slice none 0 0, .string (ByteArray.mk #[]), .bool false, .int .i64 0, .bool false, .string (ByteArray.mk #[]), .string (ByteArray.mk #[]), .int .i64 0, .bool false, .slice none 0 0, .bool false, .bool false, .string (ByteArray.mk #[]), .string (ByteArray.mk #[]), .bool false, .slice none 0 0, .slice none 0 0, .bool false]
abbrev tS2 : List Tag := [.int .i64, .bool, .bool, .int .i64, .int .i64, .str, .str, .int .i64, .slc, .slc, .str, .bool, .int .i64, .bool, .str, .str, .int .i64, .bool, .slc, .bool, .bool, .str, .str, .bool, .slc, .slc]
abbrev yS2 : Type := Int × Bool × Bool × Int × Int × ByteArray × ByteArray × Int × Slc × Slc × ByteArray × Bool × Int × Bool × ByteArray × ByteArray × Int × Bool × Slc × Bool × Bool × ByteArray × ByteArray × Bool × Slc × Slc × Unit
abbrev aS2 (x : yS2) : Array Value := #[.int .i64 x.1, .bool x.2.1, .bool x.2.2.1, .int .i64 x.2.2.2.1, .int .i64 x.2.2.2.2.1, .string x.2.2.2.2.2.1, .string x.2.2.2.2.2.2.1, .int .i64 x.2.2.2.2.2.2.2.1, .slice x.2.2.2.2.2.2.2.2.1.a x.2.2.2.2.2.2.2.2.1.len x.2.2.2.2.2.2.2.2.1.cap, .slice x.2.2.2.2.2.2.2.2.2.1.a x.2.2.2.2.2.2.2.2.2.1.len x.2.2.2.2.2.2.2.2.2.1.cap, .string x.2.2.2.2.2.2.2.2.2.2.1, .bool x.2.2.2.2.2.2.2.2.2.2.2.1, .int .i64 x.2.2.2.2.2.2.2.2.2.2.2.2.1, .bool x.2.2.2.2.2.2.2.2.2.2.2.2.2.1, .string x.2.2.2.2.2.2.2.2.2.2.2.2.2.2.1, .string x.2.2.2.2.2.2.2.2.2.2.2.2.2.2.2.1, .int .i64 x.2.2.2.2.2.2.2.2.2.2.2.2.2.2.2.2.1, .bool x.2.2.2.2.2.2.2.2.2.2.2.2.2.2.2.2.2.1, .slice x.2.2.2.2.2.2.2.2.2.2.2.2.2.2.2.2.2.2.1.a x.2.2.2.2.2.2.2.2.2.2.2.2.2.2.2.2.2.2.1.len x.2.2.2.2.2.2.2.2.2.2.2.2.2.2.2.2.2.2.1.cap, .bool x.2.2.2.2.2.2.2.2.2.2.2.2.2.2.2.2.2.2.2.1, .bool x.2.2.2.2.2.2.2.2.2.2.2.2.2.2.2.2.2.2.2.2.1, .string x.2.2.2.2.2.2.2.2.2.2.2.2.2.2.2.2.2.2.2.2.2.1, .string x.2.2.2.2.2.2.2.2.2.2.2.2.2.2.2.2.2.2.2.2.2.2.1, .bool x.2.2.2.2.2.2.2.2.2.2.2.2.2.2.2.2.2.2.2.2.2.2.2.1, .slice x.2.2.2.2.2.2.2.2.2.2.2.2.2.2.2.2.2.2.2.2.2.2.2.2.1.a x.2.2.2.2.2.2.2.2.2.2.2.2.2.2.2.2.2.2.2.2.2.2.2.2.1.len x.2.2.2.2.2.2.2.2.2.2.2.2.2.2.2.2.2.2.2.2.2.2.2.2.1.cap, .slice x.2.2.2.2.2.2.2.2.2.2.2.2.2.2.2.2.2.2.2.2.2.2.2.2.2.1.a x.2.2.2.2.2.2.2.2.2.2.2.2.2.2.2.2.2.2.2.2.2.2.2.2.2.1.len x.2.2.2.2.2.2.2.2.2.2.2.2.2.2.2.2.2.2.2.2.2.2.2.2.2.1.cap]
abbrev lS2 (x : yS2) : List Value := [.int .i64 x.1, .bool x.2.1, .bool x.2.2.1, .int .i64 x.2.2.2.1, .int .i64 x.2.2.2.2.1, .string x.2.2.2.2.2.1, .string x.2.2.2.2.2.2.1, .int .i64 x.2.2.2.2.2.2.2.1, .slice x.2.2.2.2.2.2.2.2.1.a x.2.2.2.2.2.2.2.2.1.len x.2.2.2.2.2.2.2.2.1.cap, .slice x.2.2.2.2.2.2.2.2.2.1.a x.2.2.2.2.2.2.2.2.2.1.len x.2.2.2.2.2.2.2.2.2.1.cap, .string x.2.2.2.2.2.2.2.2.2.2.1, .bool x.2.2.2.2.2.2.2.2.2.2.2.1, .int .i64 x.2.2.2.2.2.2.2.2.2.2.2.2.1, .bool x.2.2.2.2.2.2.2.2.2.2.2.2.2.1, .string x.2.2.2.2.2.2.2.2.2.2.2.2.2.2.1, .string x.2.2.2.2.2.2.2.2.2.2.2.2.2.2.2.1, .int .i64 x.2.2.2.2.2.2.2.2.2.2.2.2.2.2.2.2.1, .bool x.2.2.2.2.2.2.2.2.2.2.2.2.2.2.2.2.2.1, .slice x.2.2.2.2.2.2.2.2.2.2.2.2.2.2.2.2.2.2.1.a x.2.2.2.2.2.2.2.2.2.2.2.2.2.2.2.2.2.2.1.len x.2.2.2.2.2.2.2.2.2.2.2.2.2.2.2.2.2.2.1.cap, .bool x.2.2.2.2.2.2.2.2.2.2.2.2.2.2.2.2.2.2.2.1, .bool x.2.2.2.2.2.2.2.2.2.2.2.2.2.2.2.2.2.2.2.2.1, .string x.2.2.2.2.2.2.2.2.2.2.2.2.2.2.2.2.2.2.2.2.2.1, .string x.2.2.2.2.2.2.2.2.2.2.2.2.2.2.2.2.2.2.2.2.2.2.1, .bool x.2.2.2.2.2.2.2.2.2.2.2.2.2.2.2.2.2.2.2.2.2.2.2.1, .slice x.2.2.2.2.2.2.2.2.2.2.2.2.2.2.2.2.2.2.2.2.2.2.2.2.1.a x.2.2.2.2.2.2.2.2.2.2.2.2.2.2.2.2.2.2.2.2.2.2.2.2.1.len x.2.2.2.2.2.2.2.2.2.2.2.2.2.2.2.2.2.2.2.2.2.2.2.2.1.cap, .slice x.2.2.2.2.2.2.2.2.2.2.2.2.2.2.2.2.2.2.2.2.2.2.2.2.2.1.a x.2.2.2.2.2.2.2.2.2.2.2.2.2.2.2.2.2.2.2.2.2.2.2.2.2.1.len x.2.2.2.2.2.2.2.2.2.2.2.2.2.2.2.2.2.2.2.2.2.2.2.2.2.1.cap]
abbrev zS2 : Array Value := #[.int .i64 0, .bool false, .bool false, .int .i64 0, .int .i64 0, .string (ByteArray.mk #[]), .string (ByteArray.mk #[]), .int .i64 0, .slice none 0 0, .slice none 0 0, .string (ByteArray.mk #[]), .bool false, .int .i64 0, .bool false, .string (ByteArray.mk #[]), .string (ByteArray.mk #[]), .int .i64 0, .bool false, .slice none 0 0, .bool false, .bool false, .string (ByteArray.mk #[]), .string (ByteArray.mk #[]), .bool false, .slice none 0 0, .slice none 0 0]
abbrev tS3 : List Tag := [.int .i64, .bool, .bool, .int .i64, .int .i64, .str, .str, .int .u8, .slc, .slc, .str, .bool, .int .i64, .bool, .str, .str, .int .i64, .bool, .slc, .bool, .bool, .str, .str, .bool, .slc, .slc]
abbrev yS3 : Type := Int × Bool × Bool × Int × Int × ByteArray × ByteArray × Int × Slc × Slc × ByteArray × Bool × Int × Bool × ByteArray × ByteArray × Int × Bool × Slc × Bool × Bool × ByteArray × ByteArray × Bool × Slc × Slc × Unit
abbrev aS3 (x : yS3) : Array Value := #[.int .i64 x.1, .bool x.2.1, .bool x.2.2.1, .int .i64 x.2.2.2.1, .int .i64 x.2.2.2.2.1, .string x.2.2.2.2.2.1, .string x.2.2.2.2.2.2.1, .int .u8 x.2.2.2.2.2.2.2.1, .slice x.2.2.2.2.2.2.2.2.1.a x.2.2.2.2.2.2.2.2.1.len x.2.2.2.2.2.2.2.2.1.cap, .slice x.2.2.2.2.2.2.2.2.2.1.a x.2.2.2.2.2.2.2.2.2.1.len x.2.2.2.2.2.2.2.2.2.1.cap, .string x.2.2.2.2.2.2.2.2.2.2.1, .bool x.2.2.2.2.2.2.2.2.2.2.2.1, .int .i64 x.2.2.2.2.2.2.2.2.2.2.2.2.1, .bool x.2.2.2.2.2.2.2.2.2.2.2.2.2.1, .string x.2.2.2.2.2.2.2.2.2.2.2.2.2.2.1, .string x.2.2.2.2.2.2.2.2.2.2.2.2.2.2.2.1, .int .i64 x.2.2.2.2.2.2.2.2.2.2.2.2.2.2.2.2.1, .bool x.2.2.2.2.2.2.2.2.2.2.2.2.2.2.2.2.2.1, .slice x.2.2.2.2.2.2.2.2.2.2.2.2.2.2.2.2.2.2.1.a x.2.2.2.2.2.2.2.2.2.2.2.2.2.2.2.2.2.2.1.len x.2.2.2.2.2.2.2.2.2.2.2.2.2.2.2.2.2.2.1.cap, .bool x.2.2.2.2.2.2.2.2.2.2.2.2.2.2.2.2.2.2.2.1, .bool x.2.2.2.2.2.2.2.2.2.2.2.2.2.2.2.2.2.2.2.2.1, .string x.2.2.2.2.2.2.2.2.2.2.2.2.2.2.2.2.2.2.2.2.2.1, .string x.2.2.2.2.2.2.2.2.2.2.2.2.2.2.2.2.2.2.2.2.2.2.1, .bool x.2.2.2.2.2.2.2.2.2.2.2.2.2.2.2.2.2.2.2.2.2.2.2.1, .slice x.2.2.2.2.2.2.2.2.2.2.2.2.2.2.2.2.2.2.2.2.2.2.2.2.1.a x.2.2.2.2.2.2.2.2.2.2.2.2.2.2.2.2.2.2.2.2.2.2.2.2.1.len x.2.2.2.2.2.2.2.2.2.2.2.2.2.2.2.2.2.2.2.2.2.2.2.2.1.cap, .slice x.2.2.2.2.2.2.2.2.2.2.2.2.2.2.2.2.2.2.2.2.2.2.2.2.2.1.a x.2.2.2.2.2.2.2.2.2.2.2.2.2.2.2.2.2.2.2.2.2.2.2.2.2.1.len x.2.2.2.2.2.2.2.2.2.2.2.2.2.2.2.2.2.2.2.2.2.2.2.2.2.1.cap]
abbrev lS3 (x : yS3) : List Value := [.int .i64 x.1, .bool x.2.1, .bool x.2.2.1, .int .i64 x.2.2.2.1, .int .i64 x.2.2.2.2.1, .string x.2.2.2.2.2.1, .string x.2.2.2.2.2.2.1, .int .u8 x.2.2.2.2.2.2.2.1, .slice x.2.2.2.2.2.2.2.2.1.a x.2.2.2.2.2.2.2.2.1.len x.2.2.2.2.2.2.2.2.1.cap, .slice x.2.2.2.2.2.2.2.2.2.1.a x.2.2.2.2.2.2.2.2.2.1.len x.2.2.2.2.2.2.2.2.2.1.cap, .string x.2.2.2.2.2.2.2.2.2.2.1, .bool x.2.2.2.2.2.2.2.2.2.2.2.1, .int .i64 x.2.2.2.2.2.2.2.2.2.2.2.2.1, .bool x.2.2.2.2.2.2.2.2.2.2.2.2.2.1, .string x.2.2.2.2.2.2.2.2.2.2.2.2.2.2.1, .string x.2.2.2.2.2.2.2.2.2.2.2.2.2.2.2.1, .int .i64 x.2.2.2.2.2.2.2.2.2.2.2.2.2.2.2.2.1, .bool x.2.2.2.2.2.2.2.2.2.2.2.2.2.2.2.2.2.1, .slice x.2.2.2.2.2.2.2.2.2.2.2.2.2.2.2.2.2.2.1.a x.2.2.2.2.2.2.2.2.2.2.2.2.2.2.2.2.2.2.1.len x.2.2.2.2.2.2.2.2.2.2.2.2.2.2.2.2.2.2.1.cap, .bool x.2.2.2.2.2.2.2.2.2.2.2.2.2.2.2.2.2.2.2.1, .bool x.2.2.2.2.2.2.2.2.2.2.2.2.2.2.2.2.2.2.2.2.1, .string x.2.2.2.2.2.2.2.2.2.2.2.2.2.2.2.2.2.2.2.2.2.1, .string x.2.2.2.2.2.2.2.2.2.2.2.2.2.2.2.2.2.2.2.2.2.2.1, .bool x.2.2.2.2.2.2.2.2.2.2.2.2.2.2.2.2.2.2.2.2.2.2.2.1, .slice x.2.2.2.2.2.2.2.2.2.2.2.2.2.2.2.2.2.2.2.2.2.2.2.2.1.a x.2.2.2.2.2.2.2.2.2.2.2.2.2.2.2.2.2.2.2.2.2.2.2.2.1.len x.2.2.2.2.2.2.2.2.2.2.2.2.2.2.2.2.2.2.2.2.2.2.2.2.1.cap, .slice x.2.2.2.2.2.2.2.2.2.2.2.2.2.2.2.2.2.2.2.2.2.2.2.2.2.1.a x.2.2.2.2.2.2.2.2.2.2.2.2.2.2.2.2.2.2.2.2.2.2.2.2.2.1.len x.2.2.2.2.2.2.2.2.2.2.2.2.2.2.2.2.2.2.2.2.2.2.2.2.2.1.cap]
abbrev zS3 : Array Value := #[.int .i64 0, .bool false, .bool false, .int .i64 0, .int .i64 0, .string (ByteArray.mk #[]), .string (ByteArray.mk #[]), .int .u8 0, .slice none 0 0, .slice none 0 0, .string (ByteArray.mk #[]), .bool false, .int .i64 0, .bool false, .string (ByteArray.mk #[]), .string (ByteArray.mk #[]), .int .i64 0, .bool false, .slice none 0 0, .bool false, .bool false, .string (ByteArray.mk #[]), .string (ByteArray.mk #[]), .bool false, .slice none 0 0, .slice none 0 0]
abbrev tS4 : List Tag := [.int .i64, .bool, .str, .str, .int .i64, .bool, .str]
abbrev yS4 : Type := Int × Bool × ByteArray × ByteArray × Int × Bool × ByteArray × Unit
abbrev lS4 (x : yS4) : List Value := [.int .i64 x.1, .bool x.2.1, .string x.2.2.1, .string x.2.2.2.1, .int .i64 x.2.2.2.2.1, .bool x.2.2.2.2.2.1, .string x.2.2.2.2.2.2.1]
abbrev zS4 : Array Value := #[.int .i64 0, .bool false, .string (ByteArray.mk #[]), .string (ByteArray.mk #[]), .int .i64 0, .bool false, .string (ByteArray.mk #[])]
abbrev tS5 : List Tag := [.int .i64, .str, .str, .int .i64, .bool, .str, .bool]
abbrev yS5 : Type := Int × ByteArray × ByteArray × Int × Bool × ByteArray × Bool × Unit
abbrev aS5 (x : yS5) : Array Value := #[.int .i64 x.1, .string x.2.1, .string x.2.2.1, .int .i64 x.2.2.2.1, .bool x.2.2.2.2.1, .string x.2.2.2.2.2.1, .bool x.2.2.2.2.2.2.1]
abbrev lS5 (x : yS5) : List Value := [.int .i64 x.1, .string x.2.1, .string x.2.2.1, .int .i64 x.2.2.2.1, .bool x.2.2.2.2.1, .string x.2.2.2.2.2.1, .bool x.2.2.2.2.2.2.1]
abbrev zS5 : Array Value := #[.int .i64 0, .string (ByteArray.mk #[]), .string (ByteArray.mk #[]), .int .i64 0, .bool false, .string (ByteArray.mk #[]), .bool false]
abbrev tS6 : List Tag := [.str, .int .i64, .bool, .bool, .int .i64]
abbrev yS6 : Type := ByteArray × Int × Bool × Bool × Int × Unit
abbrev aS6 (x : yS6) : Array Value := #[.string x.1, .int .i64 x.2.1, .bool x.2.2.1, .bool x.2.2.2.1, .int .i64 x.2.2.2.2.1]
abbrev lS6 (x : yS6) : List Value := [.string x.1, .int .i64 x.2.1, .bool x.2.2.1, .bool x.2.2.2.1, .int .i64 x.2.2.2.2.1]
abbrev zS6 : Array Value := #[.string (ByteArray.mk #[]), .int .i64 0, .bool false, .bool false, .int .i64 0]
abbrev tS7 : List Tag := [.str, .str, .int .i64, .bool, .str]
abbrev yS7 : Type := ByteArray × ByteArray × Int × Bool × ByteArray × Unit
abbrev aS7 (x : yS7) : Array Value := #[.string x.1, .string x.2.1, .int .i64 x.2.2.1, .bool x.2.2.2.1, .string x.2.2.2.2.1]
abbrev lS7 (x : yS7) : List Value := [.string x.1, .string x.2.1, .int .i64 x.2.2.1, .bool x.2.2.2.1, .string x.2.2.2.2.1]
abbrev zS7 : Array Value := #[.string (ByteArray.mk #[]), .string (ByteArray.mk #[]), .int .i64 0, .bool false, .string (ByteArray.mk #[])]
abbrev tS8 : List Tag := [.int .i64, .int .i64, .str, .str]
abbrev yS8 : Type := Int × Int × ByteArray × ByteArray × Unit
abbrev aS8 (x : yS8) : Array Value := #[.int .i64 x.1, .int .i64 x.2.1, .string x.2.2.1, .string x.2.2.2.1]
abbrev lS8 (x : yS8) : List Value := [.int .i64 x.1, .int .i64 x.2.1, .string x.2.2.1, .string x.2.2.2.1]
abbrev zS8 : Array Value := #[.int .i64 0, .int .i64 0, .string (ByteArray.mk #[]), .string (ByteArray.mk #[])]
abbrev tS9 : List Tag := [.int .i64, .str, .bool, .bool]
abbrev yS9 : Type := Int × ByteArray × Bool × Bool × Unit
abbrev aS9 (x : yS9) : Array Value := #[.int .i64 x.1, .string x.2.1, .bool x.2.2.1, .bool x.2.2.2.1]
abbrev lS9 (x : yS9) : List Value := [.int .i64 x.1, .string x.2.1, .bool x.2.2.1, .bool x.2.2.2.1]
abbrev zS9 : Array Value := #[.int .i64 0, .string (ByteArray.mk #[]), .bool false, .bool false]
def q_d4 (p0 : yS0) : HM (Bool × Unit) :=
  HM.bind (α := Nat) (HM.new (.cells (aS0 p0) 62)) fun x1 =>
  HM.bind (α := yS2) (HM.loadN tS3 (Addr.add ⟨x1, 0, none⟩ 2)) fun x2 =>
  HM.bind (α := (yS2) × (yS2) × Unit) (HM.callN Tryz.prog [.agg tS3, .agg tS2] 16 #[.agg (aS3 x2)]) fun x3 =>
  HM.bind (α := Nat) (HM.new (.cells zS3 45)) fun x4 =>
  HM.bind (α := Nat) (HM.new (.cells zS2 70)) fun x5 =>
  HM.bind (α := Unit) (HM.storeN ⟨x4, 0, none⟩ (lS3 x3.1)) fun _ =>
  HM.bind (α := Unit) (HM.storeN ⟨x5, 0, none⟩ (lS2 x3.2.1)) fun _ =>
  HM.bind (α := Int) (HM.load1 (.int .i64) (Addr.add ⟨x1, 0, none⟩ 1)) fun x6 =>
  HM.bind (α := yS2) (HM.loadN tS3 ⟨x4, 0, none⟩) fun x7 =>
  HM.bind (α := Bool) (HM.load1 .bool (Addr.add ⟨x1, 0, none⟩ 28)) fun x8 =>
  HM.bind (α := Int) (HM.load1 (.int .i64) (Addr.add ⟨x1, 0, none⟩ 1)) fun x9 =>
  HM.bind (α := Bool) (HM.load1 .bool (Addr.add ⟨x1, 0, none⟩ 28)) fun x10 =>
  HM.both (
  HM.bind (α := Slc × Slc × Unit) (HM.call1 Tryz.prog (.agg [.slc, .slc]) 13 #[.pointer none, .int .i64 x6, .agg (aS3 x7), .bool x8]) fun x11 =>
  HM.bind (α := Bool) (HM.load1 .bool (Addr.add ⟨x1, 0, none⟩ 28)) fun x12 =>
  HM.req ((.bool x12 : Value) = .bool x10) <|
  HM.bind (α := Int) (HM.load1 (.int .i64) (Addr.add ⟨x1, 0, none⟩ 1)) fun x13 =>
  HM.req ((.int .i64 x13 : Value) = .int .i64 x9) <|
  HM.both (
  HM.bind (α := Slc × Slc × Unit) (HM.call1 Tryz.prog (.agg [.slc, .slc]) 24 #[.pointer none, .int .i64 x9, .bool x10]) fun x14 =>
  HM.both (
  HM.bind (α := Nat) (HM.new (.cells #[.slice none 0 0, .slice none 0 0] 35)) fun x15 =>
  HM.bind (α := Bool) (HM.load1 .bool (Addr.add ⟨x1, 0, none⟩ 28)) fun x16 =>
  HM.req ((.bool x16 : Value) = .bool x10) <|
  HM.bind (α := Int) (HM.load1 (.int .i64) (Addr.add ⟨x1, 0, none⟩ 1)) fun x17 =>
  HM.req ((.int .i64 x17 : Value) = .int .i64 x9) <|
  HM.bind (α := Bool) (HM.load1 .bool (Addr.add ⟨x1, 0, none⟩ 28)) fun x18 =>
  HM.req ((.bool x18 : Value) = .bool x8) <|
  HM.bind (α := yS2) (HM.loadN tS3 ⟨x4, 0, none⟩) fun x19 =>
  HM.req ((.agg (aS3 x19) : Value) = .agg (aS3 x7)) <|
  HM.bind (α := Int) (HM.load1 (.int .i64) (Addr.add ⟨x1, 0, none⟩ 1)) fun x20 =>
  HM.req ((.int .i64 x20 : Value) = .int .i64 x6) <|
  HM.bind (α := Nat) (HM.new (.cells #[.slice none 0 0, .slice none 0 0] 35)) fun x21 =>
  HM.bind (α := Bool) (HM.load1 .bool (Addr.add ⟨x1, 0, none⟩ 28)) fun x22 =>
  HM.req ((.bool x22 : Value) = .bool x10) <|
  HM.bind (α := Int) (HM.load1 (.int .i64) (Addr.add ⟨x1, 0, none⟩ 1)) fun x23 =>
  HM.req ((.int .i64 x23 : Value) = .int .i64 x9) <|
  HM.bind (α := Bool) (HM.load1 .bool (Addr.add ⟨x1, 0, none⟩ 28)) fun x24 =>
  HM.req ((.bool x24 : Value) = .bool x8) <|
  HM.bind (α := yS2) (HM.loadN tS3 ⟨x4, 0, none⟩) fun x25 =>
  HM.req ((.agg (aS3 x25) : Value) = .agg (aS3 x7)) <|
  HM.bind (α := Int) (HM.load1 (.int .i64) (Addr.add ⟨x1, 0, none⟩ 1)) fun x26 =>
  HM.req ((.int .i64 x26 : Value) = .int .i64 x6) <|
  HM.bind (α := Unit) (HM.storeN ⟨x15, 0, none⟩ [.slice x11.1.a x11.1.len x11.1.cap, .slice x11.2.1.a x11.2.1.len x11.2.1.cap]) fun _ =>
  HM.bind (α := Unit) (HM.storeN ⟨x21, 0, none⟩ [.slice x14.1.a x14.1.len x14.1.cap, .slice x14.2.1.a x14.2.1.len x14.2.1.cap]) fun _ =>
  HM.bind (α := Unit) (HM.callN Tryz.prog [] 25 #[.pointer none]) fun x27 =>
  HM.bind (α := ByteArray) (HM.load1 .str (Addr.add (Addr.add ⟨x1, 0, none⟩ 2) 10)) fun x28 =>
  HM.bind (α := Slc × Slc × Unit) (HM.callN Tryz.prog [.one .slc, .one .slc] 26 #[.pointer none, .string x28]) fun x29 =>
  HM.bind (α := Bool × Unit) (HM.bind (α := Bool) (HM.call1 Tryz.prog (.one .bool) 10 #[]) fun x30 =>
  HM.ite x30 (
  HM.bind (α := Slc) (HM.load1 .slc (Addr.add ⟨x15, 0, none⟩ 0)) fun x31 =>
  HM.bind (α := Slc) (HM.load1 .slc (Addr.add ⟨x15, 0, none⟩ 1)) fun x32 =>
  HM.bind (α := Slc) (HM.load1 .slc (Addr.add ⟨x21, 0, none⟩ 0)) fun x33 =>
  HM.bind (α := Slc) (HM.load1 .slc (Addr.add ⟨x21, 0, none⟩ 1)) fun x34 =>
  HM.ite ((IntKind.wrap .i64 ((IntKind.wrap .i64 ((IntKind.wrap .i64 (((x31.len : Nat) : Int) + ((x32.len : Nat) : Int))) + ((x33.len : Nat) : Int))) + ((x34.len : Nat) : Int))) == 0) (
  HM.bind (α := yS7) (HM.loadN tS7 (Addr.add ⟨x1, 0, none⟩ 29)) fun x35 =>
  HM.bind (α := Slc) (HM.call1 Tryz.prog (.one .slc) 19 #[.pointer none, .agg (aS7 x35)]) fun x36 =>
  HM.ite (((x36.len : Nat) : Int) == 0) (
  HM.bind (α := Slc) (HM.call1 Tryz.prog (.one .slc) 20 #[.pointer none]) fun x37 =>
  HM.ite (((x37.len : Nat) : Int) == 0) (
  HM.bind (α := Slc) (HM.call1 Tryz.prog (.one .slc) 18 #[.pointer none]) fun x38 =>
  HM.ite (((x38.len : Nat) : Int) == 0) (
  HM.bind (α := Slc) (HM.call1 Tryz.prog (.one .slc) 17 #[.pointer none]) fun x39 =>
  HM.ite (((x39.len : Nat) : Int) == 0) (
  HM.ite (((x29.1.len : Nat) : Int) == 0) (
  HM.pure (((x29.2.1.len : Nat) : Int) == 0, ())) (
  HM.pure (false, ()))) (
  HM.pure (false, ()))) (
  HM.pure (false, ()))) (
  HM.pure (false, ()))) (
  HM.pure (false, ()))) (
  HM.pure (false, ()))) (
  HM.pure (false, ()))) fun x40 =>
  HM.pure (x40.1, ())) (
  HM.bind (α := Nat) (HM.new (.cells #[.slice none 0 0, .slice none 0 0] 35)) fun x41 =>
  HM.bind (α := Bool) (HM.load1 .bool (Addr.add ⟨x1, 0, none⟩ 28)) fun x42 =>
  HM.req ((.bool x42 : Value) = .bool x10) <|
  HM.bind (α := Int) (HM.load1 (.int .i64) (Addr.add ⟨x1, 0, none⟩ 1)) fun x43 =>
  HM.req ((.int .i64 x43 : Value) = .int .i64 x9) <|
  HM.bind (α := Bool) (HM.load1 .bool (Addr.add ⟨x1, 0, none⟩ 28)) fun x44 =>
  HM.req ((.bool x44 : Value) = .bool x8) <|
  HM.bind (α := yS2) (HM.loadN tS3 ⟨x4, 0, none⟩) fun x45 =>
  HM.req ((.agg (aS3 x45) : Value) = .agg (aS3 x7)) <|
  HM.bind (α := Int) (HM.load1 (.int .i64) (Addr.add ⟨x1, 0, none⟩ 1)) fun x46 =>
  HM.req ((.int .i64 x46 : Value) = .int .i64 x6) <|
  HM.bind (α := Nat) (HM.new (.cells #[.slice none 0 0, .slice none 0 0] 35)) fun x47 =>
  HM.bind (α := Bool) (HM.load1 .bool (Addr.add ⟨x1, 0, none⟩ 28)) fun x48 =>
  HM.req ((.bool x48 : Value) = .bool x10) <|
  HM.bind (α := Int) (HM.load1 (.int .i64) (Addr.add ⟨x1, 0, none⟩ 1)) fun x49 =>
  HM.req ((.int .i64 x49 : Value) = .int .i64 x9) <|
  HM.bind (α := Bool) (HM.load1 .bool (Addr.add ⟨x1, 0, none⟩ 28)) fun x50 =>
  HM.req ((.bool x50 : Value) = .bool x8) <|
  HM.bind (α := yS2) (HM.loadN tS3 ⟨x4, 0, none⟩) fun x51 =>
  HM.req ((.agg (aS3 x51) : Value) = .agg (aS3 x7)) <|
  HM.bind (α := Int) (HM.load1 (.int .i64) (Addr.add ⟨x1, 0, none⟩ 1)) fun x52 =>
  HM.req ((.int .i64 x52 : Value) = .int .i64 x6) <|
  HM.bind (α := Unit) (HM.storeN ⟨x47, 0, none⟩ [.slice x11.1.a x11.1.len x11.1.cap, .slice x11.2.1.a x11.2.1.len x11.2.1.cap]) fun _ =>
  HM.bind (α := Unit) (HM.storeN ⟨x41, 0, none⟩ [.slice x14.1.a x14.1.len x14.1.cap, .slice x14.2.1.a x14.2.1.len x14.2.1.cap]) fun _ =>
  HM.bind (α := Unit) (HM.callN Tryz.prog [] 25 #[.pointer none]) fun x53 =>
  HM.bind (α := ByteArray) (HM.load1 .str (Addr.add (Addr.add ⟨x1, 0, none⟩ 2) 10)) fun x54 =>
  HM.bind (α := Slc × Slc × Unit) (HM.callN Tryz.prog [.one .slc, .one .slc] 26 #[.pointer none, .string x54]) fun x55 =>
  HM.bind (α := Bool × Unit) (HM.bind (α := Bool) (HM.call1 Tryz.prog (.one .bool) 10 #[]) fun x56 =>
  HM.ite x56 (
  HM.bind (α := Slc) (HM.load1 .slc (Addr.add ⟨x47, 0, none⟩ 0)) fun x57 =>
  HM.bind (α := Slc) (HM.load1 .slc (Addr.add ⟨x47, 0, none⟩ 1)) fun x58 =>
  HM.bind (α := Slc) (HM.load1 .slc (Addr.add ⟨x41, 0, none⟩ 0)) fun x59 =>
  HM.bind (α := Slc) (HM.load1 .slc (Addr.add ⟨x41, 0, none⟩ 1)) fun x60 =>
  HM.ite ((IntKind.wrap .i64 ((IntKind.wrap .i64 ((IntKind.wrap .i64 (((x57.len : Nat) : Int) + ((x58.len : Nat) : Int))) + ((x59.len : Nat) : Int))) + ((x60.len : Nat) : Int))) == 0) (
  HM.bind (α := yS7) (HM.loadN tS7 (Addr.add ⟨x1, 0, none⟩ 29)) fun x61 =>
  HM.bind (α := Slc) (HM.call1 Tryz.prog (.one .slc) 19 #[.pointer none, .agg (aS7 x61)]) fun x62 =>
  HM.ite (((x62.len : Nat) : Int) == 0) (
  HM.bind (α := Slc) (HM.call1 Tryz.prog (.one .slc) 20 #[.pointer none]) fun x63 =>
  HM.ite (((x63.len : Nat) : Int) == 0) (
  HM.bind (α := Slc) (HM.call1 Tryz.prog (.one .slc) 18 #[.pointer none]) fun x64 =>
  HM.ite (((x64.len : Nat) : Int) == 0) (
  HM.bind (α := Slc) (HM.call1 Tryz.prog (.one .slc) 17 #[.pointer none]) fun x65 =>
  HM.ite (((x65.len : Nat) : Int) == 0) (
  HM.ite (((x55.1.len : Nat) : Int) == 0) (
  HM.pure (((x55.2.1.len : Nat) : Int) == 0, ())) (
  HM.pure (false, ()))) (
  HM.pure (false, ()))) (
  HM.pure (false, ()))) (
  HM.pure (false, ()))) (
  HM.pure (false, ()))) (
  HM.pure (false, ()))) (
  HM.pure (false, ()))) fun x66 =>
  HM.pure (x66.1, ()))) (
  HM.both (
  HM.bind (α := Nat) (HM.new (.cells #[.slice none 0 0, .slice none 0 0] 35)) fun x67 =>
  HM.bind (α := Bool) (HM.load1 .bool (Addr.add ⟨x1, 0, none⟩ 28)) fun x68 =>
  HM.req ((.bool x68 : Value) = .bool x10) <|
  HM.bind (α := Int) (HM.load1 (.int .i64) (Addr.add ⟨x1, 0, none⟩ 1)) fun x69 =>
  HM.req ((.int .i64 x69 : Value) = .int .i64 x9) <|
  HM.bind (α := Bool) (HM.load1 .bool (Addr.add ⟨x1, 0, none⟩ 28)) fun x70 =>
  HM.req ((.bool x70 : Value) = .bool x8) <|
  HM.bind (α := yS2) (HM.loadN tS3 ⟨x4, 0, none⟩) fun x71 =>
  HM.req ((.agg (aS3 x71) : Value) = .agg (aS3 x7)) <|
  HM.bind (α := Int) (HM.load1 (.int .i64) (Addr.add ⟨x1, 0, none⟩ 1)) fun x72 =>
  HM.req ((.int .i64 x72 : Value) = .int .i64 x6) <|
  HM.both (
  HM.bind (α := Slc × Slc × Unit) (HM.call1 Tryz.prog (.agg [.slc, .slc]) 24 #[.pointer none, .int .i64 x9, .bool x10]) fun x73 =>
  HM.bind (α := Nat) (HM.new (.cells #[.slice none 0 0, .slice none 0 0] 35)) fun x74 =>
  HM.bind (α := Bool) (HM.load1 .bool (Addr.add ⟨x1, 0, none⟩ 28)) fun x75 =>
  HM.req ((.bool x75 : Value) = .bool x10) <|
  HM.bind (α := Int) (HM.load1 (.int .i64) (Addr.add ⟨x1, 0, none⟩ 1)) fun x76 =>
  HM.req ((.int .i64 x76 : Value) = .int .i64 x9) <|
  HM.bind (α := Bool) (HM.load1 .bool (Addr.add ⟨x1, 0, none⟩ 28)) fun x77 =>
  HM.req ((.bool x77 : Value) = .bool x8) <|
  HM.bind (α := yS2) (HM.loadN tS3 ⟨x4, 0, none⟩) fun x78 =>
  HM.req ((.agg (aS3 x78) : Value) = .agg (aS3 x7)) <|
  HM.bind (α := Int) (HM.load1 (.int .i64) (Addr.add ⟨x1, 0, none⟩ 1)) fun x79 =>
  HM.req ((.int .i64 x79 : Value) = .int .i64 x6) <|
  HM.bind (α := Unit) (HM.storeN ⟨x67, 0, none⟩ [.slice x11.1.a x11.1.len x11.1.cap, .slice x11.2.1.a x11.2.1.len x11.2.1.cap]) fun _ =>
  HM.bind (α := Unit) (HM.storeN ⟨x74, 0, none⟩ [.slice x73.1.a x73.1.len x73.1.cap, .slice x73.2.1.a x73.2.1.len x73.2.1.cap]) fun _ =>
  HM.bind (α := Unit) (HM.callN Tryz.prog [] 25 #[.pointer none]) fun x80 =>
  HM.bind (α := ByteArray) (HM.load1 .str (Addr.add (Addr.add ⟨x1, 0, none⟩ 2) 10)) fun x81 =>
  HM.bind (α := Slc × Slc × Unit) (HM.callN Tryz.prog [.one .slc, .one .slc] 26 #[.pointer none, .string x81]) fun x82 =>
  HM.bind (α := Bool × Unit) (HM.bind (α := Bool) (HM.call1 Tryz.prog (.one .bool) 10 #[]) fun x83 =>
  HM.ite x83 (
  HM.bind (α := Slc) (HM.load1 .slc (Addr.add ⟨x67, 0, none⟩ 0)) fun x84 =>
  HM.bind (α := Slc) (HM.load1 .slc (Addr.add ⟨x67, 0, none⟩ 1)) fun x85 =>
  HM.bind (α := Slc) (HM.load1 .slc (Addr.add ⟨x74, 0, none⟩ 0)) fun x86 =>
  HM.bind (α := Slc) (HM.load1 .slc (Addr.add ⟨x74, 0, none⟩ 1)) fun x87 =>
  HM.ite ((IntKind.wrap .i64 ((IntKind.wrap .i64 ((IntKind.wrap .i64 (((x84.len : Nat) : Int) + ((x85.len : Nat) : Int))) + ((x86.len : Nat) : Int))) + ((x87.len : Nat) : Int))) == 0) (
  HM.bind (α := yS7) (HM.loadN tS7 (Addr.add ⟨x1, 0, none⟩ 29)) fun x88 =>
  HM.bind (α := Slc) (HM.call1 Tryz.prog (.one .slc) 19 #[.pointer none, .agg (aS7 x88)]) fun x89 =>
  HM.ite (((x89.len : Nat) : Int) == 0) (
  HM.bind (α := Slc) (HM.call1 Tryz.prog (.one .slc) 20 #[.pointer none]) fun x90 =>
  HM.ite (((x90.len : Nat) : Int) == 0) (
  HM.bind (α := Slc) (HM.call1 Tryz.prog (.one .slc) 18 #[.pointer none]) fun x91 =>
  HM.ite (((x91.len : Nat) : Int) == 0) (
  HM.bind (α := Slc) (HM.call1 Tryz.prog (.one .slc) 17 #[.pointer none]) fun x92 =>
  HM.ite (((x92.len : Nat) : Int) == 0) (
  HM.ite (((x82.1.len : Nat) : Int) == 0) (
  HM.pure (((x82.2.1.len : Nat) : Int) == 0, ())) (
  HM.pure (false, ()))) (
  HM.pure (false, ()))) (
  HM.pure (false, ()))) (
  HM.pure (false, ()))) (
  HM.pure (false, ()))) (
  HM.pure (false, ()))) (
  HM.pure (false, ()))) fun x93 =>
  HM.pure (x93.1, ())) (
  HM.bind (α := Nat) (HM.new (.cells #[.slice none 0 0, .slice none 0 0] 35)) fun x94 =>
  HM.bind (α := Bool) (HM.load1 .bool (Addr.add ⟨x1, 0, none⟩ 28)) fun x95 =>
  HM.req ((.bool x95 : Value) = .bool x10) <|
  HM.bind (α := Int) (HM.load1 (.int .i64) (Addr.add ⟨x1, 0, none⟩ 1)) fun x96 =>
  HM.req ((.int .i64 x96 : Value) = .int .i64 x9) <|
  HM.bind (α := Bool) (HM.load1 .bool (Addr.add ⟨x1, 0, none⟩ 28)) fun x97 =>
  HM.req ((.bool x97 : Value) = .bool x8) <|
  HM.bind (α := yS2) (HM.loadN tS3 ⟨x4, 0, none⟩) fun x98 =>
  HM.req ((.agg (aS3 x98) : Value) = .agg (aS3 x7)) <|
  HM.bind (α := Int) (HM.load1 (.int .i64) (Addr.add ⟨x1, 0, none⟩ 1)) fun x99 =>
  HM.req ((.int .i64 x99 : Value) = .int .i64 x6) <|
  HM.bind (α := Slc × Slc × Unit) (HM.call1 Tryz.prog (.agg [.slc, .slc]) 24 #[.pointer none, .int .i64 x9, .bool x10]) fun x100 =>
  HM.bind (α := Unit) (HM.storeN ⟨x67, 0, none⟩ [.slice x11.1.a x11.1.len x11.1.cap, .slice x11.2.1.a x11.2.1.len x11.2.1.cap]) fun _ =>
  HM.bind (α := Unit) (HM.storeN ⟨x94, 0, none⟩ [.slice x100.1.a x100.1.len x100.1.cap, .slice x100.2.1.a x100.2.1.len x100.2.1.cap]) fun _ =>
  HM.bind (α := Unit) (HM.callN Tryz.prog [] 25 #[.pointer none]) fun x101 =>
  HM.bind (α := ByteArray) (HM.load1 .str (Addr.add (Addr.add ⟨x1, 0, none⟩ 2) 10)) fun x102 =>
  HM.bind (α := Slc × Slc × Unit) (HM.callN Tryz.prog [.one .slc, .one .slc] 26 #[.pointer none, .string x102]) fun x103 =>
  HM.bind (α := Bool × Unit) (HM.bind (α := Bool) (HM.call1 Tryz.prog (.one .bool) 10 #[]) fun x104 =>
  HM.ite x104 (
  HM.bind (α := Slc) (HM.load1 .slc (Addr.add ⟨x67, 0, none⟩ 0)) fun x105 =>
  HM.bind (α := Slc) (HM.load1 .slc (Addr.add ⟨x67, 0, none⟩ 1)) fun x106 =>
  HM.bind (α := Slc) (HM.load1 .slc (Addr.add ⟨x94, 0, none⟩ 0)) fun x107 =>
  HM.bind (α := Slc) (HM.load1 .slc (Addr.add ⟨x94, 0, none⟩ 1)) fun x108 =>
  HM.ite ((IntKind.wrap .i64 ((IntKind.wrap .i64 ((IntKind.wrap .i64 (((x105.len : Nat) : Int) + ((x106.len : Nat) : Int))) + ((x107.len : Nat) : Int))) + ((x108.len : Nat) : Int))) == 0) (
  HM.bind (α := yS7) (HM.loadN tS7 (Addr.add ⟨x1, 0, none⟩ 29)) fun x109 =>
  HM.bind (α := Slc) (HM.call1 Tryz.prog (.one .slc) 19 #[.pointer none, .agg (aS7 x109)]) fun x110 =>
  HM.ite (((x110.len : Nat) : Int) == 0) (
  HM.bind (α := Slc) (HM.call1 Tryz.prog (.one .slc) 20 #[.pointer none]) fun x111 =>
  HM.ite (((x111.len : Nat) : Int) == 0) (
  HM.bind (α := Slc) (HM.call1 Tryz.prog (.one .slc) 18 #[.pointer none]) fun x112 =>
  HM.ite (((x112.len : Nat) : Int) == 0) (
  HM.bind (α := Slc) (HM.call1 Tryz.prog (.one .slc) 17 #[.pointer none]) fun x113 =>
  HM.ite (((x113.len : Nat) : Int) == 0) (
  HM.ite (((x103.1.len : Nat) : Int) == 0) (
  HM.pure (((x103.2.1.len : Nat) : Int) == 0, ())) (
  HM.pure (false, ()))) (
  HM.pure (false, ()))) (
  HM.pure (false, ()))) (
  HM.pure (false, ()))) (
  HM.pure (false, ()))) (
  HM.pure (false, ()))) (
  HM.pure (false, ()))) fun x114 =>
  HM.pure (x114.1, ()))) (
  HM.bind (α := Nat) (HM.new (.cells #[.slice none 0 0, .slice none 0 0] 35)) fun x115 =>
  HM.bind (α := Bool) (HM.load1 .bool (Addr.add ⟨x1, 0, none⟩ 28)) fun x116 =>
  HM.req ((.bool x116 : Value) = .bool x10) <|
  HM.bind (α := Int) (HM.load1 (.int .i64) (Addr.add ⟨x1, 0, none⟩ 1)) fun x117 =>
  HM.req ((.int .i64 x117 : Value) = .int .i64 x9) <|
  HM.bind (α := Bool) (HM.load1 .bool (Addr.add ⟨x1, 0, none⟩ 28)) fun x118 =>
  HM.req ((.bool x118 : Value) = .bool x8) <|
  HM.bind (α := yS2) (HM.loadN tS3 ⟨x4, 0, none⟩) fun x119 =>
  HM.req ((.agg (aS3 x119) : Value) = .agg (aS3 x7)) <|
  HM.bind (α := Int) (HM.load1 (.int .i64) (Addr.add ⟨x1, 0, none⟩ 1)) fun x120 =>
  HM.req ((.int .i64 x120 : Value) = .int .i64 x6) <|
  HM.both (
  HM.bind (α := Slc × Slc × Unit) (HM.call1 Tryz.prog (.agg [.slc, .slc]) 24 #[.pointer none, .int .i64 x9, .bool x10]) fun x121 =>
  HM.bind (α := Nat) (HM.new (.cells #[.slice none 0 0, .slice none 0 0] 35)) fun x122 =>
  HM.bind (α := Bool) (HM.load1 .bool (Addr.add ⟨x1, 0, none⟩ 28)) fun x123 =>
  HM.req ((.bool x123 : Value) = .bool x10) <|
  HM.bind (α := Int) (HM.load1 (.int .i64) (Addr.add ⟨x1, 0, none⟩ 1)) fun x124 =>
  HM.req ((.int .i64 x124 : Value) = .int .i64 x9) <|
  HM.bind (α := Bool) (HM.load1 .bool (Addr.add ⟨x1, 0, none⟩ 28)) fun x125 =>
  HM.req ((.bool x125 : Value) = .bool x8) <|
  HM.bind (α := yS2) (HM.loadN tS3 ⟨x4, 0, none⟩) fun x126 =>
  HM.req ((.agg (aS3 x126) : Value) = .agg (aS3 x7)) <|
  HM.bind (α := Int) (HM.load1 (.int .i64) (Addr.add ⟨x1, 0, none⟩ 1)) fun x127 =>
  HM.req ((.int .i64 x127 : Value) = .int .i64 x6) <|
  HM.bind (α := Unit) (HM.storeN ⟨x122, 0, none⟩ [.slice x11.1.a x11.1.len x11.1.cap, .slice x11.2.1.a x11.2.1.len x11.2.1.cap]) fun _ =>
  HM.bind (α := Unit) (HM.storeN ⟨x115, 0, none⟩ [.slice x121.1.a x121.1.len x121.1.cap, .slice x121.2.1.a x121.2.1.len x121.2.1.cap]) fun _ =>
  HM.bind (α := Unit) (HM.callN Tryz.prog [] 25 #[.pointer none]) fun x128 =>
  HM.bind (α := ByteArray) (HM.load1 .str (Addr.add (Addr.add ⟨x1, 0, none⟩ 2) 10)) fun x129 =>
  HM.bind (α := Slc × Slc × Unit) (HM.callN Tryz.prog [.one .slc, .one .slc] 26 #[.pointer none, .string x129]) fun x130 =>
  HM.bind (α := Bool × Unit) (HM.bind (α := Bool) (HM.call1 Tryz.prog (.one .bool) 10 #[]) fun x131 =>
  HM.ite x131 (
  HM.bind (α := Slc) (HM.load1 .slc (Addr.add ⟨x122, 0, none⟩ 0)) fun x132 =>
  HM.bind (α := Slc) (HM.load1 .slc (Addr.add ⟨x122, 0, none⟩ 1)) fun x133 =>
  HM.bind (α := Slc) (HM.load1 .slc (Addr.add ⟨x115, 0, none⟩ 0)) fun x134 =>
  HM.bind (α := Slc) (HM.load1 .slc (Addr.add ⟨x115, 0, none⟩ 1)) fun x135 =>
  HM.ite ((IntKind.wrap .i64 ((IntKind.wrap .i64 ((IntKind.wrap .i64 (((x132.len : Nat) : Int) + ((x133.len : Nat) : Int))) + ((x134.len : Nat) : Int))) + ((x135.len : Nat) : Int))) == 0) (
  HM.bind (α := yS7) (HM.loadN tS7 (Addr.add ⟨x1, 0, none⟩ 29)) fun x136 =>
  HM.bind (α := Slc) (HM.call1 Tryz.prog (.one .slc) 19 #[.pointer none, .agg (aS7 x136)]) fun x137 =>
  HM.ite (((x137.len : Nat) : Int) == 0) (
  HM.bind (α := Slc) (HM.call1 Tryz.prog (.one .slc) 20 #[.pointer none]) fun x138 =>
  HM.ite (((x138.len : Nat) : Int) == 0) (
  HM.bind (α := Slc) (HM.call1 Tryz.prog (.one .slc) 18 #[.pointer none]) fun x139 =>
  HM.ite (((x139.len : Nat) : Int) == 0) (
  HM.bind (α := Slc) (HM.call1 Tryz.prog (.one .slc) 17 #[.pointer none]) fun x140 =>
  HM.ite (((x140.len : Nat) : Int) == 0) (
  HM.ite (((x130.1.len : Nat) : Int) == 0) (
  HM.pure (((x130.2.1.len : Nat) : Int) == 0, ())) (
  HM.pure (false, ()))) (
  HM.pure (false, ()))) (
  HM.pure (false, ()))) (
  HM.pure (false, ()))) (
  HM.pure (false, ()))) (
  HM.pure (false, ()))) (
  HM.pure (false, ()))) fun x141 =>
  HM.pure (x141.1, ())) (
  HM.bind (α := Nat) (HM.new (.cells #[.slice none 0 0, .slice none 0 0] 35)) fun x142 =>
  HM.bind (α := Bool) (HM.load1 .bool (Addr.add ⟨x1, 0, none⟩ 28)) fun x143 =>
  HM.req ((.bool x143 : Value) = .bool x10) <|
  HM.bind (α := Int) (HM.load1 (.int .i64) (Addr.add ⟨x1, 0, none⟩ 1)) fun x144 =>
  HM.req ((.int .i64 x144 : Value) = .int .i64 x9) <|
  HM.bind (α := Bool) (HM.load1 .bool (Addr.add ⟨x1, 0, none⟩ 28)) fun x145 =>
  HM.req ((.bool x145 : Value) = .bool x8) <|
  HM.bind (α := yS2) (HM.loadN tS3 ⟨x4, 0, none⟩) fun x146 =>
  HM.req ((.agg (aS3 x146) : Value) = .agg (aS3 x7)) <|
  HM.bind (α := Int) (HM.load1 (.int .i64) (Addr.add ⟨x1, 0, none⟩ 1)) fun x147 =>
  HM.req ((.int .i64 x147 : Value) = .int .i64 x6) <|
  HM.bind (α := Slc × Slc × Unit) (HM.call1 Tryz.prog (.agg [.slc, .slc]) 24 #[.pointer none, .int .i64 x9, .bool x10]) fun x148 =>
  HM.bind (α := Unit) (HM.storeN ⟨x142, 0, none⟩ [.slice x11.1.a x11.1.len x11.1.cap, .slice x11.2.1.a x11.2.1.len x11.2.1.cap]) fun _ =>
  HM.bind (α := Unit) (HM.storeN ⟨x115, 0, none⟩ [.slice x148.1.a x148.1.len x148.1.cap, .slice x148.2.1.a x148.2.1.len x148.2.1.cap]) fun _ =>
  HM.bind (α := Unit) (HM.callN Tryz.prog [] 25 #[.pointer none]) fun x149 =>
  HM.bind (α := ByteArray) (HM.load1 .str (Addr.add (Addr.add ⟨x1, 0, none⟩ 2) 10)) fun x150 =>
  HM.bind (α := Slc × Slc × Unit) (HM.callN Tryz.prog [.one .slc, .one .slc] 26 #[.pointer none, .string x150]) fun x151 =>
  HM.bind (α := Bool × Unit) (HM.bind (α := Bool) (HM.call1 Tryz.prog (.one .bool) 10 #[]) fun x152 =>
  HM.ite x152 (
  HM.bind (α := Slc) (HM.load1 .slc (Addr.add ⟨x142, 0, none⟩ 0)) fun x153 =>
  HM.bind (α := Slc) (HM.load1 .slc (Addr.add ⟨x142, 0, none⟩ 1)) fun x154 =>
  HM.bind (α := Slc) (HM.load1 .slc (Addr.add ⟨x115, 0, none⟩ 0)) fun x155 =>
  HM.bind (α := Slc) (HM.load1 .slc (Addr.add ⟨x115, 0, none⟩ 1)) fun x156 =>
  HM.ite ((IntKind.wrap .i64 ((IntKind.wrap .i64 ((IntKind.wrap .i64 (((x153.len : Nat) : Int) + ((x154.len : Nat) : Int))) + ((x155.len : Nat) : Int))) + ((x156.len : Nat) : Int))) == 0) (
  HM.bind (α := yS7) (HM.loadN tS7 (Addr.add ⟨x1, 0, none⟩ 29)) fun x157 =>
  HM.bind (α := Slc) (HM.call1 Tryz.prog (.one .slc) 19 #[.pointer none, .agg (aS7 x157)]) fun x158 =>
  HM.ite (((x158.len : Nat) : Int) == 0) (
  HM.bind (α := Slc) (HM.call1 Tryz.prog (.one .slc) 20 #[.pointer none]) fun x159 =>
  HM.ite (((x159.len : Nat) : Int) == 0) (
  HM.bind (α := Slc) (HM.call1 Tryz.prog (.one .slc) 18 #[.pointer none]) fun x160 =>
  HM.ite (((x160.len : Nat) : Int) == 0) (
  HM.bind (α := Slc) (HM.call1 Tryz.prog (.one .slc) 17 #[.pointer none]) fun x161 =>
  HM.ite (((x161.len : Nat) : Int) == 0) (
  HM.ite (((x151.1.len : Nat) : Int) == 0) (
  HM.pure (((x151.2.1.len : Nat) : Int) == 0, ())) (
  HM.pure (false, ()))) (
  HM.pure (false, ()))) (
  HM.pure (false, ()))) (
  HM.pure (false, ()))) (
  HM.pure (false, ()))) (
  HM.pure (false, ()))) (
  HM.pure (false, ()))) fun x162 =>
  HM.pure (x162.1, ()))))) (
  HM.both (
  HM.bind (α := Nat) (HM.new (.cells #[.slice none 0 0, .slice none 0 0] 35)) fun x163 =>
  HM.bind (α := Bool) (HM.load1 .bool (Addr.add ⟨x1, 0, none⟩ 28)) fun x164 =>
  HM.req ((.bool x164 : Value) = .bool x10) <|
  HM.bind (α := Int) (HM.load1 (.int .i64) (Addr.add ⟨x1, 0, none⟩ 1)) fun x165 =>
  HM.req ((.int .i64 x165 : Value) = .int .i64 x9) <|
  HM.bind (α := Bool) (HM.load1 .bool (Addr.add ⟨x1, 0, none⟩ 28)) fun x166 =>
  HM.req ((.bool x166 : Value) = .bool x8) <|
  HM.bind (α := yS2) (HM.loadN tS3 ⟨x4, 0, none⟩) fun x167 =>
  HM.req ((.agg (aS3 x167) : Value) = .agg (aS3 x7)) <|
  HM.bind (α := Int) (HM.load1 (.int .i64) (Addr.add ⟨x1, 0, none⟩ 1)) fun x168 =>
  HM.req ((.int .i64 x168 : Value) = .int .i64 x6) <|
  HM.both (
  HM.bind (α := Slc × Slc × Unit) (HM.call1 Tryz.prog (.agg [.slc, .slc]) 13 #[.pointer none, .int .i64 x6, .agg (aS3 x7), .bool x8]) fun x169 =>
  HM.bind (α := Bool) (HM.load1 .bool (Addr.add ⟨x1, 0, none⟩ 28)) fun x170 =>
  HM.req ((.bool x170 : Value) = .bool x10) <|
  HM.bind (α := Int) (HM.load1 (.int .i64) (Addr.add ⟨x1, 0, none⟩ 1)) fun x171 =>
  HM.req ((.int .i64 x171 : Value) = .int .i64 x9) <|
  HM.both (
  HM.bind (α := Slc × Slc × Unit) (HM.call1 Tryz.prog (.agg [.slc, .slc]) 24 #[.pointer none, .int .i64 x9, .bool x10]) fun x172 =>
  HM.bind (α := Nat) (HM.new (.cells #[.slice none 0 0, .slice none 0 0] 35)) fun x173 =>
  HM.bind (α := Bool) (HM.load1 .bool (Addr.add ⟨x1, 0, none⟩ 28)) fun x174 =>
  HM.req ((.bool x174 : Value) = .bool x10) <|
  HM.bind (α := Int) (HM.load1 (.int .i64) (Addr.add ⟨x1, 0, none⟩ 1)) fun x175 =>
  HM.req ((.int .i64 x175 : Value) = .int .i64 x9) <|
  HM.bind (α := Bool) (HM.load1 .bool (Addr.add ⟨x1, 0, none⟩ 28)) fun x176 =>
  HM.req ((.bool x176 : Value) = .bool x8) <|
  HM.bind (α := yS2) (HM.loadN tS3 ⟨x4, 0, none⟩) fun x177 =>
  HM.req ((.agg (aS3 x177) : Value) = .agg (aS3 x7)) <|
  HM.bind (α := Int) (HM.load1 (.int .i64) (Addr.add ⟨x1, 0, none⟩ 1)) fun x178 =>
  HM.req ((.int .i64 x178 : Value) = .int .i64 x6) <|
  HM.bind (α := Unit) (HM.storeN ⟨x163, 0, none⟩ [.slice x169.1.a x169.1.len x169.1.cap, .slice x169.2.1.a x169.2.1.len x169.2.1.cap]) fun _ =>
  HM.bind (α := Unit) (HM.storeN ⟨x173, 0, none⟩ [.slice x172.1.a x172.1.len x172.1.cap, .slice x172.2.1.a x172.2.1.len x172.2.1.cap]) fun _ =>
  HM.bind (α := Unit) (HM.callN Tryz.prog [] 25 #[.pointer none]) fun x179 =>
  HM.bind (α := ByteArray) (HM.load1 .str (Addr.add (Addr.add ⟨x1, 0, none⟩ 2) 10)) fun x180 =>
  HM.bind (α := Slc × Slc × Unit) (HM.callN Tryz.prog [.one .slc, .one .slc] 26 #[.pointer none, .string x180]) fun x181 =>
  HM.bind (α := Bool × Unit) (HM.bind (α := Bool) (HM.call1 Tryz.prog (.one .bool) 10 #[]) fun x182 =>
  HM.ite x182 (
  HM.bind (α := Slc) (HM.load1 .slc (Addr.add ⟨x163, 0, none⟩ 0)) fun x183 =>
  HM.bind (α := Slc) (HM.load1 .slc (Addr.add ⟨x163, 0, none⟩ 1)) fun x184 =>
  HM.bind (α := Slc) (HM.load1 .slc (Addr.add ⟨x173, 0, none⟩ 0)) fun x185 =>
  HM.bind (α := Slc) (HM.load1 .slc (Addr.add ⟨x173, 0, none⟩ 1)) fun x186 =>
  HM.ite ((IntKind.wrap .i64 ((IntKind.wrap .i64 ((IntKind.wrap .i64 (((x183.len : Nat) : Int) + ((x184.len : Nat) : Int))) + ((x185.len : Nat) : Int))) + ((x186.len : Nat) : Int))) == 0) (
  HM.bind (α := yS7) (HM.loadN tS7 (Addr.add ⟨x1, 0, none⟩ 29)) fun x187 =>
  HM.bind (α := Slc) (HM.call1 Tryz.prog (.one .slc) 19 #[.pointer none, .agg (aS7 x187)]) fun x188 =>
  HM.ite (((x188.len : Nat) : Int) == 0) (
  HM.bind (α := Slc) (HM.call1 Tryz.prog (.one .slc) 20 #[.pointer none]) fun x189 =>
  HM.ite (((x189.len : Nat) : Int) == 0) (
  HM.bind (α := Slc) (HM.call1 Tryz.prog (.one .slc) 18 #[.pointer none]) fun x190 =>
  HM.ite (((x190.len : Nat) : Int) == 0) (
  HM.bind (α := Slc) (HM.call1 Tryz.prog (.one .slc) 17 #[.pointer none]) fun x191 =>
  HM.ite (((x191.len : Nat) : Int) == 0) (
  HM.ite (((x181.1.len : Nat) : Int) == 0) (
  HM.pure (((x181.2.1.len : Nat) : Int) == 0, ())) (
  HM.pure (false, ()))) (
  HM.pure (false, ()))) (
  HM.pure (false, ()))) (
  HM.pure (false, ()))) (
  HM.pure (false, ()))) (
  HM.pure (false, ()))) (
  HM.pure (false, ()))) fun x192 =>
  HM.pure (x192.1, ())) (
  HM.bind (α := Nat) (HM.new (.cells #[.slice none 0 0, .slice none 0 0] 35)) fun x193 =>
  HM.bind (α := Bool) (HM.load1 .bool (Addr.add ⟨x1, 0, none⟩ 28)) fun x194 =>
  HM.req ((.bool x194 : Value) = .bool x10) <|
  HM.bind (α := Int) (HM.load1 (.int .i64) (Addr.add ⟨x1, 0, none⟩ 1)) fun x195 =>
  HM.req ((.int .i64 x195 : Value) = .int .i64 x9) <|
  HM.bind (α := Bool) (HM.load1 .bool (Addr.add ⟨x1, 0, none⟩ 28)) fun x196 =>
  HM.req ((.bool x196 : Value) = .bool x8) <|
  HM.bind (α := yS2) (HM.loadN tS3 ⟨x4, 0, none⟩) fun x197 =>
  HM.req ((.agg (aS3 x197) : Value) = .agg (aS3 x7)) <|
  HM.bind (α := Int) (HM.load1 (.int .i64) (Addr.add ⟨x1, 0, none⟩ 1)) fun x198 =>
  HM.req ((.int .i64 x198 : Value) = .int .i64 x6) <|
  HM.bind (α := Slc × Slc × Unit) (HM.call1 Tryz.prog (.agg [.slc, .slc]) 24 #[.pointer none, .int .i64 x9, .bool x10]) fun x199 =>
  HM.bind (α := Unit) (HM.storeN ⟨x163, 0, none⟩ [.slice x169.1.a x169.1.len x169.1.cap, .slice x169.2.1.a x169.2.1.len x169.2.1.cap]) fun _ =>
  HM.bind (α := Unit) (HM.storeN ⟨x193, 0, none⟩ [.slice x199.1.a x199.1.len x199.1.cap, .slice x199.2.1.a x199.2.1.len x199.2.1.cap]) fun _ =>
  HM.bind (α := Unit) (HM.callN Tryz.prog [] 25 #[.pointer none]) fun x200 =>
  HM.bind (α := ByteArray) (HM.load1 .str (Addr.add (Addr.add ⟨x1, 0, none⟩ 2) 10)) fun x201 =>
  HM.bind (α := Slc × Slc × Unit) (HM.callN Tryz.prog [.one .slc, .one .slc] 26 #[.pointer none, .string x201]) fun x202 =>
  HM.bind (α := Bool × Unit) (HM.bind (α := Bool) (HM.call1 Tryz.prog (.one .bool) 10 #[]) fun x203 =>
  HM.ite x203 (
  HM.bind (α := Slc) (HM.load1 .slc (Addr.add ⟨x163, 0, none⟩ 0)) fun x204 =>
  HM.bind (α := Slc) (HM.load1 .slc (Addr.add ⟨x163, 0, none⟩ 1)) fun x205 =>
  HM.bind (α := Slc) (HM.load1 .slc (Addr.add ⟨x193, 0, none⟩ 0)) fun x206 =>
  HM.bind (α := Slc) (HM.load1 .slc (Addr.add ⟨x193, 0, none⟩ 1)) fun x207 =>
  HM.ite ((IntKind.wrap .i64 ((IntKind.wrap .i64 ((IntKind.wrap .i64 (((x204.len : Nat) : Int) + ((x205.len : Nat) : Int))) + ((x206.len : Nat) : Int))) + ((x207.len : Nat) : Int))) == 0) (
  HM.bind (α := yS7) (HM.loadN tS7 (Addr.add ⟨x1, 0, none⟩ 29)) fun x208 =>
  HM.bind (α := Slc) (HM.call1 Tryz.prog (.one .slc) 19 #[.pointer none, .agg (aS7 x208)]) fun x209 =>
  HM.ite (((x209.len : Nat) : Int) == 0) (
  HM.bind (α := Slc) (HM.call1 Tryz.prog (.one .slc) 20 #[.pointer none]) fun x210 =>
  HM.ite (((x210.len : Nat) : Int) == 0) (
  HM.bind (α := Slc) (HM.call1 Tryz.prog (.one .slc) 18 #[.pointer none]) fun x211 =>
  HM.ite (((x211.len : Nat) : Int) == 0) (
  HM.bind (α := Slc) (HM.call1 Tryz.prog (.one .slc) 17 #[.pointer none]) fun x212 =>
  HM.ite (((x212.len : Nat) : Int) == 0) (
  HM.ite (((x202.1.len : Nat) : Int) == 0) (
  HM.pure (((x202.2.1.len : Nat) : Int) == 0, ())) (
  HM.pure (false, ()))) (
  HM.pure (false, ()))) (
  HM.pure (false, ()))) (
  HM.pure (false, ()))) (
  HM.pure (false, ()))) (
  HM.pure (false, ()))) (
  HM.pure (false, ()))) fun x213 =>
  HM.pure (x213.1, ()))) (
  HM.bind (α := Nat) (HM.new (.cells #[.slice none 0 0, .slice none 0 0] 35)) fun x214 =>
  HM.bind (α := Bool) (HM.load1 .bool (Addr.add ⟨x1, 0, none⟩ 28)) fun x215 =>
  HM.req ((.bool x215 : Value) = .bool x10) <|
  HM.bind (α := Int) (HM.load1 (.int .i64) (Addr.add ⟨x1, 0, none⟩ 1)) fun x216 =>
  HM.req ((.int .i64 x216 : Value) = .int .i64 x9) <|
  HM.bind (α := Bool) (HM.load1 .bool (Addr.add ⟨x1, 0, none⟩ 28)) fun x217 =>
  HM.req ((.bool x217 : Value) = .bool x8) <|
  HM.bind (α := yS2) (HM.loadN tS3 ⟨x4, 0, none⟩) fun x218 =>
  HM.req ((.agg (aS3 x218) : Value) = .agg (aS3 x7)) <|
  HM.bind (α := Int) (HM.load1 (.int .i64) (Addr.add ⟨x1, 0, none⟩ 1)) fun x219 =>
  HM.req ((.int .i64 x219 : Value) = .int .i64 x6) <|
  HM.bind (α := Slc × Slc × Unit) (HM.call1 Tryz.prog (.agg [.slc, .slc]) 13 #[.pointer none, .int .i64 x6, .agg (aS3 x7), .bool x8]) fun x220 =>
  HM.bind (α := Bool) (HM.load1 .bool (Addr.add ⟨x1, 0, none⟩ 28)) fun x221 =>
  HM.req ((.bool x221 : Value) = .bool x10) <|
  HM.bind (α := Int) (HM.load1 (.int .i64) (Addr.add ⟨x1, 0, none⟩ 1)) fun x222 =>
  HM.req ((.int .i64 x222 : Value) = .int .i64 x9) <|
  HM.bind (α := Slc × Slc × Unit) (HM.call1 Tryz.prog (.agg [.slc, .slc]) 24 #[.pointer none, .int .i64 x9, .bool x10]) fun x223 =>
  HM.bind (α := Unit) (HM.storeN ⟨x163, 0, none⟩ [.slice x220.1.a x220.1.len x220.1.cap, .slice x220.2.1.a x220.2.1.len x220.2.1.cap]) fun _ =>
  HM.bind (α := Unit) (HM.storeN ⟨x214, 0, none⟩ [.slice x223.1.a x223.1.len x223.1.cap, .slice x223.2.1.a x223.2.1.len x223.2.1.cap]) fun _ =>
  HM.bind (α := Unit) (HM.callN Tryz.prog [] 25 #[.pointer none]) fun x224 =>
  HM.bind (α := ByteArray) (HM.load1 .str (Addr.add (Addr.add ⟨x1, 0, none⟩ 2) 10)) fun x225 =>
  HM.bind (α := Slc × Slc × Unit) (HM.callN Tryz.prog [.one .slc, .one .slc] 26 #[.pointer none, .string x225]) fun x226 =>
  HM.bind (α := Bool × Unit) (HM.bind (α := Bool) (HM.call1 Tryz.prog (.one .bool) 10 #[]) fun x227 =>
  HM.ite x227 (
  HM.bind (α := Slc) (HM.load1 .slc (Addr.add ⟨x163, 0, none⟩ 0)) fun x228 =>
  HM.bind (α := Slc) (HM.load1 .slc (Addr.add ⟨x163, 0, none⟩ 1)) fun x229 =>
  HM.bind (α := Slc) (HM.load1 .slc (Addr.add ⟨x214, 0, none⟩ 0)) fun x230 =>
  HM.bind (α := Slc) (HM.load1 .slc (Addr.add ⟨x214, 0, none⟩ 1)) fun x231 =>
  HM.ite ((IntKind.wrap .i64 ((IntKind.wrap .i64 ((IntKind.wrap .i64 (((x228.len : Nat) : Int) + ((x229.len : Nat) : Int))) + ((x230.len : Nat) : Int))) + ((x231.len : Nat) : Int))) == 0) (
  HM.bind (α := yS7) (HM.loadN tS7 (Addr.add ⟨x1, 0, none⟩ 29)) fun x232 =>
  HM.bind (α := Slc) (HM.call1 Tryz.prog (.one .slc) 19 #[.pointer none, .agg (aS7 x232)]) fun x233 =>
  HM.ite (((x233.len : Nat) : Int) == 0) (
  HM.bind (α := Slc) (HM.call1 Tryz.prog (.one .slc) 20 #[.pointer none]) fun x234 =>
  HM.ite (((x234.len : Nat) : Int) == 0) (
  HM.bind (α := Slc) (HM.call1 Tryz.prog (.one .slc) 18 #[.pointer none]) fun x235 =>
  HM.ite (((x235.len : Nat) : Int) == 0) (
  HM.bind (α := Slc) (HM.call1 Tryz.prog (.one .slc) 17 #[.pointer none]) fun x236 =>
  HM.ite (((x236.len : Nat) : Int) == 0) (
  HM.ite (((x226.1.len : Nat) : Int) == 0) (
  HM.pure (((x226.2.1.len : Nat) : Int) == 0, ())) (
  HM.pure (false, ()))) (
  HM.pure (false, ()))) (
  HM.pure (false, ()))) (
  HM.pure (false, ()))) (
  HM.pure (false, ()))) (
  HM.pure (false, ()))) (
  HM.pure (false, ()))) fun x237 =>
  HM.pure (x237.1, ()))) (
  HM.bind (α := Nat) (HM.new (.cells #[.slice none 0 0, .slice none 0 0] 35)) fun x238 =>
  HM.bind (α := Bool) (HM.load1 .bool (Addr.add ⟨x1, 0, none⟩ 28)) fun x239 =>
  HM.req ((.bool x239 : Value) = .bool x10) <|
  HM.bind (α := Int) (HM.load1 (.int .i64) (Addr.add ⟨x1, 0, none⟩ 1)) fun x240 =>
  HM.req ((.int .i64 x240 : Value) = .int .i64 x9) <|
  HM.bind (α := Bool) (HM.load1 .bool (Addr.add ⟨x1, 0, none⟩ 28)) fun x241 =>
  HM.req ((.bool x241 : Value) = .bool x8) <|
  HM.bind (α := yS2) (HM.loadN tS3 ⟨x4, 0, none⟩) fun x242 =>
  HM.req ((.agg (aS3 x242) : Value) = .agg (aS3 x7)) <|
  HM.bind (α := Int) (HM.load1 (.int .i64) (Addr.add ⟨x1, 0, none⟩ 1)) fun x243 =>
  HM.req ((.int .i64 x243 : Value) = .int .i64 x6) <|
  HM.both (
  HM.bind (α := Slc × Slc × Unit) (HM.call1 Tryz.prog (.agg [.slc, .slc]) 13 #[.pointer none, .int .i64 x6, .agg (aS3 x7), .bool x8]) fun x244 =>
  HM.bind (α := Bool) (HM.load1 .bool (Addr.add ⟨x1, 0, none⟩ 28)) fun x245 =>
  HM.req ((.bool x245 : Value) = .bool x10) <|
  HM.bind (α := Int) (HM.load1 (.int .i64) (Addr.add ⟨x1, 0, none⟩ 1)) fun x246 =>
  HM.req ((.int .i64 x246 : Value) = .int .i64 x9) <|
  HM.both (
  HM.bind (α := Slc × Slc × Unit) (HM.call1 Tryz.prog (.agg [.slc, .slc]) 24 #[.pointer none, .int .i64 x9, .bool x10]) fun x247 =>
  HM.bind (α := Nat) (HM.new (.cells #[.slice none 0 0, .slice none 0 0] 35)) fun x248 =>
  HM.bind (α := Bool) (HM.load1 .bool (Addr.add ⟨x1, 0, none⟩ 28)) fun x249 =>
  HM.req ((.bool x249 : Value) = .bool x10) <|
  HM.bind (α := Int) (HM.load1 (.int .i64) (Addr.add ⟨x1, 0, none⟩ 1)) fun x250 =>
  HM.req ((.int .i64 x250 : Value) = .int .i64 x9) <|
  HM.bind (α := Bool) (HM.load1 .bool (Addr.add ⟨x1, 0, none⟩ 28)) fun x251 =>
  HM.req ((.bool x251 : Value) = .bool x8) <|
  HM.bind (α := yS2) (HM.loadN tS3 ⟨x4, 0, none⟩) fun x252 =>
  HM.req ((.agg (aS3 x252) : Value) = .agg (aS3 x7)) <|
  HM.bind (α := Int) (HM.load1 (.int .i64) (Addr.add ⟨x1, 0, none⟩ 1)) fun x253 =>
  HM.req ((.int .i64 x253 : Value) = .int .i64 x6) <|
  HM.bind (α := Unit) (HM.storeN ⟨x248, 0, none⟩ [.slice x244.1.a x244.1.len x244.1.cap, .slice x244.2.1.a x244.2.1.len x244.2.1.cap]) fun _ =>
  HM.bind (α := Unit) (HM.storeN ⟨x238, 0, none⟩ [.slice x247.1.a x247.1.len x247.1.cap, .slice x247.2.1.a x247.2.1.len x247.2.1.cap]) fun _ =>
  HM.bind (α := Unit) (HM.callN Tryz.prog [] 25 #[.pointer none]) fun x254 =>
  HM.bind (α := ByteArray) (HM.load1 .str (Addr.add (Addr.add ⟨x1, 0, none⟩ 2) 10)) fun x255 =>
  HM.bind (α := Slc × Slc × Unit) (HM.callN Tryz.prog [.one .slc, .one .slc] 26 #[.pointer none, .string x255]) fun x256 =>
  HM.bind (α := Bool × Unit) (HM.bind (α := Bool) (HM.call1 Tryz.prog (.one .bool) 10 #[]) fun x257 =>
  HM.ite x257 (
  HM.bind (α := Slc) (HM.load1 .slc (Addr.add ⟨x248, 0, none⟩ 0)) fun x258 =>
  HM.bind (α := Slc) (HM.load1 .slc (Addr.add ⟨x248, 0, none⟩ 1)) fun x259 =>
  HM.bind (α := Slc) (HM.load1 .slc (Addr.add ⟨x238, 0, none⟩ 0)) fun x260 =>
  HM.bind (α := Slc) (HM.load1 .slc (Addr.add ⟨x238, 0, none⟩ 1)) fun x261 =>
  HM.ite ((IntKind.wrap .i64 ((IntKind.wrap .i64 ((IntKind.wrap .i64 (((x258.len : Nat) : Int) + ((x259.len : Nat) : Int))) + ((x260.len : Nat) : Int))) + ((x261.len : Nat) : Int))) == 0) (
  HM.bind (α := yS7) (HM.loadN tS7 (Addr.add ⟨x1, 0, none⟩ 29)) fun x262 =>
  HM.bind (α := Slc) (HM.call1 Tryz.prog (.one .slc) 19 #[.pointer none, .agg (aS7 x262)]) fun x263 =>
  HM.ite (((x263.len : Nat) : Int) == 0) (
  HM.bind (α := Slc) (HM.call1 Tryz.prog (.one .slc) 20 #[.pointer none]) fun x264 =>
  HM.ite (((x264.len : Nat) : Int) == 0) (
  HM.bind (α := Slc) (HM.call1 Tryz.prog (.one .slc) 18 #[.pointer none]) fun x265 =>
  HM.ite (((x265.len : Nat) : Int) == 0) (
  HM.bind (α := Slc) (HM.call1 Tryz.prog (.one .slc) 17 #[.pointer none]) fun x266 =>
  HM.ite (((x266.len : Nat) : Int) == 0) (
  HM.ite (((x256.1.len : Nat) : Int) == 0) (
  HM.pure (((x256.2.1.len : Nat) : Int) == 0, ())) (
  HM.pure (false, ()))) (
  HM.pure (false, ()))) (
  HM.pure (false, ()))) (
  HM.pure (false, ()))) (
  HM.pure (false, ()))) (
  HM.pure (false, ()))) (
  HM.pure (false, ()))) fun x267 =>
  HM.pure (x267.1, ())) (
  HM.bind (α := Nat) (HM.new (.cells #[.slice none 0 0, .slice none 0 0] 35)) fun x268 =>
  HM.bind (α := Bool) (HM.load1 .bool (Addr.add ⟨x1, 0, none⟩ 28)) fun x269 =>
  HM.req ((.bool x269 : Value) = .bool x10) <|
  HM.bind (α := Int) (HM.load1 (.int .i64) (Addr.add ⟨x1, 0, none⟩ 1)) fun x270 =>
  HM.req ((.int .i64 x270 : Value) = .int .i64 x9) <|
  HM.bind (α := Bool) (HM.load1 .bool (Addr.add ⟨x1, 0, none⟩ 28)) fun x271 =>
  HM.req ((.bool x271 : Value) = .bool x8) <|
  HM.bind (α := yS2) (HM.loadN tS3 ⟨x4, 0, none⟩) fun x272 =>
  HM.req ((.agg (aS3 x272) : Value) = .agg (aS3 x7)) <|
  HM.bind (α := Int) (HM.load1 (.int .i64) (Addr.add ⟨x1, 0, none⟩ 1)) fun x273 =>
  HM.req ((.int .i64 x273 : Value) = .int .i64 x6) <|
  HM.bind (α := Slc × Slc × Unit) (HM.call1 Tryz.prog (.agg [.slc, .slc]) 24 #[.pointer none, .int .i64 x9, .bool x10]) fun x274 =>
  HM.bind (α := Unit) (HM.storeN ⟨x268, 0, none⟩ [.slice x244.1.a x244.1.len x244.1.cap, .slice x244.2.1.a x244.2.1.len x244.2.1.cap]) fun _ =>
  HM.bind (α := Unit) (HM.storeN ⟨x238, 0, none⟩ [.slice x274.1.a x274.1.len x274.1.cap, .slice x274.2.1.a x274.2.1.len x274.2.1.cap]) fun _ =>
  HM.bind (α := Unit) (HM.callN Tryz.prog [] 25 #[.pointer none]) fun x275 =>
  HM.bind (α := ByteArray) (HM.load1 .str (Addr.add (Addr.add ⟨x1, 0, none⟩ 2) 10)) fun x276 =>
  HM.bind (α := Slc × Slc × Unit) (HM.callN Tryz.prog [.one .slc, .one .slc] 26 #[.pointer none, .string x276]) fun x277 =>
  HM.bind (α := Bool × Unit) (HM.bind (α := Bool) (HM.call1 Tryz.prog (.one .bool) 10 #[]) fun x278 =>
  HM.ite x278 (
  HM.bind (α := Slc) (HM.load1 .slc (Addr.add ⟨x268, 0, none⟩ 0)) fun x279 =>
  HM.bind (α := Slc) (HM.load1 .slc (Addr.add ⟨x268, 0, none⟩ 1)) fun x280 =>
  HM.bind (α := Slc) (HM.load1 .slc (Addr.add ⟨x238, 0, none⟩ 0)) fun x281 =>
  HM.bind (α := Slc) (HM.load1 .slc (Addr.add ⟨x238, 0, none⟩ 1)) fun x282 =>
  HM.ite ((IntKind.wrap .i64 ((IntKind.wrap .i64 ((IntKind.wrap .i64 (((x279.len : Nat) : Int) + ((x280.len : Nat) : Int))) + ((x281.len : Nat) : Int))) + ((x282.len : Nat) : Int))) == 0) (
  HM.bind (α := yS7) (HM.loadN tS7 (Addr.add ⟨x1, 0, none⟩ 29)) fun x283 =>
  HM.bind (α := Slc) (HM.call1 Tryz.prog (.one .slc) 19 #[.pointer none, .agg (aS7 x283)]) fun x284 =>
  HM.ite (((x284.len : Nat) : Int) == 0) (
  HM.bind (α := Slc) (HM.call1 Tryz.prog (.one .slc) 20 #[.pointer none]) fun x285 =>
  HM.ite (((x285.len : Nat) : Int) == 0) (
  HM.bind (α := Slc) (HM.call1 Tryz.prog (.one .slc) 18 #[.pointer none]) fun x286 =>
  HM.ite (((x286.len : Nat) : Int) == 0) (
  HM.bind (α := Slc) (HM.call1 Tryz.prog (.one .slc) 17 #[.pointer none]) fun x287 =>
  HM.ite (((x287.len : Nat) : Int) == 0) (
  HM.ite (((x277.1.len : Nat) : Int) == 0) (
  HM.pure (((x277.2.1.len : Nat) : Int) == 0, ())) (
  HM.pure (false, ()))) (
  HM.pure (false, ()))) (
  HM.pure (false, ()))) (
  HM.pure (false, ()))) (
  HM.pure (false, ()))) (
  HM.pure (false, ()))) (
  HM.pure (false, ()))) fun x288 =>
  HM.pure (x288.1, ()))) (
  HM.bind (α := Nat) (HM.new (.cells #[.slice none 0 0, .slice none 0 0] 35)) fun x289 =>
  HM.bind (α := Bool) (HM.load1 .bool (Addr.add ⟨x1, 0, none⟩ 28)) fun x290 =>
  HM.req ((.bool x290 : Value) = .bool x10) <|
  HM.bind (α := Int) (HM.load1 (.int .i64) (Addr.add ⟨x1, 0, none⟩ 1)) fun x291 =>
  HM.req ((.int .i64 x291 : Value) = .int .i64 x9) <|
  HM.bind (α := Bool) (HM.load1 .bool (Addr.add ⟨x1, 0, none⟩ 28)) fun x292 =>
  HM.req ((.bool x292 : Value) = .bool x8) <|
  HM.bind (α := yS2) (HM.loadN tS3 ⟨x4, 0, none⟩) fun x293 =>
  HM.req ((.agg (aS3 x293) : Value) = .agg (aS3 x7)) <|
  HM.bind (α := Int) (HM.load1 (.int .i64) (Addr.add ⟨x1, 0, none⟩ 1)) fun x294 =>
  HM.req ((.int .i64 x294 : Value) = .int .i64 x6) <|
  HM.bind (α := Slc × Slc × Unit) (HM.call1 Tryz.prog (.agg [.slc, .slc]) 13 #[.pointer none, .int .i64 x6, .agg (aS3 x7), .bool x8]) fun x295 =>
  HM.bind (α := Bool) (HM.load1 .bool (Addr.add ⟨x1, 0, none⟩ 28)) fun x296 =>
  HM.req ((.bool x296 : Value) = .bool x10) <|
  HM.bind (α := Int) (HM.load1 (.int .i64) (Addr.add ⟨x1, 0, none⟩ 1)) fun x297 =>
  HM.req ((.int .i64 x297 : Value) = .int .i64 x9) <|
  HM.bind (α := Slc × Slc × Unit) (HM.call1 Tryz.prog (.agg [.slc, .slc]) 24 #[.pointer none, .int .i64 x9, .bool x10]) fun x298 =>
  HM.bind (α := Unit) (HM.storeN ⟨x289, 0, none⟩ [.slice x295.1.a x295.1.len x295.1.cap, .slice x295.2.1.a x295.2.1.len x295.2.1.cap]) fun _ =>
  HM.bind (α := Unit) (HM.storeN ⟨x238, 0, none⟩ [.slice x298.1.a x298.1.len x298.1.cap, .slice x298.2.1.a x298.2.1.len x298.2.1.cap]) fun _ =>
  HM.bind (α := Unit) (HM.callN Tryz.prog [] 25 #[.pointer none]) fun x299 =>
  HM.bind (α := ByteArray) (HM.load1 .str (Addr.add (Addr.add ⟨x1, 0, none⟩ 2) 10)) fun x300 =>
  HM.bind (α := Slc × Slc × Unit) (HM.callN Tryz.prog [.one .slc, .one .slc] 26 #[.pointer none, .string x300]) fun x301 =>
  HM.bind (α := Bool × Unit) (HM.bind (α := Bool) (HM.call1 Tryz.prog (.one .bool) 10 #[]) fun x302 =>
  HM.ite x302 (
  HM.bind (α := Slc) (HM.load1 .slc (Addr.add ⟨x289, 0, none⟩ 0)) fun x303 =>
  HM.bind (α := Slc) (HM.load1 .slc (Addr.add ⟨x289, 0, none⟩ 1)) fun x304 =>
  HM.bind (α := Slc) (HM.load1 .slc (Addr.add ⟨x238, 0, none⟩ 0)) fun x305 =>
  HM.bind (α := Slc) (HM.load1 .slc (Addr.add ⟨x238, 0, none⟩ 1)) fun x306 =>
  HM.ite ((IntKind.wrap .i64 ((IntKind.wrap .i64 ((IntKind.wrap .i64 (((x303.len : Nat) : Int) + ((x304.len : Nat) : Int))) + ((x305.len : Nat) : Int))) + ((x306.len : Nat) : Int))) == 0) (
  HM.bind (α := yS7) (HM.loadN tS7 (Addr.add ⟨x1, 0, none⟩ 29)) fun x307 =>
  HM.bind (α := Slc) (HM.call1 Tryz.prog (.one .slc) 19 #[.pointer none, .agg (aS7 x307)]) fun x308 =>
  HM.ite (((x308.len : Nat) : Int) == 0) (
  HM.bind (α := Slc) (HM.call1 Tryz.prog (.one .slc) 20 #[.pointer none]) fun x309 =>
  HM.ite (((x309.len : Nat) : Int) == 0) (
  HM.bind (α := Slc) (HM.call1 Tryz.prog (.one .slc) 18 #[.pointer none]) fun x310 =>
  HM.ite (((x310.len : Nat) : Int) == 0) (
  HM.bind (α := Slc) (HM.call1 Tryz.prog (.one .slc) 17 #[.pointer none]) fun x311 =>
  HM.ite (((x311.len : Nat) : Int) == 0) (
  HM.ite (((x301.1.len : Nat) : Int) == 0) (
  HM.pure (((x301.2.1.len : Nat) : Int) == 0, ())) (
  HM.pure (false, ()))) (
  HM.pure (false, ()))) (
  HM.pure (false, ()))) (
  HM.pure (false, ()))) (
  HM.pure (false, ()))) (
  HM.pure (false, ()))) (
  HM.pure (false, ()))) fun x312 =>
  HM.pure (x312.1, ()))))
theorem law19_BrokerNil_den (p0 : yS0) : denFn Tryz.prog [16, 13, 24, 25, 26, 10, 19, 20, 18, 17] 94 [0, 1, 2, 3, 4, 6, 7, 8, 9] [0, 1, 3, 4, 6, 7, 8, 9] Tryz.f8.results.toList [.one .bool] (bodyOf Tryz.f8) [Kind.val (.agg tS0) p0] = q_d4 p0 := by kernel_rfl
theorem q_hz (p0 : yS0) (h : Heap) (Q : Value → Heap → Prop) (hh : q_d4 p0 h fun x h' => Q (.bool x.1) h') :
    HCalls Tryz.prog 8 #[.agg (aS0 p0)] h Q :=
  q_a Tryz.func8 (by kernel_rfl) Tryz.ntmps8 (by kernel_rfl) (CC Tryz.call16 (CC Tryz.call13 (CC Tryz.call24 (CC Tryz.call25 (CC Tryz.call26 (CC Tryz.call10 (CC Tryz.call19 (CC Tryz.call20 (CC Tryz.call18 (CC Tryz.call17 CN)))))))))) orders (law19_BrokerNil_den p0) hh
def broker_New : HM (Option Addr × Unit) :=
  HM.bind (α := Option Addr) (HM.call1 Tryz.prog (.one .ptr) 27 #[]) fun x1 =>
  HM.bind (α := Option Addr) (HM.call1 Tryz.prog (.one .ptr) 28 #[]) fun x2 =>
  HM.bind (α := Option Addr) (HM.call1 Tryz.prog (.one .ptr) 29 #[.int .i64 64]) fun x3 =>
  HM.bind (α := Nat) (HM.new (.map #[] 0)) fun x4 =>
  HM.bind (α := Nat) (HM.new (.cells #[.pointer x1, .pointer x2, .pointer x3, .map (some x4)] 104)) fun x5 =>
  HM.pure (some ⟨x5, 0, none⟩, ())
theorem broker_New_den : denFn Tryz.prog [27, 28, 29] 7 [0] [] Tryz.f9.results.toList [.one .ptr] (bodyOf Tryz.f9) [] = broker_New := by kernel_rfl
theorem broker_New_calls (h : Heap) (Q : Value → Heap → Prop) (hh : broker_New h fun x h' => Q (.pointer x.1) h') :
    HCalls Tryz.prog 9 #[] h Q :=
  q_a Tryz.func9 (by kernel_rfl) Tryz.ntmps9 (by kernel_rfl) (CC Tryz.call27 (CC Tryz.call28 (CC Tryz.call29 CN))) orders (broker_New_den) hh
def law19_wakes : HM (Bool × Unit) :=
  HM.bind (α := Option Addr) (HM.call1 Tryz.prog (.one .ptr) 9 #[]) fun x1 =>
  HM.bind (α := Bool × Unit) (HM.bind (α := Nat) (HM.new (.cells #[.string (ByteArray.mk #[97, 47, 43]), .int .i64 1, .bool false, .bool false, .int .i64 0, .string (ByteArray.mk #[35]), .int .i64 0, .bool false, .bool false, .int .i64 0] 47)) fun x2 =>
  HM.bind (α := Bool) (HM.call1 Tryz.prog (.one .bool) 11 #[.pointer x1, .int .i64 1, .string (ByteArray.mk #[99]), .slice (some ⟨x2, 0, none⟩) 2 2]) fun x3 =>
  HM.ite (!x3) (
  HM.pure (true, ())) (
  HM.bind (α := Bool) (HM.call1 Tryz.prog (.one .bool) 11 #[.pointer x1, .int .i64 2, .string (ByteArray.mk #[100]), .slice none 0 0]) fun x4 =>
  HM.pure (!x4, ()))) fun x5 =>
  HM.ite x5.1 (
  HM.pure (false, ())) (
  HM.bind (α := Slc × Slc × Unit) (HM.call1 Tryz.prog (.agg [.slc, .slc]) 13 #[.pointer x1, .int .i64 2, .agg #[.int .i64 3, .bool false, .bool false, .int .i64 2, .int .i64 9, .string (ByteArray.mk #[97, 47, 98]), .string (ByteArray.mk #[120]), .int .u8 0, .slice none 0 0, .slice none 0 0, .string (ByteArray.mk #[]), .bool false, .int .i64 0, .bool false, .string (ByteArray.mk #[]), .string (ByteArray.mk #[]), .int .i64 0, .bool false, .slice none 0 0, .bool false, .bool false, .string (ByteArray.mk #[]), .string (ByteArray.mk #[]), .bool false, .slice none 0 0, .slice none 0 0], .bool false]) fun x6 =>
  HM.bind (α := Nat) (HM.new (.cells #[.slice none 0 0, .slice none 0 0] 35)) fun x7 =>
  HM.bind (α := Unit) (HM.storeN ⟨x7, 0, none⟩ [.slice x6.1.a x6.1.len x6.1.cap, .slice x6.2.1.a x6.2.1.len x6.2.1.cap]) fun _ =>
  HM.bind (α := Bool × Unit) (HM.bind (α := Slc) (HM.load1 .slc (Addr.add ⟨x7, 0, none⟩ 0)) fun x8 =>
  HM.ite (((x8.len : Nat) : Int) == 2) (
  HM.bind (α := Slc) (HM.load1 .slc (Addr.add ⟨x7, 0, none⟩ 0)) fun x9 =>
  HM.bind (α := Addr) (HM.idx x9.a x9.len 0 28) fun x10 =>
  HM.bind (α := Int) (HM.load1 (.int .i64) (Addr.add x10 0)) fun x11 =>
  HM.ite (x11 == 2) (
  HM.bind (α := Slc) (HM.load1 .slc (Addr.add ⟨x7, 0, none⟩ 0)) fun x12 =>
  HM.bind (α := Addr) (HM.idx x12.a x12.len 0 28) fun x13 =>
  HM.bind (α := Int) (HM.load1 (.int .i64) (Addr.add (Addr.add x13 1) 0)) fun x14 =>
  HM.ite (x14 == 5) (
  HM.bind (α := Slc) (HM.load1 .slc (Addr.add ⟨x7, 0, none⟩ 0)) fun x15 =>
  HM.bind (α := Addr) (HM.idx x15.a x15.len 1 28) fun x16 =>
  HM.bind (α := Int) (HM.load1 (.int .i64) (Addr.add x16 0)) fun x17 =>
  HM.ite (x17 == 1) (
  HM.bind (α := Slc) (HM.load1 .slc (Addr.add ⟨x7, 0, none⟩ 0)) fun x18 =>
  HM.bind (α := Addr) (HM.idx x18.a x18.len 1 28) fun x19 =>
  HM.bind (α := Int) (HM.load1 (.int .i64) (Addr.add (Addr.add x19 1) 3)) fun x20 =>
  HM.ite (x20 == 1) (
  HM.bind (α := Slc) (HM.load1 .slc (Addr.add ⟨x7, 0, none⟩ 1)) fun x21 =>
  HM.pure (((x21.len : Nat) : Int) == 1, ())) (
  HM.pure (false, ()))) (
  HM.pure (false, ()))) (
  HM.pure (false, ()))) (
  HM.pure (false, ()))) (
  HM.pure (false, ()))) fun x22 =>
  HM.pure (x22.1, ()))
theorem law19_wakes_den : denFn Tryz.prog [9, 11, 13] 62 [0, 1, 2, 14] [1, 2, 14] Tryz.f10.results.toList [.one .bool] (bodyOf Tryz.f10) [] = law19_wakes := by kernel_rfl
theorem law19_wakes_calls (h : Heap) (Q : Value → Heap → Prop) (hh : law19_wakes h fun x h' => Q (.bool x.1) h') :
    HCalls Tryz.prog 10 #[] h Q :=
  q_a Tryz.func10 (by kernel_rfl) Tryz.ntmps10 (by kernel_rfl) (CC Tryz.call9 (CC Tryz.call11 (CC Tryz.call13 CN))) orders (law19_wakes_den) hh
def law19_join (p0 : Option Addr) (p1 : Int) (p2 : ByteArray) (p3 : Slc) : HM (Bool × Unit) :=
  HM.bind (α := Nat) (HM.new (.cells #[.int .i64 17, .int .i64 100, .string (ByteArray.mk #[]), .string (ByteArray.mk #[])] 106)) fun x1 =>
  HM.bind (α := Slc × Slc × Unit) (HM.call1 Tryz.prog (.agg [.slc, .slc]) 13 #[.pointer p0, .int .i64 p1, .agg #[.int .i64 1, .bool false, .bool false, .int .i64 0, .int .i64 0, .string (ByteArray.mk #[]), .string (ByteArray.mk #[]), .int .u8 0, .slice none 0 0, .slice (some ⟨x1, 0, none⟩) 1 1, .string p2, .bool false, .int .i64 0, .bool false, .string (ByteArray.mk #[]), .string (ByteArray.mk #[]), .int .i64 0, .bool false, .slice none 0 0, .bool false, .bool false, .string (ByteArray.mk #[]), .string (ByteArray.mk #[]), .bool false, .slice none 0 0, .slice none 0 0], .bool false]) fun x2 =>
  HM.bind (α := Nat) (HM.new (.cells #[.slice none 0 0, .slice none 0 0] 35)) fun x3 =>
  HM.bind (α := Unit) (HM.storeN ⟨x3, 0, none⟩ [.slice x2.1.a x2.1.len x2.1.cap, .slice x2.2.1.a x2.2.1.len x2.2.1.cap]) fun _ =>
  HM.bind (α := Bool × Unit) (HM.bind (α := Slc) (HM.load1 .slc (Addr.add ⟨x3, 0, none⟩ 0)) fun x4 =>
  HM.ite (((x4.len : Nat) : Int) == 0) (
  HM.pure (true, ())) (
  HM.bind (α := Slc) (HM.load1 .slc (Addr.add ⟨x3, 0, none⟩ 0)) fun x5 =>
  HM.bind (α := Addr) (HM.idx x5.a x5.len 0 28) fun x6 =>
  HM.bind (α := Int) (HM.load1 (.int .i64) (Addr.add (Addr.add x6 1) 0)) fun x7 =>
  HM.ite (!(x7 == 2)) (
  HM.pure (true, ())) (
  HM.bind (α := Slc) (HM.load1 .slc (Addr.add ⟨x3, 0, none⟩ 0)) fun x8 =>
  HM.bind (α := Addr) (HM.idx x8.a x8.len 0 28) fun x9 =>
  HM.bind (α := Int) (HM.load1 (.int .u8) (Addr.add (Addr.add x9 1) 7)) fun x10 =>
  HM.ite (!(x10 == 0)) (
  HM.pure (true, ())) (
  HM.bind (α := Slc) (HM.load1 .slc (Addr.add ⟨x3, 0, none⟩ 1)) fun x11 =>
  HM.pure (!(((x11.len : Nat) : Int) == 0), ()))))) fun x12 =>
  HM.ite x12.1 (
  HM.pure (false, ())) (
  HM.ite (((p3.len : Nat) : Int) == 0) (
  HM.pure (true, ())) (
  HM.bind (α := Slc × Slc × Unit) (HM.call1 Tryz.prog (.agg [.slc, .slc]) 13 #[.pointer p0, .int .i64 p1, .agg #[.int .i64 8, .bool false, .bool false, .int .i64 0, .int .i64 1, .string (ByteArray.mk #[]), .string (ByteArray.mk #[]), .int .u8 0, .slice none 0 0, .slice none 0 0, .string (ByteArray.mk #[]), .bool false, .int .i64 0, .bool false, .string (ByteArray.mk #[]), .string (ByteArray.mk #[]), .int .i64 0, .bool false, .slice none 0 0, .bool false, .bool false, .string (ByteArray.mk #[]), .string (ByteArray.mk #[]), .bool false, .slice p3.a p3.len p3.cap, .slice none 0 0], .bool false]) fun x13 =>
  HM.bind (α := Nat) (HM.new (.cells #[.slice none 0 0, .slice none 0 0] 35)) fun x14 =>
  HM.bind (α := Unit) (HM.storeN ⟨x14, 0, none⟩ [.slice x13.1.a x13.1.len x13.1.cap, .slice x13.2.1.a x13.2.1.len x13.2.1.cap]) fun _ =>
  HM.bind (α := Bool × Unit) (HM.bind (α := Slc) (HM.load1 .slc (Addr.add ⟨x14, 0, none⟩ 0)) fun x15 =>
  HM.ite (decide (1 ≤ (((x15.len : Nat) : Int) : Int))) (
  HM.bind (α := Slc) (HM.load1 .slc (Addr.add ⟨x14, 0, none⟩ 0)) fun x16 =>
  HM.bind (α := Addr) (HM.idx x16.a x16.len 0 28) fun x17 =>
  HM.bind (α := Int) (HM.load1 (.int .i64) (Addr.add (Addr.add x17 1) 0)) fun x18 =>
  HM.ite (x18 == 9) (
  HM.bind (α := Slc) (HM.load1 .slc (Addr.add ⟨x14, 0, none⟩ 0)) fun x19 =>
  HM.bind (α := Addr) (HM.idx x19.a x19.len 0 28) fun x20 =>
  HM.bind (α := Slc) (HM.load1 .slc (Addr.add (Addr.add x20 1) 8)) fun x21 =>
  HM.pure (((x21.len : Nat) : Int) == ((p3.len : Nat) : Int), ())) (
  HM.pure (false, ()))) (
  HM.pure (false, ()))) fun x22 =>
  HM.pure (x22.1, ())))
theorem law19_join_den (p0 : Option Addr) (p1 : Int) (p2 : ByteArray) (p3 : Slc) : denFn Tryz.prog [13] 79 [0, 1, 2, 3, 8, 9, 10, 45, 48] [0, 1, 2, 3, 9, 10, 45, 48] Tryz.f11.results.toList [.one .bool] (bodyOf Tryz.f11) [Kind.val (.one .ptr) p0, Kind.val (.one (.int .i64)) p1, Kind.val (.one .str) p2, Kind.val (.one .slc) p3] = law19_join p0 p1 p2 p3 := by kernel_rfl
theorem law19_join_calls (p0 : Option Addr) (p1 : Int) (p2 : ByteArray) (p3 : Slc) (h : Heap) (Q : Value → Heap → Prop) (hh : law19_join p0 p1 p2 p3 h fun x h' => Q (.bool x.1) h') :
    HCalls Tryz.prog 11 #[.pointer p0, .int .i64 p1, .string p2, .slice p3.a p3.len p3.cap] h Q :=
  q_a Tryz.func11 (by kernel_rfl) Tryz.ntmps11 (by kernel_rfl) (CC Tryz.call13 CN) orders (law19_join_den p0 p1 p2 p3) hh
def q_dv (p0 : ByteArray) : HM (Int × Unit) :=
  HM.bind (α := Bool × Unit) (HM.bind (α := Bool) (HM.call1 Tryz.prog (.one .bool) 30 #[.string p0]) fun x1 =>
  HM.ite (!x1) (
  HM.pure (true, ())) (
  HM.bind (α := Bool) (HM.call1 Tryz.prog (.one .bool) 31 #[.string p0, .string (ByteArray.mk #[43])]) fun x2 =>
  HM.ite x2 (
  HM.pure (true, ())) (
  HM.bind (α := Bool) (HM.call1 Tryz.prog (.one .bool) 31 #[.string p0, .string (ByteArray.mk #[35])]) fun x3 =>
  HM.pure (x3, ())))) fun x4 =>
  HM.ite x4.1 (
  HM.pure (144, ())) (
  HM.pure (0, ()))
theorem topic_CheckName_den (p0 : ByteArray) : denFn Tryz.prog [30, 31] 14 [0, 2, 13] [0, 13] Tryz.f12.results.toList [.one (.int .u8)] (bodyOf Tryz.f12) [Kind.val (.one .str) p0] = q_dv p0 := by kernel_rfl
theorem q_hf (p0 : ByteArray) (h : Heap) (Q : Value → Heap → Prop) (hh : q_dv p0 h fun x h' => Q (.int .u8 x.1) h') :
    HCalls Tryz.prog 12 #[.string p0] h Q :=
  q_a Tryz.func12 (by kernel_rfl) Tryz.ntmps12 (by kernel_rfl) (CC Tryz.call30 (CC Tryz.call31 CN)) orders (topic_CheckName_den p0) hh
def q_a4 (p0 : Option Addr) (p1 : Int) (p2 : yS2) (p3 : Bool) : HM ((Slc × Slc × Unit) × Unit) :=
  HM.bind (α := Nat) (HM.new (.cells (aS3 p2) 45)) fun x1 =>
  HM.bind (α := Nat) (HM.new (.cells #[.slice none 0 0, .slice none 0 0] 35)) fun x2 =>
  HM.ite (Option.isNone p0) (
  HM.bind (α := Unit) (HM.storeN ⟨x2, 0, none⟩ [.slice none 0 0, .slice none 0 0]) fun _ =>
  HM.bind (α := Slc × Slc × Unit) (HM.loadN [.slc, .slc] ⟨x2, 0, none⟩) fun x3 =>
  HM.pure ((x3.1, x3.2.1, ()), ())) (
  HM.bind (α := Nat) (HM.new (.cells #[.pointer p0, .bool p3, .slice none 0 0, .slice none 0 0] 110)) fun x4 =>
  HM.bind (α := Addr) (HM.nonnil p0) fun x5 =>
  HM.bind (α := Option Nat) (HM.load1 .map (Addr.add x5 3)) fun x6 =>
  HM.bind (α := (yS4) × Bool) (HM.lookup (Instr.sameNow (.int .i64)) (.agg zS4) (.agg tS4) x6 (.int .i64 p1)) fun x7 =>
  HM.bind (α := Nat) (HM.new (.cells zS4 112)) fun x8 =>
  HM.bind (α := Unit) (HM.storeN ⟨x8, 0, none⟩ (lS4 x7.1)) fun _ =>
  HM.bind (α := Unit) (HM.ite x7.2 (
  HM.bind (α := yS2) (HM.loadN tS3 ⟨x1, 0, none⟩) fun x10 =>
  HM.bind (α := Unit) (HM.callN Tryz.prog [] 32 #[.pointer (some ⟨x4, 0, none⟩), .int .i64 p1, .agg (aS3 x10)]) fun x11 =>
  HM.pure ()) (
  HM.bind (α := Int) (HM.load1 (.int .i64) (Addr.add ⟨x1, 0, none⟩ 0)) fun x12 =>
  HM.bind (α := Unit) (HM.ite (x12 == 1) (
  HM.bind (α := yS2) (HM.loadN tS3 ⟨x1, 0, none⟩) fun x14 =>
  HM.bind (α := Unit) (HM.callN Tryz.prog [] 33 #[.pointer (some ⟨x4, 0, none⟩), .int .i64 p1, .agg (aS3 x14)]) fun x15 =>
  HM.pure ()) (
  HM.bind (α := Unit) (HM.callN Tryz.prog [] 34 #[.pointer (some ⟨x4, 0, none⟩), .int .i64 p1, .agg #[.int .i64 14, .bool false, .bool false, .int .i64 0, .int .i64 0, .string (ByteArray.mk #[]), .string (ByteArray.mk #[]), .int .u8 130, .slice none 0 0, .slice none 0 0, .string (ByteArray.mk #[]), .bool false, .int .i64 0, .bool false, .string (ByteArray.mk #[]), .string (ByteArray.mk #[]), .int .i64 0, .bool false, .slice none 0 0, .bool false, .bool false, .string (ByteArray.mk #[]), .string (ByteArray.mk #[]), .bool false, .slice none 0 0, .slice none 0 0]]) fun x16 =>
  HM.pure ())) fun x13 =>
  HM.pure ())) fun x9 =>
  HM.bind (α := Addr) (HM.nonnil (some ⟨x4, 0, none⟩)) fun x17 =>
  HM.bind (α := Slc × Slc × Unit) (HM.loadN [.slc, .slc] (Addr.add x17 2)) fun x18 =>
  HM.bind (α := Unit) (HM.storeN ⟨x2, 0, none⟩ [.slice x18.1.a x18.1.len x18.1.cap, .slice x18.2.1.a x18.2.1.len x18.2.1.cap]) fun _ =>
  HM.bind (α := Slc × Slc × Unit) (HM.loadN [.slc, .slc] ⟨x2, 0, none⟩) fun x19 =>
  HM.pure ((x19.1, x19.2.1, ()), ()))
theorem q_fl (p0 : Option Addr) (p1 : Int) (p2 : yS2) (p3 : Bool) : denFn Tryz.prog [32, 33, 34] 50 [0, 1, 2, 3, 6, 8, 9, 11, 13, 32, 38] [0, 1, 2, 3, 6, 8, 9, 11, 13, 32, 38] Tryz.f13.results.toList [.agg [.slc, .slc]] (bodyOf Tryz.f13) [Kind.val (.one .ptr) p0, Kind.val (.one (.int .i64)) p1, Kind.val (.agg tS3) p2, Kind.val (.one .bool) p3] = q_a4 p0 p1 p2 p3 := by kernel_rfl
theorem q_br (p0 : Option Addr) (p1 : Int) (p2 : yS2) (p3 : Bool) (h : Heap) (Q : Value → Heap → Prop) (hh : q_a4 p0 p1 p2 p3 h fun x h' => Q (.agg #[.slice x.1.1.a x.1.1.len x.1.1.cap, .slice x.1.2.1.a x.1.2.1.len x.1.2.1.cap]) h') :
    HCalls Tryz.prog 13 #[.pointer p0, .int .i64 p1, .agg (aS3 p2), .bool p3] h Q :=
  q_a Tryz.func13 (by kernel_rfl) Tryz.ntmps13 (by kernel_rfl) (CC Tryz.call32 (CC Tryz.call33 (CC Tryz.call34 CN))) orders (q_fl p0 p1 p2 p3) hh
def topic_Match (p0 : ByteArray) (p1 : ByteArray) : HM (Bool × Unit) :=
  HM.bind (α := Bool × Unit) (HM.bind (α := Int) (HM.call1 Tryz.prog (.one (.int .u8)) 35 #[.string p0]) fun x1 =>
  HM.ite (!(x1 == 0)) (
  HM.pure (true, ())) (
  HM.bind (α := Int) (HM.call1 Tryz.prog (.one (.int .u8)) 12 #[.string p1]) fun x2 =>
  HM.pure (!(x2 == 0), ()))) fun x3 =>
  HM.ite x3.1 (
  HM.pure (false, ())) (
  HM.bind (α := Bool × Unit) (HM.bind (α := Int) (HM.strIdx p1 0) fun x4 =>
  HM.ite (x4 == 36) (
  HM.bind (α := ByteArray) (HM.substr p0 none (some 1)) fun x5 =>
  HM.ite (decide (x5 = (ByteArray.mk #[43]))) (
  HM.pure (true, ())) (
  HM.bind (α := ByteArray) (HM.substr p0 none (some 1)) fun x6 =>
  HM.pure (decide (x6 = (ByteArray.mk #[35])), ()))) (
  HM.pure (false, ()))) fun x7 =>
  HM.ite x7.1 (
  HM.pure (false, ())) (
  HM.bind (α := Slc) (HM.call1 Tryz.prog (.one .slc) 36 #[.string p0]) fun x8 =>
  HM.bind (α := Slc) (HM.call1 Tryz.prog (.one .slc) 36 #[.string p1]) fun x9 =>
  HM.bind (α := Addr) (HM.idx x8.a x8.len (IntKind.wrap .i64 (((x8.len : Nat) : Int) - 1)) 1) fun x10 =>
  HM.bind (α := ByteArray) (HM.load1 .str x10) fun x11 =>
  HM.bind (α := Slc × Unit) (HM.ite (decide (x11 = (ByteArray.mk #[35]))) (
  HM.bind (α := Slc) (HM.slice x8 none (some (IntKind.wrap .i64 (((x8.len : Nat) : Int) - 1))) none 1) fun x13 =>
  HM.pure (x13, ())) (
  HM.pure (x8, ()))) fun x12 =>
  HM.bind (α := Bool × Unit) (HM.ite (decide (((x9.len : Nat) : Int) < (((x12.1.len : Nat) : Int) : Int))) (
  HM.pure (true, ())) (
  HM.ite (!(decide (x11 = (ByteArray.mk #[35])))) (
  HM.pure (decide (((x12.1.len : Nat) : Int) < (((x9.len : Nat) : Int) : Int)), ())) (
  HM.pure (false, ())))) fun x14 =>
  HM.ite x14.1 (
  HM.pure (false, ())) (
  HM.bind (α := Slc) (HM.slice x9 none (some ((x12.1.len : Nat) : Int)) none 1) fun x15 =>
  HM.bind (α := Bool) (HM.call1 Tryz.prog (.one .bool) 37 #[.slice x12.1.a x12.1.len x12.1.cap, .slice x15.a x15.len x15.cap, .func (.func 38) #[] #[]]) fun x16 =>
  HM.pure (x16, ()))))
theorem topic_Match_den (p0 : ByteArray) (p1 : ByteArray) : denFn Tryz.prog [35, 12, 36, 37] 68 [0, 1, 4, 5, 6, 7, 15, 28, 40, 61] [0, 1, 5, 6, 7, 15, 28, 40, 61] Tryz.f14.results.toList [.one .bool] (bodyOf Tryz.f14) [Kind.val (.one .str) p0, Kind.val (.one .str) p1] = topic_Match p0 p1 := by kernel_rfl
theorem topic_Match_calls (p0 : ByteArray) (p1 : ByteArray) (h : Heap) (Q : Value → Heap → Prop) (hh : topic_Match p0 p1 h fun x h' => Q (.bool x.1) h') :
    HCalls Tryz.prog 14 #[.string p0, .string p1] h Q :=
  q_a Tryz.func14 (by kernel_rfl) Tryz.ntmps14 (by kernel_rfl) (CC Tryz.call35 (CC Tryz.call12 (CC Tryz.call36 (CC Tryz.call37 CN)))) orders (topic_Match_den p0 p1) hh
def q_g (p0 : yS2) : HM ((yS2) × (yS2) × Unit) :=
  HM.bind (α := Nat) (HM.new (.cells (aS3 p0) 60)) fun x1 =>
  HM.bind (α := Nat) (HM.new (.cells zS3 45)) fun x2 =>
  HM.bind (α := Nat) (HM.new (.cells zS2 70)) fun x3 =>
  HM.bind (α := Int) (HM.load1 (.int .i64) (Addr.add ⟨x1, 0, none⟩ 0)) fun x4 =>
  HM.bind (α := Bool) (HM.load1 .bool (Addr.add ⟨x1, 0, none⟩ 1)) fun x5 =>
  HM.bind (α := Bool) (HM.load1 .bool (Addr.add ⟨x1, 0, none⟩ 2)) fun x6 =>
  HM.bind (α := Int) (HM.load1 (.int .i64) (Addr.add ⟨x1, 0, none⟩ 3)) fun x7 =>
  HM.bind (α := Int) (HM.load1 (.int .i64) (Addr.add ⟨x1, 0, none⟩ 4)) fun x8 =>
  HM.bind (α := ByteArray) (HM.load1 .str (Addr.add ⟨x1, 0, none⟩ 5)) fun x9 =>
  HM.bind (α := ByteArray) (HM.load1 .str (Addr.add ⟨x1, 0, none⟩ 6)) fun x10 =>
  HM.bind (α := Int) (HM.load1 (.int .u8) (Addr.add ⟨x1, 0, none⟩ 7)) fun x11 =>
  HM.bind (α := ByteArray) (HM.load1 .str (Addr.add ⟨x1, 0, none⟩ 10)) fun x12 =>
  HM.bind (α := Bool) (HM.load1 .bool (Addr.add ⟨x1, 0, none⟩ 11)) fun x13 =>
  HM.bind (α := Int) (HM.load1 (.int .i64) (Addr.add ⟨x1, 0, none⟩ 12)) fun x14 =>
  HM.bind (α := Bool) (HM.load1 .bool (Addr.add ⟨x1, 0, none⟩ 13)) fun x15 =>
  HM.bind (α := Bool) (HM.load1 .bool (Addr.add ⟨x1, 0, none⟩ 19)) fun x16 =>
  HM.bind (α := Bool) (HM.load1 .bool (Addr.add ⟨x1, 0, none⟩ 20)) fun x17 =>
  HM.bind (α := ByteArray) (HM.load1 .str (Addr.add ⟨x1, 0, none⟩ 21)) fun x18 =>
  HM.bind (α := ByteArray) (HM.load1 .str (Addr.add ⟨x1, 0, none⟩ 22)) fun x19 =>
  HM.bind (α := Bool) (HM.load1 .bool (Addr.add ⟨x1, 0, none⟩ 23)) fun x20 =>
  HM.bind (α := Nat) (HM.new (.cells zS3 45)) fun x21 =>
  HM.bind (α := Unit) (HM.storeN ⟨x21, 0, none⟩ [.int .i64 x4, .bool x5, .bool x6, .int .i64 x7, .int .i64 x8, .string x9, .string x10, .int .u8 x11, .slice none 0 0, .slice none 0 0, .string x12, .bool x13, .int .i64 x14, .bool x15, .string (ByteArray.mk #[]), .string (ByteArray.mk #[]), .int .i64 0, .bool false, .slice none 0 0, .bool x16, .bool x17, .string x18, .string x19, .bool x20, .slice none 0 0, .slice none 0 0]) fun _ =>
  HM.bind (α := Int) (HM.load1 (.int .i64) (Addr.add ⟨x1, 0, none⟩ 0)) fun x22 =>
  HM.bind (α := Bool) (HM.load1 .bool (Addr.add ⟨x1, 0, none⟩ 1)) fun x23 =>
  HM.bind (α := Bool) (HM.load1 .bool (Addr.add ⟨x1, 0, none⟩ 2)) fun x24 =>
  HM.bind (α := Int) (HM.load1 (.int .i64) (Addr.add ⟨x1, 0, none⟩ 3)) fun x25 =>
  HM.bind (α := Int) (HM.load1 (.int .i64) (Addr.add ⟨x1, 0, none⟩ 4)) fun x26 =>
  HM.bind (α := ByteArray) (HM.load1 .str (Addr.add ⟨x1, 0, none⟩ 5)) fun x27 =>
  HM.bind (α := ByteArray) (HM.load1 .str (Addr.add ⟨x1, 0, none⟩ 6)) fun x28 =>
  HM.bind (α := Int) (HM.load1 (.int .u8) (Addr.add ⟨x1, 0, none⟩ 7)) fun x29 =>
  HM.bind (α := ByteArray) (HM.load1 .str (Addr.add ⟨x1, 0, none⟩ 10)) fun x30 =>
  HM.bind (α := Bool) (HM.load1 .bool (Addr.add ⟨x1, 0, none⟩ 11)) fun x31 =>
  HM.bind (α := Int) (HM.load1 (.int .i64) (Addr.add ⟨x1, 0, none⟩ 12)) fun x32 =>
  HM.bind (α := Bool) (HM.load1 .bool (Addr.add ⟨x1, 0, none⟩ 13)) fun x33 =>
  HM.bind (α := Bool) (HM.load1 .bool (Addr.add ⟨x1, 0, none⟩ 19)) fun x34 =>
  HM.bind (α := Bool) (HM.load1 .bool (Addr.add ⟨x1, 0, none⟩ 20)) fun x35 =>
  HM.bind (α := ByteArray) (HM.load1 .str (Addr.add ⟨x1, 0, none⟩ 21)) fun x36 =>
  HM.bind (α := ByteArray) (HM.load1 .str (Addr.add ⟨x1, 0, none⟩ 22)) fun x37 =>
  HM.bind (α := Bool) (HM.load1 .bool (Addr.add ⟨x1, 0, none⟩ 23)) fun x38 =>
  HM.bind (α := Nat) (HM.new (.cells zS2 70)) fun x39 =>
  HM.bind (α := Unit) (HM.storeN ⟨x39, 0, none⟩ [.int .i64 x22, .bool x23, .bool x24, .int .i64 x25, .int .i64 x26, .string x27, .string x28, .int .i64 (IntKind.wrap .i64 x29), .slice none 0 0, .slice none 0 0, .string x30, .bool x31, .int .i64 x32, .bool x33, .string (ByteArray.mk #[]), .string (ByteArray.mk #[]), .int .i64 0, .bool false, .slice none 0 0, .bool x34, .bool x35, .string x36, .string x37, .bool x38, .slice none 0 0, .slice none 0 0]) fun _ =>
  HM.bind (α := Slc) (HM.load1 .slc (Addr.add ⟨x1, 0, none⟩ 9)) fun x40 =>
  HM.bind (α := Slc × Slc × Unit) (HM.callN Tryz.prog [.one .slc, .one .slc] 39 #[.slice x40.a x40.len x40.cap]) fun x41 =>
  HM.bind (α := Unit) (HM.store1 (Addr.add ⟨x21, 0, none⟩ 9) (.slice x41.1.a x41.1.len x41.1.cap)) fun _ =>
  HM.bind (α := Unit) (HM.store1 (Addr.add ⟨x39, 0, none⟩ 9) (.slice x41.2.1.a x41.2.1.len x41.2.1.cap)) fun _ =>
  HM.bind (α := ByteArray) (HM.load1 .str (Addr.add (Addr.add ⟨x1, 0, none⟩ 14) 0)) fun x42 =>
  HM.bind (α := ByteArray) (HM.load1 .str (Addr.add (Addr.add ⟨x1, 0, none⟩ 14) 1)) fun x43 =>
  HM.bind (α := Int) (HM.load1 (.int .i64) (Addr.add (Addr.add ⟨x1, 0, none⟩ 14) 2)) fun x44 =>
  HM.bind (α := Bool) (HM.load1 .bool (Addr.add (Addr.add ⟨x1, 0, none⟩ 14) 3)) fun x45 =>
  HM.bind (α := Unit) (HM.storeN (Addr.add ⟨x21, 0, none⟩ 14) [.string x42, .string x43, .int .i64 x44, .bool x45, .slice none 0 0]) fun _ =>
  HM.bind (α := ByteArray) (HM.load1 .str (Addr.add (Addr.add ⟨x1, 0, none⟩ 14) 0)) fun x46 =>
  HM.bind (α := ByteArray) (HM.load1 .str (Addr.add (Addr.add ⟨x1, 0, none⟩ 14) 1)) fun x47 =>
  HM.bind (α := Int) (HM.load1 (.int .i64) (Addr.add (Addr.add ⟨x1, 0, none⟩ 14) 2)) fun x48 =>
  HM.bind (α := Bool) (HM.load1 .bool (Addr.add (Addr.add ⟨x1, 0, none⟩ 14) 3)) fun x49 =>
  HM.bind (α := Unit) (HM.storeN (Addr.add ⟨x39, 0, none⟩ 14) [.string x46, .string x47, .int .i64 x48, .bool x49, .slice none 0 0]) fun _ =>
  HM.bind (α := Slc) (HM.load1 .slc (Addr.add (Addr.add ⟨x1, 0, none⟩ 14) 4)) fun x50 =>
  HM.bind (α := Slc × Slc × Unit) (HM.callN Tryz.prog [.one .slc, .one .slc] 39 #[.slice x50.a x50.len x50.cap]) fun x51 =>
  HM.bind (α := Unit) (HM.store1 (Addr.add (Addr.add ⟨x21, 0, none⟩ 14) 4) (.slice x51.1.a x51.1.len x51.1.cap)) fun _ =>
  HM.bind (α := Unit) (HM.store1 (Addr.add (Addr.add ⟨x39, 0, none⟩ 14) 4) (.slice x51.2.1.a x51.2.1.len x51.2.1.cap)) fun _ =>
  HM.bind (α := Slc) (HM.load1 .slc (Addr.add ⟨x1, 0, none⟩ 8)) fun x52 =>
  HM.bind (α := Slc) (HM.load1 .slc (Addr.add ⟨x1, 0, none⟩ 8)) fun x53 =>
  HM.bind (α := Slc) (HM.slice x52 none (some (if 80 < (((x53.len : Nat) : Int) : Int) then 80 else ((x53.len : Nat) : Int))) none 1) fun x54 =>
  HM.bind (α := Int × Unit) (HM.loop (σ := Int × Unit) (τ := Int × Unit) (fun x56 =>
  HM.ite (decide (x56.1 < (((x54.len : Nat) : Int) : Int))) (
  HM.bind (α := Addr) (HM.idx x54.a x54.len x56.1 1) fun x57 =>
  HM.bind (α := Int) (HM.load1 (.int .u8) x57) fun x58 =>
  HM.bind (α := Slc) (HM.load1 .slc (Addr.add ⟨x21, 0, none⟩ 8)) fun x59 =>
  HM.bind (α := Slc) (HM.load1 .slc (Addr.add ⟨x39, 0, none⟩ 8)) fun x60 =>
  HM.both (
  HM.bind (α := Nat) (HM.new (.cells #[.int .u8 x58] 30)) fun x61 =>
  HM.bind (α := Slc) (HM.load1 .slc (Addr.add ⟨x39, 0, none⟩ 8)) fun x62 =>
  HM.req ((.slice x62.a x62.len x62.cap : Value) = .slice x60.a x60.len x60.cap) <|
  HM.bind (α := Slc) (HM.load1 .slc (Addr.add ⟨x21, 0, none⟩ 8)) fun x63 =>
  HM.req ((.slice x63.a x63.len x63.cap : Value) = .slice x59.a x59.len x59.cap) <|
  HM.both (
  HM.bind (α := Slc) (HM.append 30 1 1 #[.int .u8 0] x59 1 (srcSlc 1 (⟨some ⟨x61, 0, none⟩, 1, 1⟩))) fun x64 =>
  HM.bind (α := Slc) (HM.load1 .slc (Addr.add ⟨x39, 0, none⟩ 8)) fun x65 =>
  HM.req ((.slice x65.a x65.len x65.cap : Value) = .slice x60.a x60.len x60.cap) <|
  HM.bind (α := Nat) (HM.new (.cells #[.int .i64 (IntKind.wrap .i64 x58)] 3)) fun x66 =>
  HM.bind (α := Slc) (HM.load1 .slc (Addr.add ⟨x39, 0, none⟩ 8)) fun x67 =>
  HM.req ((.slice x67.a x67.len x67.cap : Value) = .slice x60.a x60.len x60.cap) <|
  HM.bind (α := Slc) (HM.load1 .slc (Addr.add ⟨x21, 0, none⟩ 8)) fun x68 =>
  HM.req ((.slice x68.a x68.len x68.cap : Value) = .slice x59.a x59.len x59.cap) <|
  HM.bind (α := Slc) (HM.append 3 1 8 #[.int .i64 0] x60 1 (srcSlc 1 (⟨some ⟨x66, 0, none⟩, 1, 1⟩))) fun x69 =>
  HM.bind (α := Unit) (HM.store1 (Addr.add ⟨x21, 0, none⟩ 8) (.slice x64.a x64.len x64.cap)) fun _ =>
  HM.bind (α := Unit) (HM.store1 (Addr.add ⟨x39, 0, none⟩ 8) (.slice x69.a x69.len x69.cap)) fun _ =>
  HM.pure (.inl (IntKind.wrap .i64 (x56.1 + 1), ()))) (
  HM.bind (α := Nat) (HM.new (.cells #[.int .i64 (IntKind.wrap .i64 x58)] 3)) fun x70 =>
  HM.bind (α := Slc) (HM.load1 .slc (Addr.add ⟨x39, 0, none⟩ 8)) fun x71 =>
  HM.req ((.slice x71.a x71.len x71.cap : Value) = .slice x60.a x60.len x60.cap) <|
  HM.bind (α := Slc) (HM.load1 .slc (Addr.add ⟨x21, 0, none⟩ 8)) fun x72 =>
  HM.req ((.slice x72.a x72.len x72.cap : Value) = .slice x59.a x59.len x59.cap) <|
  HM.bind (α := Slc) (HM.append 30 1 1 #[.int .u8 0] x59 1 (srcSlc 1 (⟨some ⟨x61, 0, none⟩, 1, 1⟩))) fun x73 =>
  HM.bind (α := Slc) (HM.load1 .slc (Addr.add ⟨x39, 0, none⟩ 8)) fun x74 =>
  HM.req ((.slice x74.a x74.len x74.cap : Value) = .slice x60.a x60.len x60.cap) <|
  HM.bind (α := Slc) (HM.append 3 1 8 #[.int .i64 0] x60 1 (srcSlc 1 (⟨some ⟨x70, 0, none⟩, 1, 1⟩))) fun x75 =>
  HM.bind (α := Unit) (HM.store1 (Addr.add ⟨x21, 0, none⟩ 8) (.slice x73.a x73.len x73.cap)) fun _ =>
  HM.bind (α := Unit) (HM.store1 (Addr.add ⟨x39, 0, none⟩ 8) (.slice x75.a x75.len x75.cap)) fun _ =>
  HM.pure (.inl (IntKind.wrap .i64 (x56.1 + 1), ())))) (
  HM.bind (α := Nat) (HM.new (.cells #[.int .i64 (IntKind.wrap .i64 x58)] 3)) fun x76 =>
  HM.bind (α := Slc) (HM.load1 .slc (Addr.add ⟨x39, 0, none⟩ 8)) fun x77 =>
  HM.req ((.slice x77.a x77.len x77.cap : Value) = .slice x60.a x60.len x60.cap) <|
  HM.bind (α := Slc) (HM.load1 .slc (Addr.add ⟨x21, 0, none⟩ 8)) fun x78 =>
  HM.req ((.slice x78.a x78.len x78.cap : Value) = .slice x59.a x59.len x59.cap) <|
  HM.bind (α := Nat) (HM.new (.cells #[.int .u8 x58] 30)) fun x79 =>
  HM.bind (α := Slc) (HM.load1 .slc (Addr.add ⟨x39, 0, none⟩ 8)) fun x80 =>
  HM.req ((.slice x80.a x80.len x80.cap : Value) = .slice x60.a x60.len x60.cap) <|
  HM.bind (α := Slc) (HM.load1 .slc (Addr.add ⟨x21, 0, none⟩ 8)) fun x81 =>
  HM.req ((.slice x81.a x81.len x81.cap : Value) = .slice x59.a x59.len x59.cap) <|
  HM.bind (α := Slc) (HM.append 30 1 1 #[.int .u8 0] x59 1 (srcSlc 1 (⟨some ⟨x79, 0, none⟩, 1, 1⟩))) fun x82 =>
  HM.bind (α := Slc) (HM.load1 .slc (Addr.add ⟨x39, 0, none⟩ 8)) fun x83 =>
  HM.req ((.slice x83.a x83.len x83.cap : Value) = .slice x60.a x60.len x60.cap) <|
  HM.bind (α := Slc) (HM.append 3 1 8 #[.int .i64 0] x60 1 (srcSlc 1 (⟨some ⟨x76, 0, none⟩, 1, 1⟩))) fun x84 =>
  HM.bind (α := Unit) (HM.store1 (Addr.add ⟨x21, 0, none⟩ 8) (.slice x82.a x82.len x82.cap)) fun _ =>
  HM.bind (α := Unit) (HM.store1 (Addr.add ⟨x39, 0, none⟩ 8) (.slice x84.a x84.len x84.cap)) fun _ =>
  HM.pure (.inl (IntKind.wrap .i64 (x56.1 + 1), ())))) (
  HM.pure (.inr (x56.1, ())))) (0, ())) fun x55 =>
  HM.bind (α := Slc) (HM.load1 .slc (Addr.add ⟨x1, 0, none⟩ 24)) fun x85 =>
  HM.bind (α := Slc) (HM.load1 .slc (Addr.add ⟨x1, 0, none⟩ 24)) fun x86 =>
  HM.bind (α := Slc) (HM.slice x85 none (some (if 80 < (((x86.len : Nat) : Int) : Int) then 80 else ((x86.len : Nat) : Int))) none 5) fun x87 =>
  HM.bind (α := Int × Unit) (HM.loop (σ := Int × Unit) (τ := Int × Unit) (fun x89 =>
  HM.ite (decide (x89.1 < (((x87.len : Nat) : Int) : Int))) (
  HM.bind (α := Addr) (HM.idx x87.a x87.len x89.1 5) fun x90 =>
  HM.bind (α := yS6) (HM.loadN tS6 x90) fun x91 =>
  HM.bind (α := Nat) (HM.new (.cells zS6 119)) fun x92 =>
  HM.bind (α := Unit) (HM.storeN ⟨x92, 0, none⟩ (lS6 x91)) fun _ =>
  HM.bind (α := Slc) (HM.load1 .slc (Addr.add ⟨x21, 0, none⟩ 24)) fun x93 =>
  HM.bind (α := yS6) (HM.loadN tS6 ⟨x92, 0, none⟩) fun x94 =>
  HM.bind (α := Slc) (HM.load1 .slc (Addr.add ⟨x39, 0, none⟩ 24)) fun x95 =>
  HM.bind (α := yS6) (HM.loadN tS6 ⟨x92, 0, none⟩) fun x96 =>
  HM.both (
  HM.bind (α := Nat) (HM.new (.cells (aS6 x94) 47)) fun x97 =>
  HM.bind (α := yS6) (HM.loadN tS6 ⟨x92, 0, none⟩) fun x98 =>
  HM.req ((.agg (aS6 x98) : Value) = .agg (aS6 x96)) <|
  HM.bind (α := Slc) (HM.load1 .slc (Addr.add ⟨x39, 0, none⟩ 24)) fun x99 =>
  HM.req ((.slice x99.a x99.len x99.cap : Value) = .slice x95.a x95.len x95.cap) <|
  HM.bind (α := Slc) (HM.load1 .slc (Addr.add ⟨x21, 0, none⟩ 24)) fun x100 =>
  HM.req ((.slice x100.a x100.len x100.cap : Value) = .slice x93.a x93.len x93.cap) <|
  HM.both (
  HM.bind (α := Slc) (HM.append 47 5 40 zS6 x93 1 (srcSlc 5 (⟨some ⟨x97, 0, none⟩, 1, 1⟩))) fun x101 =>
  HM.bind (α := yS6) (HM.loadN tS6 ⟨x92, 0, none⟩) fun x102 =>
  HM.req ((.agg (aS6 x102) : Value) = .agg (aS6 x96)) <|
  HM.bind (α := Slc) (HM.load1 .slc (Addr.add ⟨x39, 0, none⟩ 24)) fun x103 =>
  HM.req ((.slice x103.a x103.len x103.cap : Value) = .slice x95.a x95.len x95.cap) <|
  HM.bind (α := Nat) (HM.new (.cells (aS6 x96) 120)) fun x104 =>
  HM.bind (α := Slc) (HM.load1 .slc (Addr.add ⟨x39, 0, none⟩ 24)) fun x105 =>
  HM.req ((.slice x105.a x105.len x105.cap : Value) = .slice x95.a x95.len x95.cap) <|
  HM.bind (α := yS6) (HM.loadN tS6 ⟨x92, 0, none⟩) fun x106 =>
  HM.req ((.agg (aS6 x106) : Value) = .agg (aS6 x94)) <|
  HM.bind (α := Slc) (HM.load1 .slc (Addr.add ⟨x21, 0, none⟩ 24)) fun x107 =>
  HM.req ((.slice x107.a x107.len x107.cap : Value) = .slice x93.a x93.len x93.cap) <|
  HM.bind (α := Slc) (HM.append 120 5 40 zS6 x95 1 (srcSlc 5 (⟨some ⟨x104, 0, none⟩, 1, 1⟩))) fun x108 =>
  HM.bind (α := Unit) (HM.store1 (Addr.add ⟨x21, 0, none⟩ 24) (.slice x101.a x101.len x101.cap)) fun _ =>
  HM.bind (α := Unit) (HM.store1 (Addr.add ⟨x39, 0, none⟩ 24) (.slice x108.a x108.len x108.cap)) fun _ =>
  HM.pure (.inl (IntKind.wrap .i64 (x89.1 + 1), ()))) (
  HM.bind (α := Nat) (HM.new (.cells (aS6 x96) 120)) fun x109 =>
  HM.bind (α := Slc) (HM.load1 .slc (Addr.add ⟨x39, 0, none⟩ 24)) fun x110 =>
  HM.req ((.slice x110.a x110.len x110.cap : Value) = .slice x95.a x95.len x95.cap) <|
  HM.bind (α := yS6) (HM.loadN tS6 ⟨x92, 0, none⟩) fun x111 =>
  HM.req ((.agg (aS6 x111) : Value) = .agg (aS6 x94)) <|
  HM.bind (α := Slc) (HM.load1 .slc (Addr.add ⟨x21, 0, none⟩ 24)) fun x112 =>
  HM.req ((.slice x112.a x112.len x112.cap : Value) = .slice x93.a x93.len x93.cap) <|
  HM.bind (α := Slc) (HM.append 47 5 40 zS6 x93 1 (srcSlc 5 (⟨some ⟨x97, 0, none⟩, 1, 1⟩))) fun x113 =>
  HM.bind (α := yS6) (HM.loadN tS6 ⟨x92, 0, none⟩) fun x114 =>
  HM.req ((.agg (aS6 x114) : Value) = .agg (aS6 x96)) <|
  HM.bind (α := Slc) (HM.load1 .slc (Addr.add ⟨x39, 0, none⟩ 24)) fun x115 =>
  HM.req ((.slice x115.a x115.len x115.cap : Value) = .slice x95.a x95.len x95.cap) <|
  HM.bind (α := Slc) (HM.append 120 5 40 zS6 x95 1 (srcSlc 5 (⟨some ⟨x109, 0, none⟩, 1, 1⟩))) fun x116 =>
  HM.bind (α := Unit) (HM.store1 (Addr.add ⟨x21, 0, none⟩ 24) (.slice x113.a x113.len x113.cap)) fun _ =>
  HM.bind (α := Unit) (HM.store1 (Addr.add ⟨x39, 0, none⟩ 24) (.slice x116.a x116.len x116.cap)) fun _ =>
  HM.pure (.inl (IntKind.wrap .i64 (x89.1 + 1), ())))) (
  HM.bind (α := Nat) (HM.new (.cells (aS6 x96) 120)) fun x117 =>
  HM.bind (α := Slc) (HM.load1 .slc (Addr.add ⟨x39, 0, none⟩ 24)) fun x118 =>
  HM.req ((.slice x118.a x118.len x118.cap : Value) = .slice x95.a x95.len x95.cap) <|
  HM.bind (α := yS6) (HM.loadN tS6 ⟨x92, 0, none⟩) fun x119 =>
  HM.req ((.agg (aS6 x119) : Value) = .agg (aS6 x94)) <|
  HM.bind (α := Slc) (HM.load1 .slc (Addr.add ⟨x21, 0, none⟩ 24)) fun x120 =>
  HM.req ((.slice x120.a x120.len x120.cap : Value) = .slice x93.a x93.len x93.cap) <|
  HM.bind (α := Nat) (HM.new (.cells (aS6 x94) 47)) fun x121 =>
  HM.bind (α := yS6) (HM.loadN tS6 ⟨x92, 0, none⟩) fun x122 =>
  HM.req ((.agg (aS6 x122) : Value) = .agg (aS6 x96)) <|
  HM.bind (α := Slc) (HM.load1 .slc (Addr.add ⟨x39, 0, none⟩ 24)) fun x123 =>
  HM.req ((.slice x123.a x123.len x123.cap : Value) = .slice x95.a x95.len x95.cap) <|
  HM.bind (α := Slc) (HM.load1 .slc (Addr.add ⟨x21, 0, none⟩ 24)) fun x124 =>
  HM.req ((.slice x124.a x124.len x124.cap : Value) = .slice x93.a x93.len x93.cap) <|
  HM.bind (α := Slc) (HM.append 47 5 40 zS6 x93 1 (srcSlc 5 (⟨some ⟨x121, 0, none⟩, 1, 1⟩))) fun x125 =>
  HM.bind (α := yS6) (HM.loadN tS6 ⟨x92, 0, none⟩) fun x126 =>
  HM.req ((.agg (aS6 x126) : Value) = .agg (aS6 x96)) <|
  HM.bind (α := Slc) (HM.load1 .slc (Addr.add ⟨x39, 0, none⟩ 24)) fun x127 =>
  HM.req ((.slice x127.a x127.len x127.cap : Value) = .slice x95.a x95.len x95.cap) <|
  HM.bind (α := Slc) (HM.append 120 5 40 zS6 x95 1 (srcSlc 5 (⟨some ⟨x117, 0, none⟩, 1, 1⟩))) fun x128 =>
  HM.bind (α := Unit) (HM.store1 (Addr.add ⟨x21, 0, none⟩ 24) (.slice x125.a x125.len x125.cap)) fun _ =>
  HM.bind (α := Unit) (HM.store1 (Addr.add ⟨x39, 0, none⟩ 24) (.slice x128.a x128.len x128.cap)) fun _ =>
  HM.pure (.inl (IntKind.wrap .i64 (x89.1 + 1), ())))) (
  HM.pure (.inr (x89.1, ())))) (0, ())) fun x88 =>
  HM.bind (α := Slc) (HM.load1 .slc (Addr.add ⟨x1, 0, none⟩ 25)) fun x129 =>
  HM.bind (α := Slc) (HM.load1 .slc (Addr.add ⟨x1, 0, none⟩ 25)) fun x130 =>
  HM.bind (α := Slc) (HM.slice x129 none (some (if 80 < (((x130.len : Nat) : Int) : Int) then 80 else ((x130.len : Nat) : Int))) none 1) fun x131 =>
  HM.bind (α := Int × Unit) (HM.loop (σ := Int × Unit) (τ := Int × Unit) (fun x133 =>
  HM.ite (decide (x133.1 < (((x131.len : Nat) : Int) : Int))) (
  HM.bind (α := Addr) (HM.idx x131.a x131.len x133.1 1) fun x134 =>
  HM.bind (α := ByteArray) (HM.load1 .str x134) fun x135 =>
  HM.bind (α := Slc) (HM.load1 .slc (Addr.add ⟨x21, 0, none⟩ 25)) fun x136 =>
  HM.bind (α := Slc) (HM.load1 .slc (Addr.add ⟨x39, 0, none⟩ 25)) fun x137 =>
  HM.both (
  HM.bind (α := Nat) (HM.new (.cells #[.string x135] 9)) fun x138 =>
  HM.bind (α := Slc) (HM.load1 .slc (Addr.add ⟨x39, 0, none⟩ 25)) fun x139 =>
  HM.req ((.slice x139.a x139.len x139.cap : Value) = .slice x137.a x137.len x137.cap) <|
  HM.bind (α := Slc) (HM.load1 .slc (Addr.add ⟨x21, 0, none⟩ 25)) fun x140 =>
  HM.req ((.slice x140.a x140.len x140.cap : Value) = .slice x136.a x136.len x136.cap) <|
  HM.both (
  HM.bind (α := Slc) (HM.append 9 1 16 #[.string (ByteArray.mk #[])] x136 1 (srcSlc 1 (⟨some ⟨x138, 0, none⟩, 1, 1⟩))) fun x141 =>
  HM.bind (α := Slc) (HM.load1 .slc (Addr.add ⟨x39, 0, none⟩ 25)) fun x142 =>
  HM.req ((.slice x142.a x142.len x142.cap : Value) = .slice x137.a x137.len x137.cap) <|
  HM.bind (α := Nat) (HM.new (.cells #[.string x135] 9)) fun x143 =>
  HM.bind (α := Slc) (HM.load1 .slc (Addr.add ⟨x39, 0, none⟩ 25)) fun x144 =>
  HM.req ((.slice x144.a x144.len x144.cap : Value) = .slice x137.a x137.len x137.cap) <|
  HM.bind (α := Slc) (HM.load1 .slc (Addr.add ⟨x21, 0, none⟩ 25)) fun x145 =>
  HM.req ((.slice x145.a x145.len x145.cap : Value) = .slice x136.a x136.len x136.cap) <|
  HM.bind (α := Slc) (HM.append 9 1 16 #[.string (ByteArray.mk #[])] x137 1 (srcSlc 1 (⟨some ⟨x143, 0, none⟩, 1, 1⟩))) fun x146 =>
  HM.bind (α := Unit) (HM.store1 (Addr.add ⟨x21, 0, none⟩ 25) (.slice x141.a x141.len x141.cap)) fun _ =>
  HM.bind (α := Unit) (HM.store1 (Addr.add ⟨x39, 0, none⟩ 25) (.slice x146.a x146.len x146.cap)) fun _ =>
  HM.pure (.inl (IntKind.wrap .i64 (x133.1 + 1), ()))) (
  HM.bind (α := Nat) (HM.new (.cells #[.string x135] 9)) fun x147 =>
  HM.bind (α := Slc) (HM.load1 .slc (Addr.add ⟨x39, 0, none⟩ 25)) fun x148 =>
  HM.req ((.slice x148.a x148.len x148.cap : Value) = .slice x137.a x137.len x137.cap) <|
  HM.bind (α := Slc) (HM.load1 .slc (Addr.add ⟨x21, 0, none⟩ 25)) fun x149 =>
  HM.req ((.slice x149.a x149.len x149.cap : Value) = .slice x136.a x136.len x136.cap) <|
  HM.bind (α := Slc) (HM.append 9 1 16 #[.string (ByteArray.mk #[])] x136 1 (srcSlc 1 (⟨some ⟨x138, 0, none⟩, 1, 1⟩))) fun x150 =>
  HM.bind (α := Slc) (HM.load1 .slc (Addr.add ⟨x39, 0, none⟩ 25)) fun x151 =>
  HM.req ((.slice x151.a x151.len x151.cap : Value) = .slice x137.a x137.len x137.cap) <|
  HM.bind (α := Slc) (HM.append 9 1 16 #[.string (ByteArray.mk #[])] x137 1 (srcSlc 1 (⟨some ⟨x147, 0, none⟩, 1, 1⟩))) fun x152 =>
  HM.bind (α := Unit) (HM.store1 (Addr.add ⟨x21, 0, none⟩ 25) (.slice x150.a x150.len x150.cap)) fun _ =>
  HM.bind (α := Unit) (HM.store1 (Addr.add ⟨x39, 0, none⟩ 25) (.slice x152.a x152.len x152.cap)) fun _ =>
  HM.pure (.inl (IntKind.wrap .i64 (x133.1 + 1), ())))) (
  HM.bind (α := Nat) (HM.new (.cells #[.string x135] 9)) fun x153 =>
  HM.bind (α := Slc) (HM.load1 .slc (Addr.add ⟨x39, 0, none⟩ 25)) fun x154 =>
  HM.req ((.slice x154.a x154.len x154.cap : Value) = .slice x137.a x137.len x137.cap) <|
  HM.bind (α := Slc) (HM.load1 .slc (Addr.add ⟨x21, 0, none⟩ 25)) fun x155 =>
  HM.req ((.slice x155.a x155.len x155.cap : Value) = .slice x136.a x136.len x136.cap) <|
  HM.bind (α := Nat) (HM.new (.cells #[.string x135] 9)) fun x156 =>
  HM.bind (α := Slc) (HM.load1 .slc (Addr.add ⟨x39, 0, none⟩ 25)) fun x157 =>
  HM.req ((.slice x157.a x157.len x157.cap : Value) = .slice x137.a x137.len x137.cap) <|
  HM.bind (α := Slc) (HM.load1 .slc (Addr.add ⟨x21, 0, none⟩ 25)) fun x158 =>
  HM.req ((.slice x158.a x158.len x158.cap : Value) = .slice x136.a x136.len x136.cap) <|
  HM.bind (α := Slc) (HM.append 9 1 16 #[.string (ByteArray.mk #[])] x136 1 (srcSlc 1 (⟨some ⟨x156, 0, none⟩, 1, 1⟩))) fun x159 =>
  HM.bind (α := Slc) (HM.load1 .slc (Addr.add ⟨x39, 0, none⟩ 25)) fun x160 =>
  HM.req ((.slice x160.a x160.len x160.cap : Value) = .slice x137.a x137.len x137.cap) <|
  HM.bind (α := Slc) (HM.append 9 1 16 #[.string (ByteArray.mk #[])] x137 1 (srcSlc 1 (⟨some ⟨x153, 0, none⟩, 1, 1⟩))) fun x161 =>
  HM.bind (α := Unit) (HM.store1 (Addr.add ⟨x21, 0, none⟩ 25) (.slice x159.a x159.len x159.cap)) fun _ =>
  HM.bind (α := Unit) (HM.store1 (Addr.add ⟨x39, 0, none⟩ 25) (.slice x161.a x161.len x161.cap)) fun _ =>
  HM.pure (.inl (IntKind.wrap .i64 (x133.1 + 1), ())))) (
  HM.pure (.inr (x133.1, ())))) (0, ())) fun x132 =>
  HM.bind (α := yS2) (HM.loadN tS3 ⟨x21, 0, none⟩) fun x162 =>
  HM.bind (α := yS2) (HM.loadN tS2 ⟨x39, 0, none⟩) fun x163 =>
  HM.bind (α := Unit) (HM.storeN ⟨x2, 0, none⟩ (lS3 x162)) fun _ =>
  HM.bind (α := yS2) (HM.loadN tS2 ⟨x39, 0, none⟩) fun x164 =>
  HM.req ((.agg (aS2 x164) : Value) = .agg (aS2 x163)) <|
  HM.bind (α := Unit) (HM.storeN ⟨x3, 0, none⟩ (lS2 x163)) fun _ =>
  HM.bind (α := yS2) (HM.loadN tS3 ⟨x2, 0, none⟩) fun x165 =>
  HM.bind (α := yS2) (HM.loadN tS2 ⟨x3, 0, none⟩) fun x166 =>
  HM.pure ((x165.1, x165.2.1, x165.2.2.1, x165.2.2.2.1, x165.2.2.2.2.1, x165.2.2.2.2.2.1, x165.2.2.2.2.2.2.1, x165.2.2.2.2.2.2.2.1, x165.2.2.2.2.2.2.2.2.1, x165.2.2.2.2.2.2.2.2.2.1, x165.2.2.2.2.2.2.2.2.2.2.1, x165.2.2.2.2.2.2.2.2.2.2.2.1, x165.2.2.2.2.2.2.2.2.2.2.2.2.1, x165.2.2.2.2.2.2.2.2.2.2.2.2.2.1, x165.2.2.2.2.2.2.2.2.2.2.2.2.2.2.1, x165.2.2.2.2.2.2.2.2.2.2.2.2.2.2.2.1, x165.2.2.2.2.2.2.2.2.2.2.2.2.2.2.2.2.1, x165.2.2.2.2.2.2.2.2.2.2.2.2.2.2.2.2.2.1, x165.2.2.2.2.2.2.2.2.2.2.2.2.2.2.2.2.2.2.1, x165.2.2.2.2.2.2.2.2.2.2.2.2.2.2.2.2.2.2.2.1, x165.2.2.2.2.2.2.2.2.2.2.2.2.2.2.2.2.2.2.2.2.1, x165.2.2.2.2.2.2.2.2.2.2.2.2.2.2.2.2.2.2.2.2.2.1, x165.2.2.2.2.2.2.2.2.2.2.2.2.2.2.2.2.2.2.2.2.2.2.1, x165.2.2.2.2.2.2.2.2.2.2.2.2.2.2.2.2.2.2.2.2.2.2.2.1, x165.2.2.2.2.2.2.2.2.2.2.2.2.2.2.2.2.2.2.2.2.2.2.2.2.1, x165.2.2.2.2.2.2.2.2.2.2.2.2.2.2.2.2.2.2.2.2.2.2.2.2.2.1, ()), (x166.1, x166.2.1, x166.2.2.1, x166.2.2.2.1, x166.2.2.2.2.1, x166.2.2.2.2.2.1, x166.2.2.2.2.2.2.1, x166.2.2.2.2.2.2.2.1, x166.2.2.2.2.2.2.2.2.1, x166.2.2.2.2.2.2.2.2.2.1, x166.2.2.2.2.2.2.2.2.2.2.1, x166.2.2.2.2.2.2.2.2.2.2.2.1, x166.2.2.2.2.2.2.2.2.2.2.2.2.1, x166.2.2.2.2.2.2.2.2.2.2.2.2.2.1, x166.2.2.2.2.2.2.2.2.2.2.2.2.2.2.1, x166.2.2.2.2.2.2.2.2.2.2.2.2.2.2.2.1, x166.2.2.2.2.2.2.2.2.2.2.2.2.2.2.2.2.1, x166.2.2.2.2.2.2.2.2.2.2.2.2.2.2.2.2.2.1, x166.2.2.2.2.2.2.2.2.2.2.2.2.2.2.2.2.2.2.1, x166.2.2.2.2.2.2.2.2.2.2.2.2.2.2.2.2.2.2.2.1, x166.2.2.2.2.2.2.2.2.2.2.2.2.2.2.2.2.2.2.2.2.1, x166.2.2.2.2.2.2.2.2.2.2.2.2.2.2.2.2.2.2.2.2.2.1, x166.2.2.2.2.2.2.2.2.2.2.2.2.2.2.2.2.2.2.2.2.2.2.1, x166.2.2.2.2.2.2.2.2.2.2.2.2.2.2.2.2.2.2.2.2.2.2.2.1, x166.2.2.2.2.2.2.2.2.2.2.2.2.2.2.2.2.2.2.2.2.2.2.2.2.1, x166.2.2.2.2.2.2.2.2.2.2.2.2.2.2.2.2.2.2.2.2.2.2.2.2.2.1, ()), ())
theorem law19_packets_den (p0 : yS2) : denFn Tryz.prog [39] 208 [0, 1, 2, 3, 4, 5, 7, 9, 11, 136, 137, 138, 139, 162, 163, 164, 165, 187, 188, 189, 190] [0, 1, 2, 3, 4, 5, 7, 9, 11, 136, 137, 138, 139, 162, 163, 164, 165, 187, 188, 189, 190] Tryz.f16.results.toList [.agg tS3, .agg tS2] (bodyOf Tryz.f16) [Kind.val (.agg tS3) p0] = q_g p0 := by kernel_rfl
theorem law19_packets_calls (p0 : yS2) (h : Heap) (Q : Value → Heap → Prop) (hh : q_g p0 h fun x h' => Q (.tuple #[.agg (aS3 x.1), .agg (aS2 x.2.1)]) h') :
    HCalls Tryz.prog 16 #[.agg (aS3 p0)] h Q :=
  q_a Tryz.func16 (by kernel_rfl) Tryz.ntmps16 (by kernel_rfl) (CC Tryz.call39 CN) orders (law19_packets_den p0) hh
def q_b0 (p0 : Option Addr) : HM (Slc × Unit) :=
  HM.ite (Option.isNone p0) (
  HM.pure (⟨none, 0, 0⟩, ())) (
  HM.bind (α := Addr) (HM.nonnil p0) fun x1 =>
  HM.bind (α := Option Nat) (HM.load1 .map (Addr.add x1 3)) fun x2 =>
  HM.bind (α := Value) (HM.call1 Tryz.prog (.one .any) 41 #[.map x2]) fun x3 =>
  HM.bind (α := Slc) (HM.call1 Tryz.prog (.one .slc) 40 #[x3]) fun x4 =>
  HM.pure (x4, ()))
theorem q_gl (p0 : Option Addr) : denFn Tryz.prog [41, 40] 11 [0, 2, 4] [0, 4] Tryz.f17.results.toList [.one .slc] (bodyOf Tryz.f17) [Kind.val (.one .ptr) p0] = q_b0 p0 := by kernel_rfl
theorem q_fa (p0 : Option Addr) (h : Heap) (Q : Value → Heap → Prop) (hh : q_b0 p0 h fun x h' => Q (.slice x.1.a x.1.len x.1.cap) h') :
    HCalls Tryz.prog 17 #[.pointer p0] h Q :=
  q_a Tryz.func17 (by kernel_rfl) Tryz.ntmps17 (by kernel_rfl) (CC Tryz.call41 (CC Tryz.call40 CN)) orders (q_gl p0) hh
def q_bf (p0 : Option Addr) : HM (Slc × Unit) :=
  HM.ite (Option.isNone p0) (
  HM.pure (⟨none, 0, 0⟩, ())) (
  HM.bind (α := Addr) (HM.nonnil p0) fun x1 =>
  HM.bind (α := Option Addr) (HM.load1 .ptr (Addr.add x1 0)) fun x2 =>
  HM.bind (α := Slc) (HM.call1 Tryz.prog (.one .slc) 42 #[.pointer x2]) fun x3 =>
  HM.pure (x3, ()))
theorem q_ej (p0 : Option Addr) : denFn Tryz.prog [42] 10 [0, 2, 4] [0, 4] Tryz.f18.results.toList [.one .slc] (bodyOf Tryz.f18) [Kind.val (.one .ptr) p0] = q_bf p0 := by kernel_rfl
theorem q_dp (p0 : Option Addr) (h : Heap) (Q : Value → Heap → Prop) (hh : q_bf p0 h fun x h' => Q (.slice x.1.a x.1.len x.1.cap) h') :
    HCalls Tryz.prog 18 #[.pointer p0] h Q :=
  q_a Tryz.func18 (by kernel_rfl) Tryz.ntmps18 (by kernel_rfl) (CC Tryz.call42 CN) orders (q_ej p0) hh
def q_bm (p0 : Option Addr) (p1 : yS7) : HM (Slc × Unit) :=
  HM.bind (α := Nat) (HM.new (.cells (aS7 p1) 83)) fun x1 =>
  HM.ite (Option.isNone p0) (
  HM.pure (⟨none, 0, 0⟩, ())) (
  HM.bind (α := Nat) (HM.new (.cells #[.pointer p0, .bool false, .slice none 0 0, .slice none 0 0] 110)) fun x2 =>
  HM.bind (α := yS7) (HM.loadN tS7 ⟨x1, 0, none⟩) fun x3 =>
  HM.bind (α := Unit) (HM.callN Tryz.prog [] 43 #[.pointer (some ⟨x2, 0, none⟩), .agg (aS7 x3)]) fun x4 =>
  HM.bind (α := Addr) (HM.nonnil (some ⟨x2, 0, none⟩)) fun x5 =>
  HM.bind (α := Slc) (HM.load1 .slc (Addr.add (Addr.add x5 2) 0)) fun x6 =>
  HM.pure (x6, ()))
theorem q_f (p0 : Option Addr) (p1 : yS7) : denFn Tryz.prog [43] 19 [0, 1, 3, 4, 5, 7] [0, 1, 3, 5, 7] Tryz.f19.results.toList [.one .slc] (bodyOf Tryz.f19) [Kind.val (.one .ptr) p0, Kind.val (.agg tS7) p1] = q_bm p0 p1 := by kernel_rfl
theorem q_ef (p0 : Option Addr) (p1 : yS7) (h : Heap) (Q : Value → Heap → Prop) (hh : q_bm p0 p1 h fun x h' => Q (.slice x.1.a x.1.len x.1.cap) h') :
    HCalls Tryz.prog 19 #[.pointer p0, .agg (aS7 p1)] h Q :=
  q_a Tryz.func19 (by kernel_rfl) Tryz.ntmps19 (by kernel_rfl) (CC Tryz.call43 CN) orders (q_f p0 p1) hh
def q_bl (p0 : Option Addr) : HM (Slc × Unit) :=
  HM.ite (Option.isNone p0) (
  HM.pure (⟨none, 0, 0⟩, ())) (
  HM.bind (α := Addr) (HM.nonnil p0) fun x1 =>
  HM.bind (α := Option Addr) (HM.load1 .ptr (Addr.add x1 1)) fun x2 =>
  HM.bind (α := Slc) (HM.call1 Tryz.prog (.one .slc) 44 #[.pointer x2]) fun x3 =>
  HM.pure (x3, ()))
theorem q_e9 (p0 : Option Addr) : denFn Tryz.prog [44] 10 [0, 2, 4] [0, 4] Tryz.f20.results.toList [.one .slc] (bodyOf Tryz.f20) [Kind.val (.one .ptr) p0] = q_bl p0 := by kernel_rfl
theorem q_ee (p0 : Option Addr) (h : Heap) (Q : Value → Heap → Prop) (hh : q_bl p0 h fun x h' => Q (.slice x.1.a x.1.len x.1.cap) h') :
    HCalls Tryz.prog 20 #[.pointer p0] h Q :=
  q_a Tryz.func20 (by kernel_rfl) Tryz.ntmps20 (by kernel_rfl) (CC Tryz.call44 CN) orders (q_e9 p0) hh
def q_cg (p0 : Option Addr) (p1 : Int) (p2 : Bool) : HM ((Slc × Slc × Unit) × Unit) :=
  HM.bind (α := Nat) (HM.new (.cells #[.slice none 0 0, .slice none 0 0] 35)) fun x1 =>
  HM.ite (Option.isNone p0) (
  HM.bind (α := Unit) (HM.storeN ⟨x1, 0, none⟩ [.slice none 0 0, .slice none 0 0]) fun _ =>
  HM.bind (α := Slc × Slc × Unit) (HM.loadN [.slc, .slc] ⟨x1, 0, none⟩) fun x2 =>
  HM.pure ((x2.1, x2.2.1, ()), ())) (
  HM.bind (α := Nat) (HM.new (.cells #[.pointer p0, .bool p2, .slice none 0 0, .slice none 0 0] 110)) fun x3 =>
  HM.bind (α := Unit) (HM.callN Tryz.prog [] 54 #[.pointer (some ⟨x3, 0, none⟩), .int .i64 p1, .bool true]) fun x4 =>
  HM.bind (α := Addr) (HM.nonnil (some ⟨x3, 0, none⟩)) fun x5 =>
  HM.bind (α := Slc × Slc × Unit) (HM.loadN [.slc, .slc] (Addr.add x5 2)) fun x6 =>
  HM.bind (α := Unit) (HM.storeN ⟨x1, 0, none⟩ [.slice x6.1.a x6.1.len x6.1.cap, .slice x6.2.1.a x6.2.1.len x6.2.1.cap]) fun _ =>
  HM.bind (α := Slc × Slc × Unit) (HM.loadN [.slc, .slc] ⟨x1, 0, none⟩) fun x7 =>
  HM.pure ((x7.1, x7.2.1, ()), ()))
theorem q_h (p0 : Option Addr) (p1 : Int) (p2 : Bool) : denFn Tryz.prog [54] 22 [0, 1, 2, 6, 7, 9] [0, 1, 2, 6, 7, 9] Tryz.f24.results.toList [.agg [.slc, .slc]] (bodyOf Tryz.f24) [Kind.val (.one .ptr) p0, Kind.val (.one (.int .i64)) p1, Kind.val (.one .bool) p2] = q_cg p0 p1 p2 := by kernel_rfl
theorem q_fm (p0 : Option Addr) (p1 : Int) (p2 : Bool) (h : Heap) (Q : Value → Heap → Prop) (hh : q_cg p0 p1 p2 h fun x h' => Q (.agg #[.slice x.1.1.a x.1.1.len x.1.1.cap, .slice x.1.2.1.a x.1.2.1.len x.1.2.1.cap]) h') :
    HCalls Tryz.prog 24 #[.pointer p0, .int .i64 p1, .bool p2] h Q :=
  q_a Tryz.func24 (by kernel_rfl) Tryz.ntmps24 (by kernel_rfl) (CC Tryz.call54 CN) orders (q_h p0 p1 p2) hh
def q_bk (p0 : Option Addr) : HM (Unit) :=
  HM.bind (α := Nat) (HM.new (.cells #[.pointer p0, .bool false, .slice none 0 0, .slice none 0 0] 110)) fun x1 =>
  HM.bind (α := Slc) (HM.call1 Tryz.prog (.one .slc) 17 #[.pointer p0]) fun x2 =>
  HM.bind (α := Int × Unit) (HM.loop (σ := Int × Unit) (τ := Int × Unit) (fun x4 =>
  HM.ite (decide (x4.1 < (((x2.len : Nat) : Int) : Int))) (
  HM.bind (α := Addr) (HM.idx x2.a x2.len x4.1 1) fun x5 =>
  HM.bind (α := Int) (HM.load1 (.int .i64) x5) fun x6 =>
  HM.bind (α := Unit) (HM.callN Tryz.prog [] 54 #[.pointer (some ⟨x1, 0, none⟩), .int .i64 x6, .bool false]) fun x7 =>
  HM.pure (.inl (IntKind.wrap .i64 (x4.1 + 1), ()))) (
  HM.pure (.inr (x4.1, ())))) (0, ())) fun x3 =>
  HM.pure ()
theorem q_e8 (p0 : Option Addr) : denFn Tryz.prog [17, 54] 19 [0, 2, 4, 9, 10, 11, 12] [0, 2, 4, 9, 10, 11, 12] Tryz.f25.results.toList [] (bodyOf Tryz.f25) [Kind.val (.one .ptr) p0] = q_bk p0 := by kernel_rfl
theorem q_ed (p0 : Option Addr) (h : Heap) (Q : Value → Heap → Prop) (hh : q_bk p0 h fun x h' => Q (.tuple #[]) h') :
    HCalls Tryz.prog 25 #[.pointer p0] h Q :=
  q_a Tryz.func25 (by kernel_rfl) Tryz.ntmps25 (by kernel_rfl) (CC Tryz.call17 (CC Tryz.call54 CN)) orders (q_e8 p0) hh
def q_ch (p0 : Option Addr) (p1 : ByteArray) : HM (Slc × Slc × Unit) :=
  HM.ite (Option.isNone p0) (
  HM.pure (⟨none, 0, 0⟩, ⟨none, 0, 0⟩, ())) (
  HM.bind (α := Addr) (HM.nonnil p0) fun x1 =>
  HM.bind (α := Option Addr) (HM.load1 .ptr (Addr.add x1 0)) fun x2 =>
  HM.bind (α := (yS9) × Bool × Unit) (HM.callN Tryz.prog [.agg tS9, .one .bool] 55 #[.pointer x2, .string p1]) fun x3 =>
  HM.bind (α := Nat) (HM.new (.cells zS9 79)) fun x4 =>
  HM.bind (α := Unit) (HM.storeN ⟨x4, 0, none⟩ (lS9 x3.1)) fun _ =>
  HM.bind (α := Addr) (HM.nonnil p0) fun x5 =>
  HM.bind (α := Option Addr) (HM.load1 .ptr (Addr.add x5 0)) fun x6 =>
  HM.bind (α := Int) (HM.load1 (.int .i64) (Addr.add ⟨x4, 0, none⟩ 0)) fun x7 =>
  HM.bind (α := Option Addr) (HM.call1 Tryz.prog (.one .ptr) 56 #[.pointer x6, .int .i64 x7]) fun x8 =>
  HM.bind (α := Slc) (HM.call1 Tryz.prog (.one .slc) 57 #[.pointer x8]) fun x9 =>
  HM.bind (α := Slc) (HM.call1 Tryz.prog (.one .slc) 58 #[.pointer x8]) fun x10 =>
  HM.pure (x9, x10, ()))
theorem q_ha (p0 : Option Addr) (p1 : ByteArray) : denFn Tryz.prog [55, 56, 57, 58] 31 [0, 1, 4, 5, 6, 8, 10] [0, 1, 6, 8, 10] Tryz.f26.results.toList [.one .slc, .one .slc] (bodyOf Tryz.f26) [Kind.val (.one .ptr) p0, Kind.val (.one .str) p1] = q_ch p0 p1 := by kernel_rfl
theorem q_fn (p0 : Option Addr) (p1 : ByteArray) (h : Heap) (Q : Value → Heap → Prop) (hh : q_ch p0 p1 h fun x h' => Q (.tuple #[.slice x.1.a x.1.len x.1.cap, .slice x.2.1.a x.2.1.len x.2.1.cap]) h') :
    HCalls Tryz.prog 26 #[.pointer p0, .string p1] h Q :=
  q_a Tryz.func26 (by kernel_rfl) Tryz.ntmps26 (by kernel_rfl) (CC Tryz.call55 (CC Tryz.call56 (CC Tryz.call57 (CC Tryz.call58 CN)))) orders (q_ha p0 p1) hh
def session_New : HM (Option Addr × Unit) :=
  HM.bind (α := Nat) (HM.new (.map #[] 0)) fun x1 =>
  HM.bind (α := Nat) (HM.new (.cells #[.int .i64 0, .map (some x1)] 172)) fun x2 =>
  HM.pure (some ⟨x2, 0, none⟩, ())
theorem session_New_den : denFn Tryz.prog [] 4 [0] [] Tryz.f27.results.toList [.one .ptr] (bodyOf Tryz.f27) [] = session_New := by kernel_rfl
theorem session_New_calls (h : Heap) (Q : Value → Heap → Prop) (hh : session_New h fun x h' => Q (.pointer x.1) h') :
    HCalls Tryz.prog 27 #[] h Q :=
  q_a Tryz.func27 (by kernel_rfl) Tryz.ntmps27 (by kernel_rfl) CN orders (session_New_den) hh
def trie_New : HM (Option Addr × Unit) :=
  HM.bind (α := Option Addr) (HM.call1 Tryz.prog (.one .ptr) 59 #[]) fun x1 =>
  HM.bind (α := Nat) (HM.new (.map #[] 0)) fun x2 =>
  HM.bind (α := Nat) (HM.new (.cells #[.pointer x1, .map (some x2)] 176)) fun x3 =>
  HM.pure (some ⟨x3, 0, none⟩, ())
theorem trie_New_den : denFn Tryz.prog [59] 5 [0] [] Tryz.f28.results.toList [.one .ptr] (bodyOf Tryz.f28) [] = trie_New := by kernel_rfl
theorem trie_New_calls (h : Heap) (Q : Value → Heap → Prop) (hh : trie_New h fun x h' => Q (.pointer x.1) h') :
    HCalls Tryz.prog 28 #[] h Q :=
  q_a Tryz.func28 (by kernel_rfl) Tryz.ntmps28 (by kernel_rfl) (CC Tryz.call59 CN) orders (trie_New_den) hh
def retain_New (p0 : Int) : HM (Option Addr × Unit) :=
  HM.bind (α := Nat) (HM.new (.map #[] 0)) fun x1 =>
  HM.bind (α := Nat) (HM.new (.cells #[.int .i64 (if 0 < ((if 64 < (p0 : Int) then 64 else p0) : Int) then (if 64 < (p0 : Int) then 64 else p0) else 0), .map (some x1)] 179)) fun x2 =>
  HM.pure (some ⟨x2, 0, none⟩, ())
theorem retain_New_den (p0 : Int) : denFn Tryz.prog [] 9 [0, 2] [0] Tryz.f29.results.toList [.one .ptr] (bodyOf Tryz.f29) [Kind.val (.one (.int .i64)) p0] = retain_New p0 := by kernel_rfl
theorem retain_New_calls (p0 : Int) (h : Heap) (Q : Value → Heap → Prop) (hh : retain_New p0 h fun x h' => Q (.pointer x.1) h') :
    HCalls Tryz.prog 29 #[.int .i64 p0] h Q :=
  q_a Tryz.func29 (by kernel_rfl) Tryz.ntmps29 (by kernel_rfl) CN orders (retain_New_den p0) hh
def topic_sized (p0 : ByteArray) : HM (Bool × Unit) :=
  HM.bind (α := Int × Bool × Unit) (HM.callN Tryz.prog [.one (.int .i64), .one .bool] 60 #[.string p0]) fun x1 =>
  HM.bind (α := Bool × Unit) (HM.ite (!x1.2.1) (
  HM.ite (!(decide (p0 = (ByteArray.mk #[])))) (
  HM.ite (decide (((ByteArray.size p0 : Nat) : Int) ≤ (256 : Int))) (
  HM.bind (α := Int) (HM.call1 Tryz.prog (.one (.int .i64)) 61 #[.string p0, .string (ByteArray.mk #[47])]) fun x2 =>
  HM.pure (decide (x2 < (32 : Int)), ())) (
  HM.pure (false, ()))) (
  HM.pure (false, ()))) (
  HM.pure (false, ()))) fun x3 =>
  HM.pure (x3.1, ())
theorem topic_sized_den (p0 : ByteArray) : denFn Tryz.prog [60, 61] 26 [0, 2, 4] [0, 4] Tryz.f30.results.toList [.one .bool] (bodyOf Tryz.f30) [Kind.val (.one .str) p0] = topic_sized p0 := by kernel_rfl
theorem topic_sized_calls (p0 : ByteArray) (h : Heap) (Q : Value → Heap → Prop) (hh : topic_sized p0 h fun x h' => Q (.bool x.1) h') :
    HCalls Tryz.prog 30 #[.string p0] h Q :=
  q_a Tryz.func30 (by kernel_rfl) Tryz.ntmps30 (by kernel_rfl) (CC Tryz.call60 (CC Tryz.call61 CN)) orders (topic_sized_den p0) hh
def q_ce (p0 : Option Addr) (p1 : Int) (p2 : yS2) : HM (Unit) :=
  HM.bind (α := Nat) (HM.new (.cells (aS3 p2) 45)) fun x1 =>
  HM.bind (α := Bool × Unit) (HM.bind (α := Int) (HM.load1 (.int .i64) (Addr.add ⟨x1, 0, none⟩ 4)) fun x2 =>
  HM.ite (decide (1 ≤ (x2 : Int))) (
  HM.bind (α := Int) (HM.load1 (.int .i64) (Addr.add ⟨x1, 0, none⟩ 4)) fun x3 =>
  HM.pure (decide (x3 ≤ (65535 : Int)), ())) (
  HM.pure (false, ()))) fun x4 =>
  HM.bind (α := Bool × Unit) (HM.bind (α := Int) (HM.load1 (.int .i64) (Addr.add ⟨x1, 0, none⟩ 0)) fun x5 =>
  HM.ite (x5 == 3) (
  HM.pure (true, ())) (
  HM.bind (α := Int) (HM.load1 (.int .i64) (Addr.add ⟨x1, 0, none⟩ 0)) fun x6 =>
  HM.pure (x6 == 6, ()))) fun x7 =>
  HM.bind (α := Unit) (HM.ite x7.1 (
  HM.bind (α := yS2) (HM.loadN tS3 ⟨x1, 0, none⟩) fun x9 =>
  HM.bind (α := Unit) (HM.callN Tryz.prog [] 63 #[.pointer p0, .int .i64 p1, .agg (aS3 x9)]) fun x10 =>
  HM.pure ()) (
  HM.bind (α := Bool × Unit) (HM.bind (α := Int) (HM.load1 (.int .i64) (Addr.add ⟨x1, 0, none⟩ 0)) fun x11 =>
  HM.ite (x11 == 4) (
  HM.pure (true, ())) (
  HM.bind (α := Int) (HM.load1 (.int .i64) (Addr.add ⟨x1, 0, none⟩ 0)) fun x12 =>
  HM.ite (x12 == 5) (
  HM.pure (true, ())) (
  HM.bind (α := Int) (HM.load1 (.int .i64) (Addr.add ⟨x1, 0, none⟩ 0)) fun x13 =>
  HM.pure (x13 == 7, ())))) fun x14 =>
  HM.bind (α := Unit) (HM.ite x14.1 (
  HM.bind (α := yS2) (HM.loadN tS3 ⟨x1, 0, none⟩) fun x16 =>
  HM.bind (α := Unit) (HM.callN Tryz.prog [] 64 #[.pointer p0, .int .i64 p1, .agg (aS3 x16)]) fun x17 =>
  HM.pure ()) (
  HM.bind (α := Bool × Unit) (HM.bind (α := Int) (HM.load1 (.int .i64) (Addr.add ⟨x1, 0, none⟩ 0)) fun x18 =>
  HM.ite (x18 == 8) (
  HM.ite x4.1 (
  HM.bind (α := Slc) (HM.load1 .slc (Addr.add ⟨x1, 0, none⟩ 24)) fun x19 =>
  HM.pure (decide (0 < (((x19.len : Nat) : Int) : Int)), ())) (
  HM.pure (false, ()))) (
  HM.pure (false, ()))) fun x20 =>
  HM.bind (α := Unit) (HM.ite x20.1 (
  HM.bind (α := yS2) (HM.loadN tS3 ⟨x1, 0, none⟩) fun x22 =>
  HM.bind (α := Unit) (HM.callN Tryz.prog [] 65 #[.pointer p0, .int .i64 p1, .agg (aS3 x22)]) fun x23 =>
  HM.pure ()) (
  HM.bind (α := Bool × Unit) (HM.bind (α := Int) (HM.load1 (.int .i64) (Addr.add ⟨x1, 0, none⟩ 0)) fun x24 =>
  HM.ite (x24 == 10) (
  HM.ite x4.1 (
  HM.bind (α := Slc) (HM.load1 .slc (Addr.add ⟨x1, 0, none⟩ 25)) fun x25 =>
  HM.pure (decide (0 < (((x25.len : Nat) : Int) : Int)), ())) (
  HM.pure (false, ()))) (
  HM.pure (false, ()))) fun x26 =>
  HM.bind (α := Unit) (HM.ite x26.1 (
  HM.bind (α := yS2) (HM.loadN tS3 ⟨x1, 0, none⟩) fun x28 =>
  HM.bind (α := Unit) (HM.callN Tryz.prog [] 66 #[.pointer p0, .int .i64 p1, .agg (aS3 x28)]) fun x29 =>
  HM.pure ()) (
  HM.bind (α := Int) (HM.load1 (.int .i64) (Addr.add ⟨x1, 0, none⟩ 0)) fun x30 =>
  HM.bind (α := Unit) (HM.ite (x30 == 12) (
  HM.bind (α := Unit) (HM.callN Tryz.prog [] 67 #[.pointer p0, .int .i64 p1, .agg #[.int .i64 13, .bool false, .bool false, .int .i64 0, .int .i64 0, .string (ByteArray.mk #[]), .string (ByteArray.mk #[]), .int .u8 0, .slice none 0 0, .slice none 0 0, .string (ByteArray.mk #[]), .bool false, .int .i64 0, .bool false, .string (ByteArray.mk #[]), .string (ByteArray.mk #[]), .int .i64 0, .bool false, .slice none 0 0, .bool false, .bool false, .string (ByteArray.mk #[]), .string (ByteArray.mk #[]), .bool false, .slice none 0 0, .slice none 0 0]]) fun x32 =>
  HM.pure ()) (
  HM.bind (α := Int) (HM.load1 (.int .i64) (Addr.add ⟨x1, 0, none⟩ 0)) fun x33 =>
  HM.bind (α := Unit) (HM.ite (x33 == 14) (
  HM.bind (α := Int) (HM.load1 (.int .u8) (Addr.add ⟨x1, 0, none⟩ 7)) fun x35 =>
  HM.bind (α := Unit) (HM.callN Tryz.prog [] 54 #[.pointer p0, .int .i64 p1, .bool (x35 == 4)]) fun x36 =>
  HM.pure ()) (
  HM.bind (α := Unit) (HM.callN Tryz.prog [] 68 #[.pointer p0, .int .i64 p1, .int .u8 130]) fun x37 =>
  HM.pure ())) fun x34 =>
  HM.pure ())) fun x31 =>
  HM.pure ())) fun x27 =>
  HM.pure ())) fun x21 =>
  HM.pure ())) fun x15 =>
  HM.pure ())) fun x8 =>
  HM.pure ()
theorem q_g7 (p0 : Option Addr) (p1 : Int) (p2 : yS2) : denFn Tryz.prog [63, 64, 65, 66, 67, 54, 68] 101 [0, 1, 2, 5, 6, 18, 31, 49, 66, 83, 91] [0, 1, 2, 5, 6, 18, 31, 49, 66, 83, 91] Tryz.f32.results.toList [] (bodyOf Tryz.f32) [Kind.val (.one .ptr) p0, Kind.val (.one (.int .i64)) p1, Kind.val (.agg tS3) p2] = q_ce p0 p1 p2 := by kernel_rfl
theorem q_fj (p0 : Option Addr) (p1 : Int) (p2 : yS2) (h : Heap) (Q : Value → Heap → Prop) (hh : q_ce p0 p1 p2 h fun x h' => Q (.tuple #[]) h') :
    HCalls Tryz.prog 32 #[.pointer p0, .int .i64 p1, .agg (aS3 p2)] h Q :=
  q_a Tryz.func32 (by kernel_rfl) Tryz.ntmps32 (by kernel_rfl) (CC Tryz.call63 (CC Tryz.call64 (CC Tryz.call65 (CC Tryz.call66 (CC Tryz.call67 (CC Tryz.call54 (CC Tryz.call68 CN))))))) orders (q_g7 p0 p1 p2) hh
def q_bz (p0 : Option Addr) (p1 : Int) (p2 : yS2) : HM (Unit) :=
  HM.bind (α := Nat) (HM.new (.cells (aS3 p2) 45)) fun x1 =>
  HM.bind (α := Addr) (HM.nonnil p0) fun x2 =>
  HM.bind (α := Option Addr) (HM.load1 .ptr (Addr.add x2 0)) fun x3 =>
  HM.bind (α := Addr) (HM.nonnil x3) fun x4 =>
  HM.bind (α := Option Addr) (HM.load1 .ptr (Addr.add x4 0)) fun x5 =>
  HM.bind (α := ByteArray) (HM.load1 .str (Addr.add ⟨x1, 0, none⟩ 10)) fun x6 =>
  HM.both (
  HM.bind (α := (yS9) × Bool × Unit) (HM.callN Tryz.prog [.agg tS9, .one .bool] 55 #[.pointer x5, .string x6]) fun x7 =>
  HM.bind (α := Nat) (HM.new (.cells zS9 79)) fun x8 =>
  HM.bind (α := ByteArray) (HM.load1 .str (Addr.add ⟨x1, 0, none⟩ 10)) fun x9 =>
  HM.req ((.string x9 : Value) = .string x6) <|
  HM.bind (α := Option Addr) (HM.load1 .ptr (Addr.add x4 0)) fun x10 =>
  HM.req ((.pointer x10 : Value) = .pointer x5) <|
  HM.bind (α := Option Addr) (HM.load1 .ptr (Addr.add x2 0)) fun x11 =>
  HM.req ((.pointer x11 : Value) = .pointer x3) <|
  HM.bind (α := Unit) (HM.storeN ⟨x8, 0, none⟩ (lS9 x7.1)) fun _ =>
  HM.bind (α := Option Addr) (HM.call1 Tryz.prog (.one .ptr) 27 #[]) fun x12 =>
  HM.bind (α := ByteArray) (HM.load1 .str (Addr.add ⟨x1, 0, none⟩ 10)) fun x13 =>
  HM.bind (α := Int × Bool × Int × Unit) (HM.callN Tryz.prog [.one (.int .i64), .one .bool, .one (.int .u8)] 69 #[.pointer x12, .string x13, .bool false, .bool false]) fun x14 =>
  HM.bind (α := Bool × Unit) (HM.bind (α := Bool) (HM.load1 .bool (Addr.add ⟨x1, 0, none⟩ 13)) fun x15 =>
  HM.ite x15 (
  HM.bind (α := ByteArray) (HM.load1 .str (Addr.add (Addr.add ⟨x1, 0, none⟩ 14) 0)) fun x16 =>
  HM.bind (α := Int) (HM.call1 Tryz.prog (.one (.int .u8)) 12 #[.string x16]) fun x17 =>
  HM.pure (!(x17 == 0), ())) (
  HM.pure (false, ()))) fun x18 =>
  HM.bind (α := Int × Unit) (HM.ite x18.1 (
  HM.pure (144, ())) (
  HM.bind (α := Addr) (HM.nonnil p0) fun x20 =>
  HM.bind (α := Option Addr) (HM.load1 .ptr (Addr.add x20 0)) fun x21 =>
  HM.bind (α := Addr) (HM.nonnil x21) fun x22 =>
  HM.bind (α := Option Nat) (HM.load1 .map (Addr.add x22 3)) fun x23 =>
  HM.bind (α := Int) (HM.mapLen x23) fun x24 =>
  HM.bind (α := Int × Unit) (HM.ite (decide (64 ≤ (x24 : Int))) (
  HM.pure (151, ())) (
  HM.bind (α := Int × Unit) (HM.ite (!(x14.2.2.1 == 0)) (
  HM.pure (x14.2.2.1, ())) (
  HM.bind (α := Bool × Unit) (HM.ite (!x7.2.1) (
  HM.bind (α := Addr) (HM.nonnil p0) fun x27 =>
  HM.bind (α := Option Addr) (HM.load1 .ptr (Addr.add x27 0)) fun x28 =>
  HM.bind (α := Addr) (HM.nonnil x28) fun x29 =>
  HM.bind (α := Option Addr) (HM.load1 .ptr (Addr.add x29 0)) fun x30 =>
  HM.bind (α := Slc) (HM.call1 Tryz.prog (.one .slc) 42 #[.pointer x30]) fun x31 =>
  HM.pure (decide (32 ≤ (((x31.len : Nat) : Int) : Int)), ())) (
  HM.pure (false, ()))) fun x32 =>
  HM.bind (α := Int × Unit) (HM.ite x32.1 (
  HM.pure (151, ())) (
  HM.pure (0, ()))) fun x33 =>
  HM.pure (x33.1, ()))) fun x26 =>
  HM.pure (x26.1, ()))) fun x25 =>
  HM.pure (x25.1, ()))) fun x19 =>
  HM.ite (!(x19.1 == 0)) (
  HM.bind (α := Unit) (HM.callN Tryz.prog [] 34 #[.pointer p0, .int .i64 p1, .agg #[.int .i64 2, .bool false, .bool false, .int .i64 0, .int .i64 0, .string (ByteArray.mk #[]), .string (ByteArray.mk #[]), .int .u8 x19.1, .slice none 0 0, .slice none 0 0, .string (ByteArray.mk #[]), .bool false, .int .i64 0, .bool false, .string (ByteArray.mk #[]), .string (ByteArray.mk #[]), .int .i64 0, .bool false, .slice none 0 0, .bool false, .bool false, .string (ByteArray.mk #[]), .string (ByteArray.mk #[]), .bool false, .slice none 0 0, .slice none 0 0]]) fun x34 =>
  HM.pure ()) (
  HM.bind (α := Bool × Unit) (HM.ite x7.2.1 (
  HM.bind (α := Bool) (HM.load1 .bool (Addr.add ⟨x8, 0, none⟩ 3)) fun x35 =>
  HM.pure (x35, ())) (
  HM.pure (false, ()))) fun x36 =>
  HM.bind (α := Unit) (HM.ite x36.1 (
  HM.bind (α := Addr) (HM.nonnil p0) fun x38 =>
  HM.bind (α := Option Addr) (HM.load1 .ptr (Addr.add x38 0)) fun x39 =>
  HM.bind (α := Addr) (HM.nonnil x39) fun x40 =>
  HM.bind (α := Option Nat) (HM.load1 .map (Addr.add x40 3)) fun x41 =>
  HM.bind (α := Nat) (HM.rangeM x41) fun x42 =>
  HM.bind (α := Unit) (HM.loop (σ := Unit) (τ := Unit) (fun x44 =>
  HM.bind (α := Option (Value × Value)) (HM.nextM x42) fun x45 =>
  HM.opt x45 (
  HM.ite false (
  HM.bind (α := Int × (yS4)) (HM.entryM (.one (.int .i64)) (.agg tS4) x42) fun x47 =>
  HM.bind (α := Nat) (HM.new (.cells zS4 112)) fun x48 =>
  HM.bind (α := Unit) (HM.storeN ⟨x48, 0, none⟩ (lS4 x47.2)) fun _ =>
  HM.bind (α := Int) (HM.load1 (.int .i64) (Addr.add ⟨x48, 0, none⟩ 0)) fun x49 =>
  HM.bind (α := Int) (HM.load1 (.int .i64) (Addr.add ⟨x8, 0, none⟩ 0)) fun x50 =>
  HM.ite (x49 == x50) (
  HM.bind (α := Unit) (HM.callN Tryz.prog [] 68 #[.pointer p0, .int .i64 x47.1, .int .u8 142]) fun x51 =>
  HM.pure (.inr ())) (
  HM.pure (.inl ()))) (
  HM.pure (.inr ()))) fun (x46 : Value × Value) =>
  HM.ite true (
  HM.bind (α := Int × (yS4)) (HM.entryM (.one (.int .i64)) (.agg tS4) x42) fun x52 =>
  HM.bind (α := Nat) (HM.new (.cells zS4 112)) fun x53 =>
  HM.bind (α := Unit) (HM.storeN ⟨x53, 0, none⟩ (lS4 x52.2)) fun _ =>
  HM.bind (α := Int) (HM.load1 (.int .i64) (Addr.add ⟨x53, 0, none⟩ 0)) fun x54 =>
  HM.bind (α := Int) (HM.load1 (.int .i64) (Addr.add ⟨x8, 0, none⟩ 0)) fun x55 =>
  HM.ite (x54 == x55) (
  HM.bind (α := Unit) (HM.callN Tryz.prog [] 68 #[.pointer p0, .int .i64 x52.1, .int .u8 142]) fun x56 =>
  HM.pure (.inr ())) (
  HM.pure (.inl ()))) (
  HM.pure (.inr ()))) ()) fun x43 =>
  HM.pure ()) (
  HM.pure ())) fun x37 =>
  HM.bind (α := Slc) (HM.load1 .slc (Addr.add ⟨x1, 0, none⟩ 9)) fun x57 =>
  HM.bind (α := (yS8) × Bool × Unit) (HM.callN Tryz.prog [.agg tS8, .one .bool] 70 #[.slice x57.a x57.len x57.cap, .int .i64 17]) fun x58 =>
  HM.bind (α := Nat) (HM.new (.cells zS8 106)) fun x59 =>
  HM.bind (α := Unit) (HM.storeN ⟨x59, 0, none⟩ (lS8 x58.1)) fun _ =>
  HM.bind (α := Addr) (HM.nonnil p0) fun x60 =>
  HM.bind (α := Option Addr) (HM.load1 .ptr (Addr.add x60 0)) fun x61 =>
  HM.bind (α := Addr) (HM.nonnil x61) fun x62 =>
  HM.bind (α := Option Addr) (HM.load1 .ptr (Addr.add x62 0)) fun x63 =>
  HM.bind (α := ByteArray) (HM.load1 .str (Addr.add ⟨x1, 0, none⟩ 10)) fun x64 =>
  HM.bind (α := Bool) (HM.load1 .bool (Addr.add ⟨x1, 0, none⟩ 11)) fun x65 =>
  HM.bind (α := Int) (HM.load1 (.int .i64) (Addr.add ⟨x59, 0, none⟩ 1)) fun x66 =>
  HM.bind (α := Int × Bool × Int × Unit) (HM.callN Tryz.prog [.one (.int .i64), .one .bool, .one (.int .u8)] 69 #[.pointer x63, .string x64, .bool x65, .bool (decide (0 < (x66 : Int)))]) fun x67 =>
  HM.bind (α := Bool × Unit) (HM.ite x7.2.1 (
  HM.bind (α := Int) (HM.load1 (.int .i64) (Addr.add ⟨x8, 0, none⟩ 0)) fun x68 =>
  HM.pure (!(x67.1 == x68), ())) (
  HM.pure (false, ()))) fun x69 =>
  HM.bind (α := Unit) (HM.ite x69.1 (
  HM.bind (α := Addr) (HM.nonnil p0) fun x71 =>
  HM.bind (α := Option Addr) (HM.load1 .ptr (Addr.add x71 0)) fun x72 =>
  HM.bind (α := Addr) (HM.nonnil x72) fun x73 =>
  HM.bind (α := Option Addr) (HM.load1 .ptr (Addr.add x73 1)) fun x74 =>
  HM.bind (α := Int) (HM.load1 (.int .i64) (Addr.add ⟨x8, 0, none⟩ 0)) fun x75 =>
  HM.bind (α := Int) (HM.call1 Tryz.prog (.one (.int .i64)) 71 #[.pointer x74, .int .i64 x75]) fun x76 =>
  HM.pure ()) (
  HM.pure ())) fun x70 =>
  HM.bind (α := Addr) (HM.nonnil p0) fun x77 =>
  HM.bind (α := Option Addr) (HM.load1 .ptr (Addr.add x77 0)) fun x78 =>
  HM.bind (α := Addr) (HM.nonnil x78) fun x79 =>
  HM.bind (α := Option Nat) (HM.load1 .map (Addr.add x79 3)) fun x80 =>
  HM.bind (α := Bool) (HM.load1 .bool (Addr.add ⟨x1, 0, none⟩ 13)) fun x81 =>
  HM.bind (α := ByteArray) (HM.load1 .str (Addr.add (Addr.add ⟨x1, 0, none⟩ 14) 0)) fun x82 =>
  HM.bind (α := ByteArray) (HM.load1 .str (Addr.add (Addr.add ⟨x1, 0, none⟩ 14) 1)) fun x83 =>
  HM.bind (α := Int) (HM.load1 (.int .i64) (Addr.add (Addr.add ⟨x1, 0, none⟩ 14) 2)) fun x84 =>
  HM.bind (α := Bool) (HM.load1 .bool (Addr.add (Addr.add ⟨x1, 0, none⟩ 14) 3)) fun x85 =>
  HM.bind (α := Unit) (HM.mapSet (Instr.sameNow (.int .i64)) x80 (.int .i64 p1) (.agg #[.int .i64 x67.1, .bool x81, .string x82, .string x83, .int .i64 x84, .bool x85, .string (ByteArray.mk #[])])) fun _ =>
  HM.bind (α := Unit) (HM.callN Tryz.prog [] 67 #[.pointer p0, .int .i64 p1, .agg #[.int .i64 2, .bool false, .bool false, .int .i64 0, .int .i64 0, .string (ByteArray.mk #[]), .string (ByteArray.mk #[]), .int .u8 0, .slice none 0 0, .slice none 0 0, .string (ByteArray.mk #[]), .bool false, .int .i64 0, .bool false, .string (ByteArray.mk #[]), .string (ByteArray.mk #[]), .int .i64 0, .bool false, .slice none 0 0, .bool false, .bool false, .string (ByteArray.mk #[]), .string (ByteArray.mk #[]), .bool x67.2.1, .slice none 0 0, .slice none 0 0]]) fun x86 =>
  HM.bind (α := Slc) (HM.load1 .slc (Addr.add ⟨x1, 0, none⟩ 9)) fun x87 =>
  HM.bind (α := (yS8) × Bool × Unit) (HM.callN Tryz.prog [.agg tS8, .one .bool] 70 #[.slice x87.a x87.len x87.cap, .int .i64 33]) fun x88 =>
  HM.bind (α := Nat) (HM.new (.cells zS8 106)) fun x89 =>
  HM.bind (α := Unit) (HM.storeN ⟨x89, 0, none⟩ (lS8 x88.1)) fun _ =>
  HM.bind (α := Unit) (HM.ite (!x88.2.1) (
  HM.bind (α := Unit) (HM.store1 (Addr.add ⟨x89, 0, none⟩ 1) (.int .i64 64)) fun _ =>
  HM.pure ()) (
  HM.pure ())) fun x90 =>
  HM.bind (α := Addr) (HM.nonnil p0) fun x91 =>
  HM.bind (α := Option Addr) (HM.load1 .ptr (Addr.add x91 0)) fun x92 =>
  HM.bind (α := Addr) (HM.nonnil x92) fun x93 =>
  HM.bind (α := Option Addr) (HM.load1 .ptr (Addr.add x93 0)) fun x94 =>
  HM.bind (α := Int) (HM.load1 (.int .i64) (Addr.add ⟨x89, 0, none⟩ 1)) fun x95 =>
  HM.bind (α := Option Addr) (HM.call1 Tryz.prog (.one .ptr) 56 #[.pointer x94, .int .i64 x67.1]) fun x96 =>
  HM.bind (α := Int) (HM.load1 (.int .i64) (Addr.add ⟨x89, 0, none⟩ 1)) fun x97 =>
  HM.req ((.int .i64 x97 : Value) = .int .i64 x95) <|
  HM.bind (α := Slc) (HM.call1 Tryz.prog (.one .slc) 73 #[.pointer x96, .int .i64 x95]) fun x98 =>
  HM.bind (α := Unit) (HM.callN Tryz.prog [] 72 #[.pointer p0, .int .i64 x67.1, .slice x98.a x98.len x98.cap]) fun x99 =>
  HM.pure ())) (
  HM.bind (α := Nat) (HM.new (.cells zS9 79)) fun x100 =>
  HM.bind (α := ByteArray) (HM.load1 .str (Addr.add ⟨x1, 0, none⟩ 10)) fun x101 =>
  HM.req ((.string x101 : Value) = .string x6) <|
  HM.bind (α := Option Addr) (HM.load1 .ptr (Addr.add x4 0)) fun x102 =>
  HM.req ((.pointer x102 : Value) = .pointer x5) <|
  HM.bind (α := Option Addr) (HM.load1 .ptr (Addr.add x2 0)) fun x103 =>
  HM.req ((.pointer x103 : Value) = .pointer x3) <|
  HM.bind (α := (yS9) × Bool × Unit) (HM.callN Tryz.prog [.agg tS9, .one .bool] 55 #[.pointer x5, .string x6]) fun x104 =>
  HM.bind (α := Unit) (HM.storeN ⟨x100, 0, none⟩ (lS9 x104.1)) fun _ =>
  HM.bind (α := Option Addr) (HM.call1 Tryz.prog (.one .ptr) 27 #[]) fun x105 =>
  HM.bind (α := ByteArray) (HM.load1 .str (Addr.add ⟨x1, 0, none⟩ 10)) fun x106 =>
  HM.bind (α := Int × Bool × Int × Unit) (HM.callN Tryz.prog [.one (.int .i64), .one .bool, .one (.int .u8)] 69 #[.pointer x105, .string x106, .bool false, .bool false]) fun x107 =>
  HM.bind (α := Bool × Unit) (HM.bind (α := Bool) (HM.load1 .bool (Addr.add ⟨x1, 0, none⟩ 13)) fun x108 =>
  HM.ite x108 (
  HM.bind (α := ByteArray) (HM.load1 .str (Addr.add (Addr.add ⟨x1, 0, none⟩ 14) 0)) fun x109 =>
  HM.bind (α := Int) (HM.call1 Tryz.prog (.one (.int .u8)) 12 #[.string x109]) fun x110 =>
  HM.pure (!(x110 == 0), ())) (
  HM.pure (false, ()))) fun x111 =>
  HM.bind (α := Int × Unit) (HM.ite x111.1 (
  HM.pure (144, ())) (
  HM.bind (α := Addr) (HM.nonnil p0) fun x113 =>
  HM.bind (α := Option Addr) (HM.load1 .ptr (Addr.add x113 0)) fun x114 =>
  HM.bind (α := Addr) (HM.nonnil x114) fun x115 =>
  HM.bind (α := Option Nat) (HM.load1 .map (Addr.add x115 3)) fun x116 =>
  HM.bind (α := Int) (HM.mapLen x116) fun x117 =>
  HM.bind (α := Int × Unit) (HM.ite (decide (64 ≤ (x117 : Int))) (
  HM.pure (151, ())) (
  HM.bind (α := Int × Unit) (HM.ite (!(x107.2.2.1 == 0)) (
  HM.pure (x107.2.2.1, ())) (
  HM.bind (α := Bool × Unit) (HM.ite (!x104.2.1) (
  HM.bind (α := Addr) (HM.nonnil p0) fun x120 =>
  HM.bind (α := Option Addr) (HM.load1 .ptr (Addr.add x120 0)) fun x121 =>
  HM.bind (α := Addr) (HM.nonnil x121) fun x122 =>
  HM.bind (α := Option Addr) (HM.load1 .ptr (Addr.add x122 0)) fun x123 =>
  HM.bind (α := Slc) (HM.call1 Tryz.prog (.one .slc) 42 #[.pointer x123]) fun x124 =>
  HM.pure (decide (32 ≤ (((x124.len : Nat) : Int) : Int)), ())) (
  HM.pure (false, ()))) fun x125 =>
  HM.bind (α := Int × Unit) (HM.ite x125.1 (
  HM.pure (151, ())) (
  HM.pure (0, ()))) fun x126 =>
  HM.pure (x126.1, ()))) fun x119 =>
  HM.pure (x119.1, ()))) fun x118 =>
  HM.pure (x118.1, ()))) fun x112 =>
  HM.ite (!(x112.1 == 0)) (
  HM.bind (α := Unit) (HM.callN Tryz.prog [] 34 #[.pointer p0, .int .i64 p1, .agg #[.int .i64 2, .bool false, .bool false, .int .i64 0, .int .i64 0, .string (ByteArray.mk #[]), .string (ByteArray.mk #[]), .int .u8 x112.1, .slice none 0 0, .slice none 0 0, .string (ByteArray.mk #[]), .bool false, .int .i64 0, .bool false, .string (ByteArray.mk #[]), .string (ByteArray.mk #[]), .int .i64 0, .bool false, .slice none 0 0, .bool false, .bool false, .string (ByteArray.mk #[]), .string (ByteArray.mk #[]), .bool false, .slice none 0 0, .slice none 0 0]]) fun x127 =>
  HM.pure ()) (
  HM.bind (α := Bool × Unit) (HM.ite x104.2.1 (
  HM.bind (α := Bool) (HM.load1 .bool (Addr.add ⟨x100, 0, none⟩ 3)) fun x128 =>
  HM.pure (x128, ())) (
  HM.pure (false, ()))) fun x129 =>
  HM.bind (α := Unit) (HM.ite x129.1 (
  HM.bind (α := Addr) (HM.nonnil p0) fun x131 =>
  HM.bind (α := Option Addr) (HM.load1 .ptr (Addr.add x131 0)) fun x132 =>
  HM.bind (α := Addr) (HM.nonnil x132) fun x133 =>
  HM.bind (α := Option Nat) (HM.load1 .map (Addr.add x133 3)) fun x134 =>
  HM.bind (α := Nat) (HM.rangeM x134) fun x135 =>
  HM.bind (α := Unit) (HM.loop (σ := Unit) (τ := Unit) (fun x137 =>
  HM.bind (α := Option (Value × Value)) (HM.nextM x135) fun x138 =>
  HM.opt x138 (
  HM.ite false (
  HM.bind (α := Int × (yS4)) (HM.entryM (.one (.int .i64)) (.agg tS4) x135) fun x140 =>
  HM.bind (α := Nat) (HM.new (.cells zS4 112)) fun x141 =>
  HM.bind (α := Unit) (HM.storeN ⟨x141, 0, none⟩ (lS4 x140.2)) fun _ =>
  HM.bind (α := Int) (HM.load1 (.int .i64) (Addr.add ⟨x141, 0, none⟩ 0)) fun x142 =>
  HM.bind (α := Int) (HM.load1 (.int .i64) (Addr.add ⟨x100, 0, none⟩ 0)) fun x143 =>
  HM.ite (x142 == x143) (
  HM.bind (α := Unit) (HM.callN Tryz.prog [] 68 #[.pointer p0, .int .i64 x140.1, .int .u8 142]) fun x144 =>
  HM.pure (.inr ())) (
  HM.pure (.inl ()))) (
  HM.pure (.inr ()))) fun (x139 : Value × Value) =>
  HM.ite true (
  HM.bind (α := Int × (yS4)) (HM.entryM (.one (.int .i64)) (.agg tS4) x135) fun x145 =>
  HM.bind (α := Nat) (HM.new (.cells zS4 112)) fun x146 =>
  HM.bind (α := Unit) (HM.storeN ⟨x146, 0, none⟩ (lS4 x145.2)) fun _ =>
  HM.bind (α := Int) (HM.load1 (.int .i64) (Addr.add ⟨x146, 0, none⟩ 0)) fun x147 =>
  HM.bind (α := Int) (HM.load1 (.int .i64) (Addr.add ⟨x100, 0, none⟩ 0)) fun x148 =>
  HM.ite (x147 == x148) (
  HM.bind (α := Unit) (HM.callN Tryz.prog [] 68 #[.pointer p0, .int .i64 x145.1, .int .u8 142]) fun x149 =>
  HM.pure (.inr ())) (
  HM.pure (.inl ()))) (
  HM.pure (.inr ()))) ()) fun x136 =>
  HM.pure ()) (
  HM.pure ())) fun x130 =>
  HM.bind (α := Slc) (HM.load1 .slc (Addr.add ⟨x1, 0, none⟩ 9)) fun x150 =>
  HM.bind (α := (yS8) × Bool × Unit) (HM.callN Tryz.prog [.agg tS8, .one .bool] 70 #[.slice x150.a x150.len x150.cap, .int .i64 17]) fun x151 =>
  HM.bind (α := Nat) (HM.new (.cells zS8 106)) fun x152 =>
  HM.bind (α := Unit) (HM.storeN ⟨x152, 0, none⟩ (lS8 x151.1)) fun _ =>
  HM.bind (α := Addr) (HM.nonnil p0) fun x153 =>
  HM.bind (α := Option Addr) (HM.load1 .ptr (Addr.add x153 0)) fun x154 =>
  HM.bind (α := Addr) (HM.nonnil x154) fun x155 =>
  HM.bind (α := Option Addr) (HM.load1 .ptr (Addr.add x155 0)) fun x156 =>
  HM.bind (α := ByteArray) (HM.load1 .str (Addr.add ⟨x1, 0, none⟩ 10)) fun x157 =>
  HM.bind (α := Bool) (HM.load1 .bool (Addr.add ⟨x1, 0, none⟩ 11)) fun x158 =>
  HM.bind (α := Int) (HM.load1 (.int .i64) (Addr.add ⟨x152, 0, none⟩ 1)) fun x159 =>
  HM.bind (α := Int × Bool × Int × Unit) (HM.callN Tryz.prog [.one (.int .i64), .one .bool, .one (.int .u8)] 69 #[.pointer x156, .string x157, .bool x158, .bool (decide (0 < (x159 : Int)))]) fun x160 =>
  HM.bind (α := Bool × Unit) (HM.ite x104.2.1 (
  HM.bind (α := Int) (HM.load1 (.int .i64) (Addr.add ⟨x100, 0, none⟩ 0)) fun x161 =>
  HM.pure (!(x160.1 == x161), ())) (
  HM.pure (false, ()))) fun x162 =>
  HM.bind (α := Unit) (HM.ite x162.1 (
  HM.bind (α := Addr) (HM.nonnil p0) fun x164 =>
  HM.bind (α := Option Addr) (HM.load1 .ptr (Addr.add x164 0)) fun x165 =>
  HM.bind (α := Addr) (HM.nonnil x165) fun x166 =>
  HM.bind (α := Option Addr) (HM.load1 .ptr (Addr.add x166 1)) fun x167 =>
  HM.bind (α := Int) (HM.load1 (.int .i64) (Addr.add ⟨x100, 0, none⟩ 0)) fun x168 =>
  HM.bind (α := Int) (HM.call1 Tryz.prog (.one (.int .i64)) 71 #[.pointer x167, .int .i64 x168]) fun x169 =>
  HM.pure ()) (
  HM.pure ())) fun x163 =>
  HM.bind (α := Addr) (HM.nonnil p0) fun x170 =>
  HM.bind (α := Option Addr) (HM.load1 .ptr (Addr.add x170 0)) fun x171 =>
  HM.bind (α := Addr) (HM.nonnil x171) fun x172 =>
  HM.bind (α := Option Nat) (HM.load1 .map (Addr.add x172 3)) fun x173 =>
  HM.bind (α := Bool) (HM.load1 .bool (Addr.add ⟨x1, 0, none⟩ 13)) fun x174 =>
  HM.bind (α := ByteArray) (HM.load1 .str (Addr.add (Addr.add ⟨x1, 0, none⟩ 14) 0)) fun x175 =>
  HM.bind (α := ByteArray) (HM.load1 .str (Addr.add (Addr.add ⟨x1, 0, none⟩ 14) 1)) fun x176 =>
  HM.bind (α := Int) (HM.load1 (.int .i64) (Addr.add (Addr.add ⟨x1, 0, none⟩ 14) 2)) fun x177 =>
  HM.bind (α := Bool) (HM.load1 .bool (Addr.add (Addr.add ⟨x1, 0, none⟩ 14) 3)) fun x178 =>
  HM.bind (α := Unit) (HM.mapSet (Instr.sameNow (.int .i64)) x173 (.int .i64 p1) (.agg #[.int .i64 x160.1, .bool x174, .string x175, .string x176, .int .i64 x177, .bool x178, .string (ByteArray.mk #[])])) fun _ =>
  HM.bind (α := Unit) (HM.callN Tryz.prog [] 67 #[.pointer p0, .int .i64 p1, .agg #[.int .i64 2, .bool false, .bool false, .int .i64 0, .int .i64 0, .string (ByteArray.mk #[]), .string (ByteArray.mk #[]), .int .u8 0, .slice none 0 0, .slice none 0 0, .string (ByteArray.mk #[]), .bool false, .int .i64 0, .bool false, .string (ByteArray.mk #[]), .string (ByteArray.mk #[]), .int .i64 0, .bool false, .slice none 0 0, .bool false, .bool false, .string (ByteArray.mk #[]), .string (ByteArray.mk #[]), .bool x160.2.1, .slice none 0 0, .slice none 0 0]]) fun x179 =>
  HM.bind (α := Slc) (HM.load1 .slc (Addr.add ⟨x1, 0, none⟩ 9)) fun x180 =>
  HM.bind (α := (yS8) × Bool × Unit) (HM.callN Tryz.prog [.agg tS8, .one .bool] 70 #[.slice x180.a x180.len x180.cap, .int .i64 33]) fun x181 =>
  HM.bind (α := Nat) (HM.new (.cells zS8 106)) fun x182 =>
  HM.bind (α := Unit) (HM.storeN ⟨x182, 0, none⟩ (lS8 x181.1)) fun _ =>
  HM.bind (α := Unit) (HM.ite (!x181.2.1) (
  HM.bind (α := Unit) (HM.store1 (Addr.add ⟨x182, 0, none⟩ 1) (.int .i64 64)) fun _ =>
  HM.pure ()) (
  HM.pure ())) fun x183 =>
  HM.bind (α := Addr) (HM.nonnil p0) fun x184 =>
  HM.bind (α := Option Addr) (HM.load1 .ptr (Addr.add x184 0)) fun x185 =>
  HM.bind (α := Addr) (HM.nonnil x185) fun x186 =>
  HM.bind (α := Option Addr) (HM.load1 .ptr (Addr.add x186 0)) fun x187 =>
  HM.bind (α := Int) (HM.load1 (.int .i64) (Addr.add ⟨x182, 0, none⟩ 1)) fun x188 =>
  HM.bind (α := Option Addr) (HM.call1 Tryz.prog (.one .ptr) 56 #[.pointer x187, .int .i64 x160.1]) fun x189 =>
  HM.bind (α := Int) (HM.load1 (.int .i64) (Addr.add ⟨x182, 0, none⟩ 1)) fun x190 =>
  HM.req ((.int .i64 x190 : Value) = .int .i64 x188) <|
  HM.bind (α := Slc) (HM.call1 Tryz.prog (.one .slc) 73 #[.pointer x189, .int .i64 x188]) fun x191 =>
  HM.bind (α := Unit) (HM.callN Tryz.prog [] 72 #[.pointer p0, .int .i64 x160.1, .slice x191.a x191.len x191.cap]) fun x192 =>
  HM.pure ()))
theorem q_gj (p0 : Option Addr) (p1 : Int) (p2 : yS2) : denFn Tryz.prog [55, 27, 69, 12, 42, 34, 68, 70, 71, 67, 56, 73, 72] 212 [0, 1, 2, 5, 6, 7, 8, 9, 12, 13, 14, 15, 17, 18, 20, 21, 44, 54, 64, 68, 84, 94, 102, 104, 112, 147, 195] [0, 1, 2, 5, 6, 7, 8, 9, 12, 13, 14, 15, 17, 18, 20, 21, 44, 54, 64, 68, 84, 94, 102, 104, 112, 147, 195] Tryz.f33.results.toList [] (bodyOf Tryz.f33) [Kind.val (.one .ptr) p0, Kind.val (.one (.int .i64)) p1, Kind.val (.agg tS3) p2] = q_bz p0 p1 p2 := by kernel_rfl
theorem q_e7 (p0 : Option Addr) (p1 : Int) (p2 : yS2) (h : Heap) (Q : Value → Heap → Prop) (hh : q_bz p0 p1 p2 h fun x h' => Q (.tuple #[]) h') :
    HCalls Tryz.prog 33 #[.pointer p0, .int .i64 p1, .agg (aS3 p2)] h Q :=
  q_a Tryz.func33 (by kernel_rfl) Tryz.ntmps33 (by kernel_rfl) (CC Tryz.call55 (CC Tryz.call27 (CC Tryz.call69 (CC Tryz.call12 (CC Tryz.call42 (CC Tryz.call34 (CC Tryz.call68 (CC Tryz.call70 (CC Tryz.call71 (CC Tryz.call67 (CC Tryz.call56 (CC Tryz.call73 (CC Tryz.call72 CN))))))))))))) orders (q_gj p0 p1 p2) hh
def q_cx (p0 : Option Addr) (p1 : Int) (p2 : yS2) : HM (Unit) :=
  HM.bind (α := Nat) (HM.new (.cells (aS3 p2) 45)) fun x1 =>
  HM.bind (α := Addr) (HM.nonnil p0) fun x2 =>
  HM.bind (α := Slc) (HM.load1 .slc (Addr.add (Addr.add x2 2) 0)) fun x3 =>
  HM.bind (α := yS2) (HM.loadN tS3 ⟨x1, 0, none⟩) fun x4 =>
  HM.bind (α := Nat) (HM.new (.cells #[.int .i64 p1, .int .i64 x4.1, .bool x4.2.1, .bool x4.2.2.1, .int .i64 x4.2.2.2.1, .int .i64 x4.2.2.2.2.1, .string x4.2.2.2.2.2.1, .string x4.2.2.2.2.2.2.1, .int .u8 x4.2.2.2.2.2.2.2.1, .slice x4.2.2.2.2.2.2.2.2.1.a x4.2.2.2.2.2.2.2.2.1.len x4.2.2.2.2.2.2.2.2.1.cap, .slice x4.2.2.2.2.2.2.2.2.2.1.a x4.2.2.2.2.2.2.2.2.2.1.len x4.2.2.2.2.2.2.2.2.2.1.cap, .string x4.2.2.2.2.2.2.2.2.2.2.1, .bool x4.2.2.2.2.2.2.2.2.2.2.2.1, .int .i64 x4.2.2.2.2.2.2.2.2.2.2.2.2.1, .bool x4.2.2.2.2.2.2.2.2.2.2.2.2.2.1, .string x4.2.2.2.2.2.2.2.2.2.2.2.2.2.2.1, .string x4.2.2.2.2.2.2.2.2.2.2.2.2.2.2.2.1, .int .i64 x4.2.2.2.2.2.2.2.2.2.2.2.2.2.2.2.2.1, .bool x4.2.2.2.2.2.2.2.2.2.2.2.2.2.2.2.2.2.1, .slice x4.2.2.2.2.2.2.2.2.2.2.2.2.2.2.2.2.2.2.1.a x4.2.2.2.2.2.2.2.2.2.2.2.2.2.2.2.2.2.2.1.len x4.2.2.2.2.2.2.2.2.2.2.2.2.2.2.2.2.2.2.1.cap, .bool x4.2.2.2.2.2.2.2.2.2.2.2.2.2.2.2.2.2.2.2.1, .bool x4.2.2.2.2.2.2.2.2.2.2.2.2.2.2.2.2.2.2.2.2.1, .string x4.2.2.2.2.2.2.2.2.2.2.2.2.2.2.2.2.2.2.2.2.2.1, .string x4.2.2.2.2.2.2.2.2.2.2.2.2.2.2.2.2.2.2.2.2.2.2.1, .bool x4.2.2.2.2.2.2.2.2.2.2.2.2.2.2.2.2.2.2.2.2.2.2.2.1, .slice x4.2.2.2.2.2.2.2.2.2.2.2.2.2.2.2.2.2.2.2.2.2.2.2.2.1.a x4.2.2.2.2.2.2.2.2.2.2.2.2.2.2.2.2.2.2.2.2.2.2.2.2.1.len x4.2.2.2.2.2.2.2.2.2.2.2.2.2.2.2.2.2.2.2.2.2.2.2.2.1.cap, .slice x4.2.2.2.2.2.2.2.2.2.2.2.2.2.2.2.2.2.2.2.2.2.2.2.2.2.1.a x4.2.2.2.2.2.2.2.2.2.2.2.2.2.2.2.2.2.2.2.2.2.2.2.2.2.1.len x4.2.2.2.2.2.2.2.2.2.2.2.2.2.2.2.2.2.2.2.2.2.2.2.2.2.1.cap, .bool true] 50)) fun x5 =>
  HM.bind (α := Slc) (HM.load1 .slc (Addr.add (Addr.add x2 2) 0)) fun x6 =>
  HM.req ((.slice x6.a x6.len x6.cap : Value) = .slice x3.a x3.len x3.cap) <|
  HM.bind (α := Slc) (HM.append 50 28 344 zS1 x3 1 (srcSlc 28 (⟨some ⟨x5, 0, none⟩, 1, 1⟩))) fun x7 =>
  HM.bind (α := Addr) (HM.nonnil p0) fun x8 =>
  HM.bind (α := Unit) (HM.store1 (Addr.add (Addr.add x8 2) 0) (.slice x7.a x7.len x7.cap)) fun _ =>
  HM.pure ()
theorem q_i (p0 : Option Addr) (p1 : Int) (p2 : yS2) : denFn Tryz.prog [] 20 [0, 1, 2, 5] [0, 1, 2, 5] Tryz.f34.results.toList [] (bodyOf Tryz.f34) [Kind.val (.one .ptr) p0, Kind.val (.one (.int .i64)) p1, Kind.val (.agg tS3) p2] = q_cx p0 p1 p2 := by kernel_rfl
theorem q_gk (p0 : Option Addr) (p1 : Int) (p2 : yS2) (h : Heap) (Q : Value → Heap → Prop) (hh : q_cx p0 p1 p2 h fun x h' => Q (.tuple #[]) h') :
    HCalls Tryz.prog 34 #[.pointer p0, .int .i64 p1, .agg (aS3 p2)] h Q :=
  q_a Tryz.func34 (by kernel_rfl) Tryz.ntmps34 (by kernel_rfl) CN orders (q_i p0 p1 p2) hh
def q_ck (p0 : ByteArray) : HM (Int × Unit) :=
  HM.bind (α := Bool) (HM.call1 Tryz.prog (.one .bool) 30 #[.string p0]) fun x1 =>
  HM.ite (!x1) (
  HM.pure (143, ())) (
  HM.bind (α := Slc) (HM.call1 Tryz.prog (.one .slc) 36 #[.string p0]) fun x2 =>
  HM.bind (α := (Int × Unit) ⊕ (Int × Unit)) (HM.loop (σ := Int × Unit) (τ := (Int × Unit) ⊕ (Int × Unit)) (fun x4 =>
  HM.ite (decide (x4.1 < (((x2.len : Nat) : Int) : Int))) (
  HM.bind (α := Addr) (HM.idx x2.a x2.len x4.1 1) fun x5 =>
  HM.bind (α := ByteArray) (HM.load1 .str x5) fun x6 =>
  HM.bind (α := (Unit) ⊕ ((Int × Unit) ⊕ ((Int × Unit) ⊕ (Int × Unit)))) (HM.bind (α := (Unit) ⊕ ((Unit) ⊕ ((Int × Unit) ⊕ ((Int × Unit) ⊕ (Int × Unit))))) (HM.bind (α := (Unit) ⊕ ((Unit) ⊕ ((Unit) ⊕ ((Int × Unit) ⊕ ((Int × Unit) ⊕ (Int × Unit)))))) (HM.bind (α := Bool) (HM.call1 Tryz.prog (.one .bool) 31 #[.string x6, .string (ByteArray.mk #[35])]) fun x10 =>
  HM.ite x10 (
  HM.pure (.inl ())) (
  HM.bind (α := Bool) (HM.call1 Tryz.prog (.one .bool) 31 #[.string x6, .string (ByteArray.mk #[43])]) fun x11 =>
  HM.ite x11 (
  HM.pure (.inr (.inl ()))) (
  HM.pure (.inr (.inr (.inl ())))))) (Sum.elim (fun x9 =>
  HM.ite (decide (x4.1 < ((IntKind.wrap .i64 (((x2.len : Nat) : Int) - 1)) : Int))) (
  HM.pure (.inr (.inr (.inr (.inr (143, ())))))) (
  HM.pure (.inl ()))) HM.pure)) (Sum.elim (fun x8 =>
  HM.ite (decide (1 < (((ByteArray.size x6 : Nat) : Int) : Int))) (
  HM.pure (.inr (.inr (.inr (143, ()))))) (
  HM.pure (.inl ()))) HM.pure)) (Sum.elim (fun x7 =>
  HM.pure (.inl (IntKind.wrap .i64 (x4.1 + 1), ()))) HM.pure)) (
  HM.pure (.inr (.inl (x4.1, ()))))) (0, ())) (Sum.elim (fun x3 =>
  HM.pure (0, ())) HM.pure))
theorem q_hg (p0 : ByteArray) : denFn Tryz.prog [30, 36, 31] 33 [0, 2, 3, 4, 5, 8, 11, 12, 13, 14, 18, 21, 28, 31] [0, 3, 4, 5, 8, 11, 12, 13, 14, 18, 21, 28, 31] Tryz.f35.results.toList [.one (.int .u8)] (bodyOf Tryz.f35) [Kind.val (.one .str) p0] = q_ck p0 := by kernel_rfl
theorem q_fr (p0 : ByteArray) (h : Heap) (Q : Value → Heap → Prop) (hh : q_ck p0 h fun x h' => Q (.int .u8 x.1) h') :
    HCalls Tryz.prog 35 #[.string p0] h Q :=
  q_a Tryz.func35 (by kernel_rfl) Tryz.ntmps35 (by kernel_rfl) (CC Tryz.call30 (CC Tryz.call36 (CC Tryz.call31 CN))) orders (q_hg p0) hh
def q_el (p0 : ByteArray) : HM (Slc × Unit) :=
  HM.bind (α := Slc) (HM.call1 Tryz.prog (.one .slc) 74 #[.string p0, .string (ByteArray.mk #[47])]) fun x1 =>
  HM.pure (x1, ())
theorem topic_Levels_den (p0 : ByteArray) : denFn Tryz.prog [74] 5 [0, 2] [0] Tryz.f36.results.toList [.one .slc] (bodyOf Tryz.f36) [Kind.val (.one .str) p0] = q_el p0 := by kernel_rfl
theorem q_ek (p0 : ByteArray) (h : Heap) (Q : Value → Heap → Prop) (hh : q_el p0 h fun x h' => Q (.slice x.1.a x.1.len x.1.cap) h') :
    HCalls Tryz.prog 36 #[.string p0] h Q :=
  q_a Tryz.func36 (by kernel_rfl) Tryz.ntmps36 (by kernel_rfl) (CC Tryz.call74 CN) orders (topic_Levels_den p0) hh
def q_da (p0 : Slc) (p1 : Slc) (p2 : Value) : HM (Bool × Unit) :=
  HM.ite (!(((p0.len : Nat) : Int) == ((p1.len : Nat) : Int))) (
  HM.pure (false, ())) (
  HM.bind (α := (Int × Unit) ⊕ (Bool × Unit)) (HM.loop (σ := Int × Unit) (τ := (Int × Unit) ⊕ (Bool × Unit)) (fun x2 =>
  HM.ite (decide (x2.1 < (((p0.len : Nat) : Int) : Int))) (
  HM.bind (α := Addr) (HM.idx p0.a p0.len x2.1 1) fun x3 =>
  HM.bind (α := ByteArray) (HM.load1 .str x3) fun x4 =>
  HM.bind (α := Addr) (HM.idx p1.a p1.len x2.1 1) fun x5 =>
  HM.bind (α := ByteArray) (HM.load1 .str x5) fun x6 =>
  HM.bind (α := Bool) (HM.callV1 Tryz.prog (.one .bool) p2 #[.string x4, .string x6]) fun x7 =>
  HM.ite (!x7) (
  HM.pure (.inr (.inr (false, ())))) (
  HM.pure (.inl (IntKind.wrap .i64 (x2.1 + 1), ())))) (
  HM.pure (.inr (.inl (x2.1, ()))))) (0, ())) (Sum.elim (fun x1 =>
  HM.pure (true, ())) HM.pure))
theorem q_it (p0 : Slc) (p1 : Slc) (p2 : Value) : denFn Tryz.prog [] 32 [0, 1, 2, 6, 7, 8, 9, 14, 15, 16, 17, 18, 30] [0, 1, 2, 7, 8, 9, 14, 15, 16, 17, 18, 30] Tryz.f37.results.toList [.one .bool] (bodyOf Tryz.f37) [Kind.val (.one .slc) p0, Kind.val (.one .slc) p1, Kind.val (.one .any) p2] = q_da p0 p1 p2 := by kernel_rfl
theorem q_gt (p0 : Slc) (p1 : Slc) (p2 : Value) (h : Heap) (Q : Value → Heap → Prop) (hh : q_da p0 p1 p2 h fun x h' => Q (.bool x.1) h') :
    HCalls Tryz.prog 37 #[.slice p0.a p0.len p0.cap, .slice p1.a p1.len p1.cap, p2] h Q :=
  q_a Tryz.func37 (by kernel_rfl) Tryz.ntmps37 (by kernel_rfl) CN orders (q_it p0 p1 p2) hh
def q_ey (p0 : ByteArray) (p1 : ByteArray) : HM (Bool × Unit) :=
  HM.bind (α := Bool × Unit) (HM.ite (decide (p0 = (ByteArray.mk #[43]))) (
  HM.pure (true, ())) (
  HM.pure (decide (p0 = p1), ()))) fun x1 =>
  HM.pure (x1.1, ())
theorem topic_Match_f1_den (p0 : ByteArray) (p1 : ByteArray) : denFn Tryz.prog [] 12 [0, 1, 4] [0, 1] Tryz.f38.results.toList [.one .bool] (bodyOf Tryz.f38) [Kind.val (.one .str) p0, Kind.val (.one .str) p1] = q_ey p0 p1 := by kernel_rfl
theorem q_is (p0 : ByteArray) (p1 : ByteArray) (h : Heap) (Q : Value → Heap → Prop) (hh : q_ey p0 p1 h fun x h' => Q (.bool x.1) h') :
    HCalls Tryz.prog 38 #[.string p0, .string p1] h Q :=
  q_a Tryz.func38 (by kernel_rfl) Tryz.ntmps38 (by kernel_rfl) CN orders (topic_Match_f1_den p0 p1) hh
def law19_props (p0 : Slc) : HM (Slc × Slc × Unit) :=
  HM.bind (α := Slc) (HM.slice p0 none (some (if 80 < (((p0.len : Nat) : Int) : Int) then 80 else ((p0.len : Nat) : Int))) none 4) fun x1 =>
  HM.bind (α := Slc × Slc × Int × Unit) (HM.loop (σ := Slc × Slc × Int × Unit) (τ := Slc × Slc × Int × Unit) (fun x3 =>
  HM.ite (decide (x3.2.2.1 < (((x1.len : Nat) : Int) : Int))) (
  HM.bind (α := Addr) (HM.idx x1.a x1.len x3.2.2.1 4) fun x4 =>
  HM.bind (α := yS8) (HM.loadN tS8 x4) fun x5 =>
  HM.bind (α := Nat) (HM.new (.cells zS8 193)) fun x6 =>
  HM.bind (α := Unit) (HM.storeN ⟨x6, 0, none⟩ (lS8 x5)) fun _ =>
  HM.bind (α := yS8) (HM.loadN tS8 ⟨x6, 0, none⟩) fun x7 =>
  HM.bind (α := yS8) (HM.loadN tS8 ⟨x6, 0, none⟩) fun x8 =>
  HM.both (
  HM.bind (α := Nat) (HM.new (.cells (aS8 x7) 106)) fun x9 =>
  HM.bind (α := yS8) (HM.loadN tS8 ⟨x6, 0, none⟩) fun x10 =>
  HM.req ((.agg (aS8 x10) : Value) = .agg (aS8 x8)) <|
  HM.both (
  HM.bind (α := Slc) (HM.append 106 4 48 zS8 x3.1 1 (srcSlc 4 (⟨some ⟨x9, 0, none⟩, 1, 1⟩))) fun x11 =>
  HM.bind (α := yS8) (HM.loadN tS8 ⟨x6, 0, none⟩) fun x12 =>
  HM.req ((.agg (aS8 x12) : Value) = .agg (aS8 x8)) <|
  HM.bind (α := Nat) (HM.new (.cells (aS8 x8) 194)) fun x13 =>
  HM.bind (α := yS8) (HM.loadN tS8 ⟨x6, 0, none⟩) fun x14 =>
  HM.req ((.agg (aS8 x14) : Value) = .agg (aS8 x7)) <|
  HM.bind (α := Slc) (HM.append 194 4 48 zS8 x3.2.1 1 (srcSlc 4 (⟨some ⟨x13, 0, none⟩, 1, 1⟩))) fun x15 =>
  HM.pure (.inl (x11, x15, IntKind.wrap .i64 (x3.2.2.1 + 1), ()))) (
  HM.bind (α := Nat) (HM.new (.cells (aS8 x8) 194)) fun x16 =>
  HM.bind (α := yS8) (HM.loadN tS8 ⟨x6, 0, none⟩) fun x17 =>
  HM.req ((.agg (aS8 x17) : Value) = .agg (aS8 x7)) <|
  HM.bind (α := Slc) (HM.append 106 4 48 zS8 x3.1 1 (srcSlc 4 (⟨some ⟨x9, 0, none⟩, 1, 1⟩))) fun x18 =>
  HM.bind (α := yS8) (HM.loadN tS8 ⟨x6, 0, none⟩) fun x19 =>
  HM.req ((.agg (aS8 x19) : Value) = .agg (aS8 x8)) <|
  HM.bind (α := Slc) (HM.append 194 4 48 zS8 x3.2.1 1 (srcSlc 4 (⟨some ⟨x16, 0, none⟩, 1, 1⟩))) fun x20 =>
  HM.pure (.inl (x18, x20, IntKind.wrap .i64 (x3.2.2.1 + 1), ())))) (
  HM.bind (α := Nat) (HM.new (.cells (aS8 x8) 194)) fun x21 =>
  HM.bind (α := yS8) (HM.loadN tS8 ⟨x6, 0, none⟩) fun x22 =>
  HM.req ((.agg (aS8 x22) : Value) = .agg (aS8 x7)) <|
  HM.bind (α := Nat) (HM.new (.cells (aS8 x7) 106)) fun x23 =>
  HM.bind (α := yS8) (HM.loadN tS8 ⟨x6, 0, none⟩) fun x24 =>
  HM.req ((.agg (aS8 x24) : Value) = .agg (aS8 x8)) <|
  HM.bind (α := Slc) (HM.append 106 4 48 zS8 x3.1 1 (srcSlc 4 (⟨some ⟨x23, 0, none⟩, 1, 1⟩))) fun x25 =>
  HM.bind (α := yS8) (HM.loadN tS8 ⟨x6, 0, none⟩) fun x26 =>
  HM.req ((.agg (aS8 x26) : Value) = .agg (aS8 x8)) <|
  HM.bind (α := Slc) (HM.append 194 4 48 zS8 x3.2.1 1 (srcSlc 4 (⟨some ⟨x21, 0, none⟩, 1, 1⟩))) fun x27 =>
  HM.pure (.inl (x25, x27, IntKind.wrap .i64 (x3.2.2.1 + 1), ())))) (
  HM.pure (.inr (x3.1, x3.2.1, x3.2.2.1, ())))) (⟨none, 0, 0⟩, ⟨none, 0, 0⟩, 0, ())) fun x2 =>
  HM.pure (x2.1, x2.2.1, ())
theorem law19_props_den (p0 : Slc) : denFn Tryz.prog [] 29 [0, 2, 3, 4, 5, 7, 12, 13, 14, 15] [0, 4, 5, 7, 12, 13, 14, 15] Tryz.f39.results.toList [.one .slc, .one .slc] (bodyOf Tryz.f39) [Kind.val (.one .slc) p0] = law19_props p0 := by kernel_rfl
theorem law19_props_calls (p0 : Slc) (h : Heap) (Q : Value → Heap → Prop) (hh : law19_props p0 h fun x h' => Q (.tuple #[.slice x.1.a x.1.len x.1.cap, .slice x.2.1.a x.2.1.len x.2.1.cap]) h') :
    HCalls Tryz.prog 39 #[.slice p0.a p0.len p0.cap] h Q :=
  q_a Tryz.func39 (by kernel_rfl) Tryz.ntmps39 (by kernel_rfl) CN orders (law19_props_den p0) hh
def q_b6 (p0 : Option Addr) : HM (Slc × Unit) :=
  HM.ite (Option.isNone p0) (
  HM.pure (⟨none, 0, 0⟩, ())) (
  HM.bind (α := Addr) (HM.nonnil p0) fun x1 =>
  HM.bind (α := Option Nat) (HM.load1 .map (Addr.add x1 1)) fun x2 =>
  HM.bind (α := Value) (HM.call1 Tryz.prog (.one .any) 78 #[.map x2]) fun x3 =>
  HM.bind (α := Slc) (HM.call1 Tryz.prog (.one .slc) 40 #[x3]) fun x4 =>
  HM.bind (α := Slc × Int × Unit) (HM.loop (σ := Slc × Int × Unit) (τ := Slc × Int × Unit) (fun x6 =>
  HM.ite (decide (x6.2.1 < (((x4.len : Nat) : Int) : Int))) (
  HM.bind (α := Addr) (HM.idx x4.a x4.len x6.2.1 1) fun x7 =>
  HM.bind (α := Int) (HM.load1 (.int .i64) x7) fun x8 =>
  HM.bind (α := Addr) (HM.nonnil p0) fun x9 =>
  HM.bind (α := Option Nat) (HM.load1 .map (Addr.add x9 1)) fun x10 =>
  HM.bind (α := Option Addr × Bool) (HM.lookup (Instr.sameNow (.int .i64)) (.pointer none) (.one .ptr) x10 (.int .i64 x8)) fun x11 =>
  HM.bind (α := Addr) (HM.nonnil x11.1) fun x12 =>
  HM.bind (α := yS9) (HM.loadN tS9 (Addr.add x12 0)) fun x13 =>
  HM.bind (α := Nat) (HM.new (.cells (aS9 x13) 79)) fun x14 =>
  HM.bind (α := Slc) (HM.append 79 4 32 zS9 x6.1 1 (srcSlc 4 (⟨some ⟨x14, 0, none⟩, 1, 1⟩))) fun x15 =>
  HM.pure (.inl (x15, IntKind.wrap .i64 (x6.2.1 + 1), ()))) (
  HM.pure (.inr (x6.1, x6.2.1, ())))) (⟨none, 0, 0⟩, 0, ())) fun x5 =>
  HM.pure (x5.1, ()))
theorem q_gw (p0 : Option Addr) : denFn Tryz.prog [78, 40] 33 [0, 2, 3, 5, 7, 13, 14, 15, 16] [0, 3, 5, 7, 13, 14, 15, 16] Tryz.f42.results.toList [.one .slc] (bodyOf Tryz.f42) [Kind.val (.one .ptr) p0] = q_b6 p0 := by kernel_rfl
theorem q_fb (p0 : Option Addr) (h : Heap) (Q : Value → Heap → Prop) (hh : q_b6 p0 h fun x h' => Q (.slice x.1.a x.1.len x.1.cap) h') :
    HCalls Tryz.prog 42 #[.pointer p0] h Q :=
  q_a Tryz.func42 (by kernel_rfl) Tryz.ntmps42 (by kernel_rfl) (CC Tryz.call78 (CC Tryz.call40 CN)) orders (q_gw p0) hh
def q_dk (p0 : Option Addr) (p1 : yS7) : HM (Unit) :=
  HM.bind (α := Nat) (HM.new (.cells (aS7 p1) 83)) fun x1 =>
  HM.bind (α := Bool) (HM.load1 .bool (Addr.add ⟨x1, 0, none⟩ 3)) fun x2 =>
  HM.bind (α := Unit) (HM.ite x2 (
  HM.bind (α := Addr) (HM.nonnil p0) fun x4 =>
  HM.bind (α := Option Addr) (HM.load1 .ptr (Addr.add x4 0)) fun x5 =>
  HM.bind (α := Addr) (HM.nonnil x5) fun x6 =>
  HM.bind (α := Option Addr) (HM.load1 .ptr (Addr.add x6 2)) fun x7 =>
  HM.bind (α := ByteArray) (HM.load1 .str (Addr.add ⟨x1, 0, none⟩ 0)) fun x8 =>
  HM.bind (α := ByteArray) (HM.load1 .str (Addr.add ⟨x1, 0, none⟩ 1)) fun x9 =>
  HM.bind (α := Int) (HM.load1 (.int .i64) (Addr.add ⟨x1, 0, none⟩ 2)) fun x10 =>
  HM.bind (α := Int) (HM.call1 Tryz.prog (.one (.int .u8)) 79 #[.pointer x7, .agg #[.string x8, .string x9, .int .i64 x10]]) fun x11 =>
  HM.pure ()) (
  HM.pure ())) fun x3 =>
  HM.bind (α := Addr) (HM.nonnil p0) fun x12 =>
  HM.bind (α := Option Addr) (HM.load1 .ptr (Addr.add x12 0)) fun x13 =>
  HM.bind (α := Addr) (HM.nonnil x13) fun x14 =>
  HM.bind (α := Option Addr) (HM.load1 .ptr (Addr.add x14 1)) fun x15 =>
  HM.bind (α := ByteArray) (HM.load1 .str (Addr.add ⟨x1, 0, none⟩ 0)) fun x16 =>
  HM.bind (α := Slc) (HM.call1 Tryz.prog (.one .slc) 80 #[.pointer x15, .string x16]) fun x17 =>
  HM.bind (α := Slc × Unit) (HM.loop (σ := Slc × Unit) (τ := Slc × Unit) (fun x19 =>
  HM.ite (decide (0 < (((x19.1.len : Nat) : Int) : Int))) (
  HM.bind (α := Addr) (HM.idx x19.1.a x19.1.len 0 3) fun x20 =>
  HM.bind (α := Int) (HM.load1 (.int .i64) (Addr.add x20 0)) fun x21 =>
  HM.bind (α := Int × Slc × Unit) (HM.loop (σ := Int × Slc × Unit) (τ := Int × Slc × Unit) (fun x23 =>
  HM.bind (α := Bool × Unit) (HM.ite (decide (0 < (((x23.2.1.len : Nat) : Int) : Int))) (
  HM.bind (α := Addr) (HM.idx x23.2.1.a x23.2.1.len 0 3) fun x24 =>
  HM.bind (α := Int) (HM.load1 (.int .i64) (Addr.add x24 0)) fun x25 =>
  HM.pure (x25 == x21, ())) (
  HM.pure (false, ()))) fun x26 =>
  HM.ite x26.1 (
  HM.bind (α := Addr) (HM.idx x23.2.1.a x23.2.1.len 0 3) fun x27 =>
  HM.bind (α := Int) (HM.load1 (.int .i64) (Addr.add x27 2)) fun x28 =>
  HM.bind (α := Slc) (HM.slice x23.2.1 (some 1) none none 3) fun x29 =>
  HM.pure (.inl (if x23.1 < (x28 : Int) then x28 else x23.1, x29, ()))) (
  HM.pure (.inr (x23.1, x23.2.1, ())))) (0, x19.1, ())) fun x22 =>
  HM.bind (α := Addr) (HM.nonnil p0) fun x30 =>
  HM.bind (α := Option Addr) (HM.load1 .ptr (Addr.add x30 0)) fun x31 =>
  HM.bind (α := Addr) (HM.nonnil x31) fun x32 =>
  HM.bind (α := Option Addr) (HM.load1 .ptr (Addr.add x32 0)) fun x33 =>
  HM.bind (α := ByteArray) (HM.load1 .str (Addr.add ⟨x1, 0, none⟩ 0)) fun x34 =>
  HM.bind (α := ByteArray) (HM.load1 .str (Addr.add ⟨x1, 0, none⟩ 1)) fun x35 =>
  HM.bind (α := Int) (HM.load1 (.int .i64) (Addr.add ⟨x1, 0, none⟩ 2)) fun x36 =>
  HM.both (
  HM.bind (α := Option Addr) (HM.call1 Tryz.prog (.one .ptr) 56 #[.pointer x33, .int .i64 x21]) fun x37 =>
  HM.bind (α := Int) (HM.load1 (.int .i64) (Addr.add ⟨x1, 0, none⟩ 2)) fun x38 =>
  HM.req ((.int .i64 x38 : Value) = .int .i64 x36) <|
  HM.bind (α := ByteArray) (HM.load1 .str (Addr.add ⟨x1, 0, none⟩ 1)) fun x39 =>
  HM.req ((.string x39 : Value) = .string x35) <|
  HM.bind (α := ByteArray) (HM.load1 .str (Addr.add ⟨x1, 0, none⟩ 0)) fun x40 =>
  HM.req ((.string x40 : Value) = .string x34) <|
  HM.bind (α := ByteArray) (HM.load1 .str (Addr.add ⟨x1, 0, none⟩ 1)) fun x41 =>
  HM.req ((.string x41 : Value) = .string x35) <|
  HM.bind (α := ByteArray) (HM.load1 .str (Addr.add ⟨x1, 0, none⟩ 0)) fun x42 =>
  HM.req ((.string x42 : Value) = .string x34) <|
  HM.bind (α := Option Addr) (HM.load1 .ptr (Addr.add x32 0)) fun x43 =>
  HM.req ((.pointer x43 : Value) = .pointer x33) <|
  HM.bind (α := Option Addr) (HM.load1 .ptr (Addr.add x30 0)) fun x44 =>
  HM.req ((.pointer x44 : Value) = .pointer x31) <|
  HM.bind (α := Slc × Int × Unit) (HM.callN Tryz.prog [.one .slc, .one (.int .u8)] 81 #[.pointer x37, .agg #[.string x34, .string x35, .int .i64 (if x22.1 < (x36 : Int) then x22.1 else x36), .bool false, .string (ByteArray.mk #[])]]) fun x45 =>
  HM.bind (α := Unit) (HM.callN Tryz.prog [] 72 #[.pointer p0, .int .i64 x21, .slice x45.1.a x45.1.len x45.1.cap]) fun x46 =>
  HM.pure (.inl (x22.2.1, ()))) (
  HM.bind (α := ByteArray) (HM.load1 .str (Addr.add ⟨x1, 0, none⟩ 1)) fun x47 =>
  HM.req ((.string x47 : Value) = .string x35) <|
  HM.bind (α := ByteArray) (HM.load1 .str (Addr.add ⟨x1, 0, none⟩ 0)) fun x48 =>
  HM.req ((.string x48 : Value) = .string x34) <|
  HM.bind (α := Option Addr) (HM.load1 .ptr (Addr.add x32 0)) fun x49 =>
  HM.req ((.pointer x49 : Value) = .pointer x33) <|
  HM.bind (α := Option Addr) (HM.load1 .ptr (Addr.add x30 0)) fun x50 =>
  HM.req ((.pointer x50 : Value) = .pointer x31) <|
  HM.bind (α := Option Addr) (HM.call1 Tryz.prog (.one .ptr) 56 #[.pointer x33, .int .i64 x21]) fun x51 =>
  HM.bind (α := Int) (HM.load1 (.int .i64) (Addr.add ⟨x1, 0, none⟩ 2)) fun x52 =>
  HM.req ((.int .i64 x52 : Value) = .int .i64 x36) <|
  HM.bind (α := ByteArray) (HM.load1 .str (Addr.add ⟨x1, 0, none⟩ 1)) fun x53 =>
  HM.req ((.string x53 : Value) = .string x35) <|
  HM.bind (α := ByteArray) (HM.load1 .str (Addr.add ⟨x1, 0, none⟩ 0)) fun x54 =>
  HM.req ((.string x54 : Value) = .string x34) <|
  HM.bind (α := Slc × Int × Unit) (HM.callN Tryz.prog [.one .slc, .one (.int .u8)] 81 #[.pointer x51, .agg #[.string x34, .string x35, .int .i64 (if x22.1 < (x36 : Int) then x22.1 else x36), .bool false, .string (ByteArray.mk #[])]]) fun x55 =>
  HM.bind (α := Unit) (HM.callN Tryz.prog [] 72 #[.pointer p0, .int .i64 x21, .slice x55.1.a x55.1.len x55.1.cap]) fun x56 =>
  HM.pure (.inl (x22.2.1, ())))) (
  HM.pure (.inr (x19.1, ())))) (x17, ())) fun x18 =>
  HM.pure ()
theorem broker_turn_hand_den (p0 : Option Addr) (p1 : yS7) : denFn Tryz.prog [79, 80, 56, 81, 72] 88 [0, 1, 3, 4, 5, 6, 7, 10, 38, 53] [0, 1, 3, 4, 5, 6, 7, 10, 38, 53] Tryz.f43.results.toList [] (bodyOf Tryz.f43) [Kind.val (.one .ptr) p0, Kind.val (.agg tS7) p1] = q_dk p0 p1 := by kernel_rfl
theorem q_g8 (p0 : Option Addr) (p1 : yS7) (h : Heap) (Q : Value → Heap → Prop) (hh : q_dk p0 p1 h fun x h' => Q (.tuple #[]) h') :
    HCalls Tryz.prog 43 #[.pointer p0, .agg (aS7 p1)] h Q :=
  q_a Tryz.func43 (by kernel_rfl) Tryz.ntmps43 (by kernel_rfl) (CC Tryz.call79 (CC Tryz.call80 (CC Tryz.call56 (CC Tryz.call81 (CC Tryz.call72 CN))))) orders (broker_turn_hand_den p0 p1) hh
end Go.Proofs.YtidlldnlphdhcaaGreatDoor
