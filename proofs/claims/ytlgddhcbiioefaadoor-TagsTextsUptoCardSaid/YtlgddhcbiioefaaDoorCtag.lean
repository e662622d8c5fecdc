/-
  Ctag: contracts: sets of tags.
-/
import Derived.Test.YtlgddhcbiioefaaDoorCids
import Derived.Test.YtlgddhcbiioefaaDoorHx
import Derived.Test.YtlgddhcbiioefaaDoorHr
namespace Go.Proofs.YtlgddhcbiioefaaDoor
open Go.H Go.Proofs
set_option linter.unusedSimpArgs false
set_option linter.unusedVariables false
set_option synthInstance.maxSize 100000
set_option synthInstance.maxHeartbeats 400000

abbrev TagT := Int × Int

def goodTag (t : TagT) : Prop := 0 ≤ t.1 ∧ t.1 < 8 ∧ 1 ≤ t.2 ∧ t.2 ≤ 9007199254740992
instance (t : TagT) : Decidable (goodTag t) := by unfold goodTag; infer_instance

theorem tgood_spec {h : Heap} {R : List Asn} (hs : sat h R) {t : TagT} {Q : Value → Heap → Prop} (hq : ∀ h', sat h' R → Q (.bool (decide (goodTag t))) h') :
    HCalls Tryd.prog 64 #[e2 t] h Q := by
  obtain ⟨a, b⟩ := t
  refine tags_Tag_good_calls (a, b, ()) h Q ?_
  unfold tags_Tag_good
  refine new_cells hs fun tb h1 hs1 => ?_
  have c0 : cellH h1 ⟨tb, 0, none⟩ = some (.int .i64 a) := hs1.cell 0
  have c1 : cellH h1 ⟨tb, 1, none⟩ = some (.int .i64 b) := hs1.cell 1
  have hq' := hq h1 hs1.drop
  refine bind_cut (fun x h' => h' = h1 ∧ x.1 = decide (goodTag (a, b))) ?_ ?_
  · unfold goodTag
    by_cases g1 : 0 ≤ a <;> by_cases g2 : a < 8 <;> by_cases g3 : 1 ≤ b <;> by_cases g4 : b ≤ 9007199254740992 <;> simp [add_own, c0, c1, g1, g2, g3, g4] <;> omega
  · rintro ⟨x, ⟨⟩⟩ h2 ⟨rfl, hx⟩
    simp only at hx
    subst hx
    exact hq'

theorem eqTag (a b c d : Int) : eqTy Tryd.prog 8 107 (.agg #[.int .i64 a, .int .i64 b]) (.agg #[.int .i64 c, .int .i64 d]) = some ((a == c) && ((b == d) && true)) := by kernel_rfl
theorem kTag : KeyLaw (eqTy Tryd.prog 8 107) e2 := key_e2 eqTag
theorem eqTag_self (a b : Int) : eqTy Tryd.prog 8 107 (.agg #[.int .i64 a, .int .i64 b]) (.agg #[.int .i64 a, .int .i64 b]) = some true := by
  rw [eqTag]; simp

abbrev eVBt : Bool → Value := Kind.val (.one .bool)

def setA (b : Nat) (most : Int) (l : List TagT) : Asn := exA fun m : Nat =>
  star (cells b #[.int .i64 most, .map (some m)]) (mapA e2 eVBt m (setM l))

theorem setA_iff {h : Heap} {b : Nat} {most : Int} {l : List TagT} {R : List Asn} : sat h (setA b most l :: R) ↔ ∃ m : Nat,
    sat h (cells b #[.int .i64 most, .map (some m)] :: mapA e2 eVBt m (setM l) :: R) := by
  unfold setA
  rw [sat.ex_iff]
  constructor
  · rintro ⟨m, hs⟩
    rw [sat.star_iff] at hs
    exact ⟨m, hs⟩
  · rintro ⟨m, hs⟩
    refine ⟨m, ?_⟩
    rw [sat.star_iff]
    exact hs

theorem setNew_spec {h : Heap} {R : List Asn} (hs : sat h R) (most : Int) {Q : Value → Heap → Prop} (hq : ∀ b h', sat h' (setA b (max 0 most) [] :: R) → Q (at0 b) h') :
    HCalls Tryd.prog 31 #[.int .i64 most] h Q := by
  refine tags_New_calls most h Q ?_
  unfold tags_New
  have e : (if 0 < most then most else 0) = max 0 most := by split <;> omega
  rw [e]
  refine new_map (ek := e2) (ev := eVBt) hs fun m h1 hs1 => ?_
  refine new_cells hs1 fun b h2 hs2 => ?_
  exact hq b h2 (setA_iff.2 ⟨m, hs2⟩)

/-- what a set answers when a tag is added, and what it has then -/
def addR (most : Int) (l : List TagT) (t : TagT) : (Bool × Int) × List TagT :=
  if goodTag t then (if t ∈ l then ((false, 0), l) else if most ≤ l.length then ((false, 151), l) else ((true, 0), l ++ [t])) else ((false, 129), l)

theorem Add_spec {h : Heap} {R : List Asn} {b : Nat} {most : Int} {l : List TagT} (hs : sat h (setA b most l :: R)) {t : TagT} {Q : Value → Heap → Prop}
    (hq : ∀ h', sat h' (setA b most (addR most l t).2 :: R) → Q (.tuple #[.bool (addR most l t).1.1, .int .u8 (addR most l t).1.2]) h') :
    HCalls Tryd.prog 32 #[at0 b, e2 t] h Q := by
  obtain ⟨u, v⟩ := t
  refine tags_Set_Add_calls (some ⟨b, 0, none⟩) (u, v, ()) h Q ?_
  unfold tags_Set_Add
  obtain ⟨m, hs⟩ := setA_iff.1 hs
  refine new_cells hs fun tb h1 hs1 => ?_
  dsimp only
  (try dsimp only); rw [HM.ite_apply, if_neg (by simp)]
  refine loadN_cells (ts := [.int .i64, .int .i64]) (u, v, ()) hs1 rfl ?_
  refine bind_call1 (tgood_spec (t := (u, v)) hs1 fun h2 hs2 => ⟨decide (goodTag (u, v)), rfl, ?_⟩)
  (try dsimp only); rw [HM.ite_apply]
  unfold addR at hq
  by_cases g : goodTag (u, v)
  case neg =>
    rw [if_pos (by simp [g])]
    rw [if_neg g] at hq
    exact hq h2 (setA_iff.2 ⟨m, hs2.drop⟩)
  rw [if_pos g] at hq
  rw [if_neg (by simp [g])]
  have c1 : cellH h2 ⟨b, 1, none⟩ = some (.map (some m)) := hs2.p1.cell 1
  have c0 : cellH h2 ⟨b, 0, none⟩ = some (.int .i64 most) := hs2.p1.cell 0
  refine ⟨_, rfl, some m, by rw [add_own]; exact c1, ?_⟩
  refine loadN_cells (ts := [.int .i64, .int .i64]) (u, v, ()) hs2 rfl ⟨eqTag_self u v, ?_⟩
  (try dsimp only); rw [HM.bind_apply]
  refine lookup_map (ek := e2) (k := (u, v)) kTag (kind := .one .bool) (z := false) rfl (hs2.re [2, 0, 1]) ?_
  rw [mget_setM]
  by_cases g2 : (u, v) ∈ l
  · rw [if_pos g2] at hq ⊢
    (try dsimp only); rw [HM.ite_apply, if_pos (by rfl)]
    exact hq h2 (setA_iff.2 ⟨m, hs2.drop⟩)
  rw [if_neg g2] at hq ⊢
  (try dsimp only); rw [HM.ite_apply, if_neg (by simp)]
  refine ⟨_, rfl, some m, by rw [add_own]; exact c1, ?_⟩
  (try dsimp only); rw [HM.bind_apply]
  refine len_map (hs2.re [2, 0, 1]) ?_
  refine ⟨_, rfl, most, by rw [add_own]; exact c0, ?_⟩
  (try dsimp only); rw [HM.ite_apply, allM_len]
  by_cases g3 : most ≤ l.length
  · rw [if_pos g3] at hq
    rw [if_pos (by simpa using g3)]
    exact hq h2 (setA_iff.2 ⟨m, hs2.drop⟩)
  rw [if_neg g3] at hq
  rw [if_neg (by simpa using g3)]
  refine ⟨_, rfl, some m, by rw [add_own]; exact c1, ?_⟩
  refine loadN_cells (ts := [.int .i64, .int .i64]) (u, v, ()) hs2 rfl ⟨eqTag_self u v, ?_⟩
  (try dsimp only); rw [HM.bind_apply]
  refine set_map (ek := e2) (k := (u, v)) kTag inj_e2 (ev := eVBt) (x := true) (hs2.re [2, 0, 1]) fun h3 hs3 => ?_
  rw [mset_setM _ _ g2] at hs3
  exact hq h3 (setA_iff.2 ⟨m, (hs3.re [1, 2, 0]).drop⟩)

theorem Has_spec {h : Heap} {R : List Asn} {b : Nat} {most : Int} {l : List TagT} (hs : sat h (setA b most l :: R)) {t : TagT} {Q : Value → Heap → Prop}
    (hq : ∀ h', sat h' (setA b most l :: R) → Q (.bool (decide (t ∈ l))) h') :
    HCalls Tryd.prog 34 #[at0 b, e2 t] h Q := by
  obtain ⟨u, v⟩ := t
  refine tags_Set_Has_calls (some ⟨b, 0, none⟩) (u, v, ()) h Q ?_
  unfold tags_Set_Has
  obtain ⟨m, hs⟩ := setA_iff.1 hs
  refine new_cells hs fun tb h1 hs1 => ?_
  dsimp only
  have c1 : cellH h1 ⟨b, 1, none⟩ = some (.map (some m)) := hs1.p1.cell 1
  (try dsimp only); rw [HM.bind_apply, HM.ite_apply, if_pos (by simp)]
  refine ⟨_, rfl, some m, by rw [add_own]; exact c1, ?_⟩
  refine loadN_cells (ts := [.int .i64, .int .i64]) (u, v, ()) hs1 rfl ⟨eqTag_self u v, ?_⟩
  (try dsimp only); rw [HM.bind_apply]
  refine lookup_map (ek := e2) (k := (u, v)) kTag (kind := .one .bool) (z := false) rfl (hs1.re [2, 0, 1]) ?_
  rw [mget_setM]
  have := hq h1 (setA_iff.2 ⟨m, hs1.drop⟩)
  by_cases g2 : (u, v) ∈ l
  · rw [if_pos g2]
    simpa [g2] using this
  · rw [if_neg g2]
    simpa [g2] using this

theorem Len_spec {h : Heap} {R : List Asn} {b : Nat} {most : Int} {l : List TagT} (hs : sat h (setA b most l :: R)) {Q : Value → Heap → Prop}
    (hq : Q (.int .i64 l.length) h) : HCalls Tryd.prog 33 #[at0 b] h Q := by
  refine tags_Set_Len_calls (some ⟨b, 0, none⟩) h Q ?_
  unfold tags_Set_Len
  obtain ⟨m, hs⟩ := setA_iff.1 hs
  have c1 : cellH h ⟨b, 1, none⟩ = some (.map (some m)) := hs.cell 1
  (try dsimp only); rw [HM.ite_apply, if_neg (by simp)]
  refine ⟨_, rfl, some m, by rw [add_own]; exact c1, ?_⟩
  (try dsimp only); rw [HM.bind_apply]
  refine len_map hs.p1 ?_
  rw [allM_len]
  exact hq

/-! ### nil -/

theorem Add_nil {h : Heap} {R : List Asn} (hs : sat h R) {t : TagT} {Q : Value → Heap → Prop} (hq : ∀ h', sat h' R → Q (.tuple #[.bool false, .int .u8 128]) h') :
    HCalls Tryd.prog 32 #[.pointer none, e2 t] h Q := by
  refine tags_Set_Add_calls none (t.1, t.2, ()) h Q ?_
  unfold tags_Set_Add
  refine new_cells hs fun tb h1 hs1 => ?_
  dsimp only
  (try dsimp only); rw [HM.ite_apply, if_pos (by simp)]
  exact hq h1 hs1.drop
theorem Has_nil {h : Heap} {R : List Asn} (hs : sat h R) {t : TagT} {Q : Value → Heap → Prop} (hq : ∀ h', sat h' R → Q (.bool false) h') :
    HCalls Tryd.prog 34 #[.pointer none, e2 t] h Q := by
  refine tags_Set_Has_calls none (t.1, t.2, ()) h Q ?_
  unfold tags_Set_Has
  refine new_cells hs fun tb h1 hs1 => ?_
  dsimp only
  (try dsimp only); rw [HM.bind_apply, HM.ite_apply, if_neg (by simp)]
  exact hq h1 hs1.drop
theorem Len_nil {h : Heap} {Q : Value → Heap → Prop} (hq : Q (.int .i64 0) h) : HCalls Tryd.prog 33 #[.pointer none] h Q := by
  refine tags_Set_Len_calls none h Q ?_
  unfold tags_Set_Len
  (try dsimp only); rw [HM.ite_apply, if_pos (by simp)]
  exact hq

end Go.Proofs.YtlgddhcbiioefaaDoor
