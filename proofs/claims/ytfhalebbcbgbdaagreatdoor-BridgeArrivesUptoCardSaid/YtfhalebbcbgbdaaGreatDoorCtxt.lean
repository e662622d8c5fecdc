/-
  Ctxt: contracts: labels as text.
-/
import Derived.Test.YtfhalebbcbgbdaaGreatDoorCtag
import Derived.Test.YtfhalebbcbgbdaaGreatDoorKitoa
import Derived.Test.YtfhalebbcbgbdaaGreatDoorKjoin
import Derived.Shelf.Strings.OnBuilder
import Derived.Shelf.Strconv.Itoa4
namespace Go.Proofs.YtfhalebbcbgbdaaGreatDoor
open Go.H Go.Proofs
open Go.RowKit (Below)
set_option linter.unusedSimpArgs false
set_option linter.unusedVariables false
set_option synthInstance.maxSize 100000
set_option synthInstance.maxHeartbeats 400000

abbrev decS (n : Nat) : ByteArray := ⟨(Lib.decDigits n).toArray⟩

theorem Itoa_spec {h : Heap} {R : List Asn} (hs : sat h R) {n : Nat} (hn : n < 100) {Q : Value → Heap → Prop} (hq : ∀ h', sat h' R → Q (.string (decS n)) h') :
    HCalls Tryz.prog 59 #[.int .i64 n] h Q :=
  calls_below hs (fun w hw => (Any.strconv_Itoa_small itoaL n hn w).mono fun e w' ⟨h1, h2⟩ => ⟨h1, h2 ▸ Below.refl _ _⟩) hq
theorem Format_small {h : Heap} {R : List Asn} (hs : sat h R) {n : Nat} (hn : n < 100) {Q : Value → Heap → Prop} (hq : ∀ h', sat h' R → Q (.string (decS n)) h') :
    HCalls Tryz.prog 60 #[.int .i64 n, .int .i64 10] h Q :=
  calls_below hs (fun w hw => (Any.strconv_FormatInt_10_small formatL n hn w).mono fun e w' ⟨h1, h2⟩ => ⟨h1, h2 ▸ Below.refl _ _⟩) hq

theorem Join_spec {h : Heap} {R : List Asn} {b : Nat} {xs : List ByteArray} {sep : ByteArray} (hs : sat h (cells b (xs.map fun x => Value.string x).toArray :: R)) (hN : xs.length ≤ 140737488355328)
    (hlen : (Lib.join (xs.map (·.data.toList)) sep.data.toList).length ≤ 140737488355328) {Q : Value → Heap → Prop}
    (hq : ∀ h', sat h' (cells b (xs.map fun x => Value.string x).toArray :: R) → Q (.string ⟨(Lib.join (xs.map (·.data.toList)) sep.data.toList).toArray⟩) h') :
    HCalls Tryz.prog 58 #[.slice (some ⟨b, 0, none⟩) xs.length xs.length, .string sep] h Q :=
  calls_below hs (fun w hw => Any.strings_Join joinL joinX b 0 xs.length xs sep w (fun j x hx => by
    have := hs.cell j
    simp [hx] at this
    have e : w.cell? ⟨b, 0 + j, none⟩ = cellH h ⟨b, j, none⟩ := by rw [Nat.zero_add]; subst hw; rfl
    rw [e]; exact this) (by rw [hw]; exact hs.cells_lt) hN (Nat.le_refl _) hlen) hq

def goodLabel (a b c d : Int) : Prop := goodTag (a, b) ∧ 0 ≤ c ∧ c ≤ 32 ∧ 0 ≤ d ∧ d ≤ 2
instance (a b c d : Int) : Decidable (goodLabel a b c d) := by unfold goodLabel; infer_instance

theorem lgood_spec {h : Heap} {R : List Asn} (hs : sat h R) {a b c d : Int} {Q : Value → Heap → Prop} (hq : ∀ h', sat h' R → Q (.bool (decide (goodLabel a b c d))) h') :
    HCalls Tryz.prog 57 #[.agg #[.int .i64 a, .int .i64 b, .int .i64 c, .int .i64 d]] h Q := by
  refine tags_Label_good_calls (a, b, c, d, ()) h Q ?_
  unfold tags_Label_good
  refine new_cells hs fun tb h1 hs1 => ?_
  refine bind_cut (fun x h' => sat h' R ∧ x.1 = decide (goodLabel a b c d)) ?_ ?_
  · refine loadN_of (ts := [.int .i64, .int .i64]) (a, b, ()) (fun j v hv => ?_) ?_
    · rw [add_own, add_own, hs1.cell]
      match j, hv with
      | 0, hv => exact hv
      | 1, hv => exact hv
      | j + 2, hv => cases (show (none : Option Value) = some v from hv)
    refine bind_call1 (tgood_spec (t := (a, b)) hs1 fun h2 hs2 => ⟨decide (goodTag (a, b)), rfl, ?_⟩)
    have c2 : cellH h2 ⟨tb, 2, none⟩ = some (.int .i64 c) := hs2.cell 2
    have c3 : cellH h2 ⟨tb, 3, none⟩ = some (.int .i64 d) := hs2.cell 3
    have hR := hs2.drop
    unfold goodLabel
    by_cases g0 : goodTag (a, b) <;> by_cases g1 : 0 ≤ c <;> by_cases g2 : c ≤ 32 <;> by_cases g3 : 0 ≤ d <;> by_cases g4 : d ≤ 2 <;> simp [add_own, c2, c3, g0, g1, g2, g3, g4] <;> first | exact hR | exact ⟨hR, by omega⟩
  · rintro ⟨x, ⟨⟩⟩ h2 ⟨hs2, hx⟩
    simp only at hx
    subst hx
    exact hq h2 hs2

/-- a label's text -/
def textOf (a : Nat) (F : ByteArray) (c d : Nat) : ByteArray := ⟨(Lib.join [(decS a).data.toList, F.data.toList, (decS c).data.toList, (decS d).data.toList] [46]).toArray⟩

theorem Text_bad {h : Heap} {R : List Asn} (hs : sat h R) {a b c d : Int} (hg : ¬ goodLabel a b c d) {Q : Value → Heap → Prop} (hq : ∀ h', sat h' R → Q (.string (ByteArray.mk #[])) h') :
    HCalls Tryz.prog 29 #[.agg #[.int .i64 a, .int .i64 b, .int .i64 c, .int .i64 d]] h Q := by
  refine tags_Label_Text_calls (a, b, c, d, ()) h Q ?_
  unfold tags_Label_Text
  refine new_cells hs fun tb h1 hs1 => ?_
  refine loadN_cells (ts := [.int .i64, .int .i64, .int .i64, .int .i64]) (a, b, c, d, ()) hs1 rfl ?_
  refine bind_call1 (lgood_spec hs1 fun h2 hs2 => ⟨_, rfl, ?_⟩)
  (try dsimp only); rw [HM.ite_apply, if_pos (by simp [hg])]
  exact hq h2 hs2.drop

theorem Text_of {h : Heap} {R : List Asn} (hs : sat h R) {a b c d : Nat} {F : ByteArray} (hg : goodLabel a b c d)
    (hF : ∀ (X : Asn) (h : Heap) (Q : Value → Heap → Prop), sat h (X :: R) → (∀ h', sat h' (X :: R) → Q (.string F) h') → HCalls Tryz.prog 60 #[.int .i64 b, .int .i64 10] h Q)
    (hlen : (textOf a F c d).size ≤ 140737488355328) {Q : Value → Heap → Prop} (hq : ∀ h', sat h' R → Q (.string (textOf a F c d)) h') :
    HCalls Tryz.prog 29 #[.agg #[.int .i64 a, .int .i64 b, .int .i64 c, .int .i64 d]] h Q := by
  obtain ⟨ha0, ha1, hb0, hb1⟩ := hg.1
  obtain ⟨-, hc0, hc1, hd0, hd1⟩ := hg
  have hg : goodLabel a b c d := ⟨⟨ha0, ha1, hb0, hb1⟩, hc0, hc1, hd0, hd1⟩
  simp only at ha0 ha1 hb0 hb1
  refine tags_Label_Text_calls (a, b, c, d, ()) h Q ?_
  unfold tags_Label_Text
  refine new_cells hs fun tb h1 hs1 => ?_
  refine loadN_cells (ts := [.int .i64, .int .i64, .int .i64, .int .i64]) (a, b, c, d, ()) hs1 rfl ?_
  refine bind_call1 (lgood_spec hs1 fun h2 hs2 => ⟨_, rfl, ?_⟩)
  (try dsimp only); rw [HM.ite_apply, if_neg (by simp [hg])]
  have hC : ∀ {h' : Heap} {R : List Asn}, sat h' (cells tb #[.int .i64 a, .int .i64 b, .int .i64 c, .int .i64 d] :: R) →
      cellH h' ⟨tb, 0, none⟩ = some (.int .i64 a) ∧ cellH h' ⟨tb, 1, none⟩ = some (.int .i64 b) ∧ cellH h' ⟨tb, 2, none⟩ = some (.int .i64 c) ∧ cellH h' ⟨tb, 3, none⟩ = some (.int .i64 d) :=
    fun hs' => ⟨hs'.cell 0, hs'.cell 1, hs'.cell 2, hs'.cell 3⟩
  refine ⟨a, by rw [add_own, add_own]; exact (hC hs2).1, b, by rw [add_own, add_own]; exact (hC hs2).2.1, c, by rw [add_own]; exact (hC hs2).2.2.1, d, by rw [add_own]; exact (hC hs2).2.2.2, ?_⟩
  refine bind_call1 (Itoa_spec hs2 (by omega) fun h3 hs3 => ⟨decS a, rfl, ?_⟩)
  refine ⟨d, by rw [add_own]; exact (hC hs3).2.2.2, rfl, c, by rw [add_own]; exact (hC hs3).2.2.1, rfl, b, by rw [add_own, add_own]; exact (hC hs3).2.1, rfl, ?_⟩
  refine bind_call1 (hF _ _ _ hs3 fun h4 hs4 => ⟨F, rfl, ?_⟩)
  refine ⟨d, by rw [add_own]; exact (hC hs4).2.2.2, rfl, c, by rw [add_own]; exact (hC hs4).2.2.1, rfl, ?_⟩
  refine bind_call1 (Itoa_spec hs4 (by omega) fun h5 hs5 => ⟨decS c, rfl, ?_⟩)
  refine ⟨d, by rw [add_own]; exact (hC hs5).2.2.2, rfl, ?_⟩
  refine bind_call1 (Itoa_spec hs5 (by omega) fun h6 hs6 => ⟨decS d, rfl, ?_⟩)
  refine new_cells hs6 fun jb h7 hs7 => ?_
  refine bind_call1 (Join_spec (xs := [decS a, F, decS c, decS d]) (sep := ByteArray.mk #[46]) hs7 (by simp) ?_ fun h8 hs8 => ⟨textOf a F c d, rfl, ?_⟩)
  · have : (textOf a F c d).size = (Lib.join [(decS a).data.toList, F.data.toList, (decS c).data.toList, (decS d).data.toList] [46]).length := by
      show (List.toArray _).size = _
      simp
    rw [this] at hlen
    exact hlen
  · exact hq h8 hs8.drop.drop


end Go.Proofs.YtfhalebbcbgbdaaGreatDoor
