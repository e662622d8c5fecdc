/-
  L16b: the law TagsBack over heaps.
-/
import Derived.Test.YtlgddhcbiioefaaDoorCpar
namespace Go.Proofs.YtlgddhcbiioefaaDoor
open Go.H Go.Proofs Go.Lib
set_option linter.unusedSimpArgs false
set_option linter.unusedVariables false
set_option synthInstance.maxSize 100000
set_option synthInstance.maxHeartbeats 400000

abbrev cL (a b c d : Int) : Array Value := #[.int .i64 a, .int .i64 b, .int .i64 c, .int .i64 d]
abbrev vL (a b c d : Int) : Value := .agg (cL a b c d)

theorem made_spec {h : Heap} {R : List Asn} (hs : sat h R) {a b c d : Int} {Q : Value → Heap → Prop} (hq : ∀ h', sat h' R → Q (.tuple #[vL a b c d, vL a b c d]) h') :
    HCalls Tryd.prog 40 #[vL a b c d] h Q := by
  refine law16_made_calls (a, b, c, d, ()) h Q ?_
  unfold law16_made
  refine new_cells hs fun x1 h1 hs1 => ?_
  refine new_cells hs1 fun x2 h2 hs2 => ?_
  refine new_cells hs2 fun x3 h3 hs3' => ?_
  have hs3 : sat h3 (cells x3 (cL 0 0 0 0) :: cells x2 (cL 0 0 0 0) :: cells x1 (cL a b c d) :: R) := hs3'
  clear hs3' hs2 hs1
  have hT : ∀ {h' : Heap} {R' : List Asn}, sat h' (cells x1 (cL a b c d) :: R') → (∀ (i : Nat) (v : Value), (Tup.vals [.int .i64, .int .i64] (a, b, ()))[i]? = some v → cellH h' (((⟨x1, 0, none⟩ : Addr).add 0).add i) = some v) ∧
      cellH h' ((⟨x1, 0, none⟩ : Addr).add 2) = some (.int .i64 c) ∧ cellH h' ((⟨x1, 0, none⟩ : Addr).add 3) = some (.int .i64 d) := fun hs' => by
    refine ⟨fun i v hv => ?_, ?_, ?_⟩
    · rw [add_own, add_own, hs'.cell]
      match i, hv with
      | 0, hv => exact hv
      | 1, hv => exact hv
      | j + 2, hv => cases (show (none : Option Value) = some v from hv)
    · rw [add_own]; exact hs'.cell 2
    · rw [add_own]; exact hs'.cell 3
  have t3 := hT hs3.p2
  refine loadN_of (ts := [.int .i64, .int .i64]) (a, b, ()) t3.1 ⟨c, t3.2.1, d, t3.2.2, ?_⟩
  refine loadN_of (ts := [.int .i64, .int .i64]) (a, b, ()) t3.1 ⟨c, t3.2.1, d, t3.2.2, ?_⟩
  refine storeN_all' (hs3.re [1, 0, 2]) rfl rfl fun h4 hs4 => ?_
  have t4 := hT hs4.p2
  refine ⟨d, t4.2.2, rfl, c, t4.2.1, rfl, ?_⟩
  refine loadN_of (ts := [.int .i64, .int .i64]) (a, b, ()) t4.1 ⟨rfl, ?_⟩
  refine storeN_all' (hs4.re [1, 0, 2]) rfl rfl fun h5 hs5 => ?_
  refine loadN_cells (ts := [.int .i64, .int .i64, .int .i64, .int .i64]) (a, b, c, d, ()) (hs5.re [1, 0]) rfl ?_
  refine loadN_cells (ts := [.int .i64, .int .i64, .int .i64, .int .i64]) (a, b, c, d, ()) hs5 rfl ?_
  exact hq h5 hs5.drop.drop.drop

def parseT : Option LabT → (Int × Int × Int × Int × Unit) × Bool × Unit
  | some l => ((l.1, l.2.1, l.2.2.1, l.2.2.2, ()), true, ())
  | none => ((0, 0, 0, 0, ()), false, ())

theorem parseV_eq (o : Option LabT) : parseV o = .tuple (KTup.vals [.agg [.int .i64, .int .i64, .int .i64, .int .i64], .one .bool] (parseT o)).toArray := by
  cases o <;> rfl

set_option maxRecDepth 100000 in
theorem TagsBack_spec {h h0 : Heap} (ht : TX h0) {a b c d : Int} {s : ByteArray} (hsz : s.size ≤ 1048576) (hs : sat h [old h0]) {Q : Value → Heap → Prop}
    (hq : ∀ h' R, sat h' (old h0 :: R) → Q (.bool true) h') : HCalls Tryd.prog 11 #[vL a b c d, .string s] h Q := by
  refine law16_TagsBack_calls (a, b, c, d, ()) s h Q ?_
  unfold law16_TagsBack
  refine new_cells hs fun x1 h1 hs1 => ?_
  refine loadN_cells (ts := [.int .i64, .int .i64, .int .i64, .int .i64]) (a, b, c, d, ()) hs1 rfl ?_
  refine bind_callN (made_spec (hs1.drop) fun h2 hs2 => ⟨((a, b, c, d, ()), (a, b, c, d, ()), ()), rfl, ?_⟩)
  dsimp only
  refine new_cells hs2 fun x4 h3 hs3 => ?_
  refine new_cells hs3 fun x5 h4 hs4 => ?_
  refine storeN_all' (hs4.re [1, 0]) rfl rfl fun h5 hs5 => ?_
  refine storeN_all' (hs5.re [1, 0]) rfl rfl fun h6 hs6 => ?_
  have hs7 : sat h6 [cells x4 (cL a b c d), old h0] := (hs6.re [1, 2, 0]).p2.drop
  refine loadN_cells (ts := [.int .i64, .int .i64, .int .i64, .int .i64]) (a, b, c, d, ()) hs7 rfl ?_
  refine bind_call1 (Text_spec (hs7.re [1, 0]) ht fun h8 hs8 => ⟨_, rfl, ?_⟩)
  have htz : (labelText a b c d).size ≤ 1048576 := by
    by_cases hg : goodLabel a b c d
    · exact Nat.le_trans (text_size hg) (by decide)
    · unfold labelText; rw [if_neg hg]; decide
  refine bind_callN (Parse_spec hs8 ht htz fun h9 hs9 => ⟨parseT (parseR (labelText a b c d)), parseV_eq _, ?_⟩)
  dsimp only
  refine new_cells hs9 fun x9 h10 hs10 => ?_
  refine storeN_all' hs10 rfl rfl fun h11 hs11 => ?_
  refine bind_cut (fun w h' => w.1 = false ∧ sat h' [old h0]) ?_ ?_
  · refine bind_call1 (wakes16_spec hs11 fun h12 hs12 => ⟨true, rfl, ?_⟩)
    (try dsimp only); rw [HM.ite_apply, if_neg (by simp), HM.ite_apply]
    by_cases hg : goodLabel a b c d
    · have hne := text_ne hg
      have hp := parse_text hg
      rw [hp] at hs12 ⊢
      rw [if_neg (by simp [parseT, hne]), HM.ite_apply, if_pos (by rfl)]
      refine loadN_cells (ts := [.int .i64, .int .i64, .int .i64, .int .i64]) (a, b, c, d, ()) hs12 rfl ?_
      refine loadN_cells (ts := [.int .i64, .int .i64, .int .i64, .int .i64]) (a, b, c, d, ()) (hs12.re [2, 0, 1]) rfl ?_
      exact ⟨by simp, hs12.drop.p1.drop⟩
    · have he : labelText a b c d = ByteArray.mk #[] := by unfold labelText; rw [if_neg hg]
      rw [he, parse_empty]
      rw [if_neg (by simp [parseT]), HM.ite_apply, if_neg (by simp [parseT])]
      exact ⟨rfl, hs12.drop.p1.drop⟩
  rintro ⟨w, ⟨⟩⟩ h12 ⟨hw, hs12⟩
  simp only at hw
  subst hw
  (try dsimp only); rw [HM.ite_apply, if_neg (by simp)]
  refine bind_callN (Parse_spec hs12 ht hsz fun h13 hs13 => ⟨parseT (parseR s), parseV_eq _, ?_⟩)
  dsimp only
  refine new_cells hs13 fun x15 h14 hs14 => ?_
  refine storeN_all' hs14 rfl rfl fun h15 hs15 => ?_
  refine bind_cut (fun w h' => w.1 = true ∧ sat h' [old h0]) ?_ ?_
  · (try dsimp only); rw [HM.ite_apply]
    cases hp : parseR s with
    | none =>
      rw [if_pos (by rfl)]
      exact ⟨rfl, hs15.drop⟩
    | some l =>
      rw [hp] at hs15
      obtain ⟨l1, l2, l3, l4⟩ := l
      obtain ⟨hg, hb⟩ := parse_back hp
      rw [if_neg (by simp [parseT])]
      refine loadN_cells (ts := [.int .i64, .int .i64, .int .i64, .int .i64]) (l1, l2, l3, l4, ()) hs15 rfl ?_
      refine bind_call1 (Text_spec (hs15.re [1, 0]) ht fun h16 hs16 => ⟨_, rfl, ?_⟩)
      exact ⟨by simpa using hb, hs16.p1.drop⟩
  rintro ⟨w, ⟨⟩⟩ h16 ⟨hw, hs16⟩
  simp only at hw
  subst hw
  exact hq h16 [] hs16

end Go.Proofs.YtlgddhcbiioefaaDoor
