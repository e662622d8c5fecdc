/-
  Cbrg: contracts: a new bridge; what law 23's wakes sees.
-/
import Derived.Test.YtfhalebbcbgbdaaGreatDoorCrte
import Derived.Test.YtfhalebbcbgbdaaGreatDoorCout
import Derived.Test.YtfhalebbcbgbdaaGreatDoorCtxt
import Derived.Test.YtfhalebbcbgbdaaGreatDoorCdel
namespace Go.Proofs.YtfhalebbcbgbdaaGreatDoor
open Go.H Go.Proofs Go.Lib
set_option linter.unusedSimpArgs false
set_option linter.unusedVariables false
set_option synthInstance.maxSize 100000
set_option synthInstance.maxHeartbeats 400000
set_option maxRecDepth 100000

variable {h h0 : Heap} {R : List Asn}

theorem CloneR_spec {s : Slc} {xs : List RuleT} (hs : sat h (ownS encRu 5 s xs :: R)) (hb : xs.length ≤ 1000) {Q : Value → Heap → Prop}
    (hq : ∀ h' s', sat h' (ownS encRu 5 s' xs :: ownS encRu 5 s xs :: R) → Q (.slice s'.a s'.len s'.cap) h') : HCalls Tryz.prog 37 #[.slice s.a s.len s.cap] h Q := by
  refine slices_Clone_Rule_calls s h Q ?_
  unfold slices_Clone_Rule
  (try dsimp only); rw [HM.ite_apply]
  cases ha : s.a with
  | none =>
    rw [if_pos (by rfl)]
    rcases ownS_cases hs with ⟨-, -, rfl, -⟩ | ⟨b, o, cs, ho, -⟩
    · exact hq h ⟨none, 0, 0⟩ (ownS_nil hs)
    · rw [ho.a] at ha; cases ha
  | some a =>
    rw [if_neg (by simp)]
    have hl := hs.own_len
    refine new_cells hs fun x h1 hs1 => ?_
    (try dsimp only); rw [HM.bind_apply, hl]
    refine append_own (ys := xs) eRu_len eRu_cell rfl (ownS_none (enc := encRu) (size := 5) (a := some ⟨x, 0, none⟩) hs1) rfl ?_ (by decide) (by decide) (by simp only [List.length_nil]; omega) fun s' h2 hs2 => ?_
    · have := row_reads eRu_len (hs1.p1.own_row eRu_len) (by decide)
      rw [hl] at this
      exact by simpa [srcSlc, hl] using this
    · rw [List.nil_append] at hs2
      exact hq h2 s' (hs2.re [1, 0, 2]).drop

/-- a bridge -/
def brgA (b : Nat) (rs : List RuleT) (o : OutS) : Asn := exA fun x : Slc × Nat => star (cells b #[.slice x.1.a x.1.len x.1.cap, at0 x.2]) (star (ownS encRu 5 x.1 rs) (outA x.2 o))
theorem brgA_iff {b : Nat} {rs : List RuleT} {o : OutS} : sat h (brgA b rs o :: R) ↔ ∃ (S : Slc) (ob : Nat), sat h (cells b #[.slice S.a S.len S.cap, at0 ob] :: ownS encRu 5 S rs :: outA ob o :: R) := by
  unfold brgA
  rw [sat.ex_iff]
  constructor
  · rintro ⟨⟨S, ob⟩, hs⟩
    rw [sat.star_iff] at hs
    exact ⟨S, ob, (sat.star_iff.1 hs.p1).re [2, 0, 1]⟩
  · rintro ⟨S, ob, hs⟩
    refine ⟨(S, ob), ?_⟩
    rw [sat.star_iff]
    exact (sat.star_iff.2 (hs.re [1, 2, 0])).p1
abbrev freshO : OutS := ⟨⟨64, 0, []⟩, 64, false, [], []⟩

/-- the first code that some rules have -/
def codeRs : List RuleT → Int
  | [] => 0
  | r :: rs => if chkR r = 0 then codeRs rs else chkR r

theorem brgNew_spec {s : Slc} {rs : List RuleT} (hs : sat h (ownS encRu 5 s rs :: old h0 :: R)) (ht : TP h0) (hz : ∀ r ∈ rs, szR r) (hl : rs.length ≤ 16) {Q : Value → Heap → Prop}
    (hbad : codeRs rs ≠ 0 → ∀ h', sat h' (ownS encRu 5 s rs :: old h0 :: R) → Q (.tuple #[.pointer none, .int .u8 (codeRs rs)]) h')
    (hok : codeRs rs = 0 → ∀ h' b, sat h' (brgA b rs freshO :: ownS encRu 5 s rs :: old h0 :: R) → Q (.tuple #[at0 b, .int .u8 0]) h') :
    HCalls Tryz.prog 12 #[.slice s.a s.len s.cap] h Q := by
  refine bridge_New_calls s h Q ?_
  unfold bridge_New
  have hsl := hs.own_len
  (try dsimp only); rw [HM.ite_apply, if_neg (by simp only [decide_eq_true_eq, hsl]; omega)]
  (try dsimp only); rw [HM.bind_apply]
  refine loop_gx (γ := Nat) (hb := fun s => by
      repeat' with_reducible first
        | refine @mono_bind _ _ _ _ ?_ (fun _ => ?_)
        | refine @mono_ite _ _ _ _ ?_ ?_
      all_goals infer_instance)
    (fun g c h' => c.1 = (((rs.length - g : Nat)) : Int) ∧ g ≤ rs.length ∧ codeRs rs = codeRs (rs.drop (rs.length - g)) ∧ sat h' (ownS encRu 5 s rs :: old h0 :: R)) (fun g => g) rs.length
    ⟨by simp, Nat.le_refl _, by simp, hs⟩ ?_
  clear hs
  rintro g ⟨c, ⟨⟩⟩ h1 ⟨hc, hg, he, hs1⟩
  simp only at hc
  subst hc
  (try dsimp only); rw [HM.ite_apply]
  by_cases hi : rs.length - g < rs.length
  · rw [if_pos (by simp only [decide_eq_true_eq, hsl]; omega)]
    obtain ⟨r, hr⟩ : ∃ r, rs[rs.length - g]? = some r := ⟨_, List.getElem?_eq_getElem hi⟩
    rw [drop_at hr, codeRs] at he
    (try dsimp only); rw [HM.bind_apply]
    refine idx_row (hs1.own_row eRu_len) hr fun p hp => ?_
    (try dsimp only); rw [HM.bind_apply]
    refine load_Ru hp ?_
    refine new_cells hs1 fun x5 h2 hs2' => ?_
    (try dsimp only); rw [HM.bind_apply]
    refine storeN_all' hs2' rfl rfl fun h3 hs3 => ?_
    refine loadN_cells (ts := [.str, .int .i64, .int .i64, .str, .str]) r hs3 rfl ?_
    refine bind_call1 (Check_spec hs3.p2 ht (hz r (List.mem_of_getElem? hr)) fun h4 hs4 => ⟨_, rfl, ?_⟩)
    (try dsimp only); rw [HM.ite_apply]
    by_cases hcr : chkR r = 0
    · rw [if_neg (by simpa using hcr)]
      rw [if_pos hcr, show rs.length - g + 1 = rs.length - (g - 1) by omega] at he
      simp only [Sum.elim_inl, Sum.elim_inr, HM.pure_apply]
      exact .mk (g - 1) (by omega) ⟨by simp only; rw [wrap_id (by omega) (by omega)]; omega, by omega, he, (hs4.re [1, 2, 0]).drop⟩
    · rw [if_pos (by simpa using hcr)]
      rw [if_neg hcr] at he
      simp only [Sum.elim_inl, Sum.elim_inr, HM.pure_apply]
      have := hbad (by rw [he]; exact hcr) h4 (hs4.re [1, 2, 0]).drop
      rw [he] at this
      exact this
  · rw [if_neg (by simp only [decide_eq_true_eq, hsl]; omega)]
    simp only [Sum.elim_inl, Sum.elim_inr, HM.pure_apply]
    rw [show rs.drop (rs.length - g) = [] by simp; omega] at he
    refine bind_call1 (CloneR_spec hs1 (by omega) fun h2 s2 hs2 => ⟨s2, rfl, ?_⟩)
    refine bind_call1 (outNew_spec hs2 64 fun ob h3 hs3 => ⟨some ⟨ob, 0, none⟩, rfl, ?_⟩)
    refine new_cells hs3 fun b h4 hs4 => ?_
    exact hok he h4 b (brgA_iff.2 ⟨s2, ob, hs4.re [0, 2, 1]⟩)

theorem dig (n : Nat) (hn : n < 10) : Lib.decDigits n = [(48 + n).toUInt8] := by
  rw [Lib.decDigits]
  rw [dif_pos hn]
  try rfl
theorem text23 (a b c d : Nat) (ha : a < 10) (hb : b < 10) (hc : c < 10) (hd : d < 10) : textOf a (decS b) c d = ByteArray.mk #[(48 + a).toUInt8, 46, (48 + b).toUInt8, 46, (48 + c).toUInt8, 46, (48 + d).toUInt8] := by
  simp [textOf, decS, dig a ha, dig b hb, dig c hc, dig d hd, Lib.join_cons, Lib.joinTail]

/-- one digit each -/
theorem Text_dig (hs : sat h R) {a b c d : Nat} (hg : goodLabel a b c d) (hb : b < 10) (hc : c < 10) {Q : Value → Heap → Prop}
    (hq : ∀ h', sat h' R → Q (.string (ByteArray.mk #[(48 + a).toUInt8, 46, (48 + b).toUInt8, 46, (48 + c).toUInt8, 46, (48 + d).toUInt8])) h') :
    HCalls Tryz.prog 29 #[.agg #[.int .i64 a, .int .i64 b, .int .i64 c, .int .i64 d]] h Q := by
  have ha : a < 10 := by have := hg.1.2.1; simp only at this; omega
  have hd : d < 10 := by have := hg.2.2.2.2; omega
  refine Text_of (F := decS b) hs hg (fun X h Q hs hq => Format_small hs (by omega) hq) ?_ fun h' hs' => ?_
  · rw [text23 a b c d ha hb hc hd]
    exact (by decide : (7 : Nat) ≤ 140737488355328)
  · rw [text23 a b c d ha hb hc hd]
    exact hq h' hs'

def ruleW : RuleT := (ByteArray.mk #[35], 0, 1, ByteArray.mk #[], ByteArray.mk #[120, 47], ())
theorem hopW : routeP (ByteArray.mk #[97]) 2 0 [ruleW] = [(0, ByteArray.mk #[120, 47, 97], 1, ())] := by decide
theorem ruleW_ok : codeRs [ruleW] = 0 := by decide

abbrev encMs (x : ByteArray × ByteArray × Int × Bool × ByteArray × Unit) : List Value := [.string x.1, .string x.2.1, .int .i64 x.2.2.1, .bool x.2.2.2.1, .string x.2.2.2.2.1]
theorem eMsU_len : ∀ x : ByteArray × ByteArray × Int × Bool × ByteArray × Unit, (encMs x).length = 5 := fun _ => rfl
theorem eMsU_cell : ∀ x : ByteArray × ByteArray × Int × Bool × ByteArray × Unit, ∀ v ∈ encMs x, v.oneCell' = true := fun x v hv => by
  simp only [encMs, List.mem_cons, List.not_mem_nil, or_false] at hv
  rcases hv with rfl | rfl | rfl | rfl | rfl <;> rfl
def msgW : ByteArray × ByteArray × Int × Bool × ByteArray × Unit := (ByteArray.mk #[120, 47, 97], ByteArray.mk #[112], 1, false, ByteArray.mk #[48, 46, 53, 46, 49, 46, 49], ())

theorem RouteW_spec {b : Nat} {o : OutS} (hs : sat h (brgA b [ruleW] o :: old h0 :: R)) (ht : TP h0) {Q : Value → Heap → Prop}
    (hq : ∀ h' S, sat h' (ownS encMs 5 S [msgW] :: brgA b [ruleW] o :: old h0 :: R) → Q (.slice S.a S.len S.cap) h') :
    HCalls Tryz.prog 16 #[at0 b, .agg #[.int .i64 0, .int .i64 5, .int .i64 0, .int .i64 2], .agg #[.string (ByteArray.mk #[97]), .string (ByteArray.mk #[112]), .int .i64 0, .bool false, .string (ByteArray.mk #[])]] h Q := by
  refine bridge_Bridge_Route_calls (some ⟨b, 0, none⟩) (0, 5, 0, 2, ()) (ByteArray.mk #[97], ByteArray.mk #[112], 0, false, ByteArray.mk #[], ()) h Q ?_
  unfold bridge_Bridge_Route
  obtain ⟨S0, ob, hs0⟩ := brgA_iff.1 hs
  refine new_cells hs0 fun x1 h1 hs1 => ?_
  refine new_cells hs1 fun x2 h2 hs2 => ?_
  refine bind_cut (fun z h' => z.1 = false ∧ sat h' (cells x2 #[.string (ByteArray.mk #[97]), .string (ByteArray.mk #[112]), .int .i64 0, .bool false, .string (ByteArray.mk #[])] :: cells x1 #[.int .i64 0, .int .i64 5, .int .i64 0, .int .i64 2] :: cells b #[.slice S0.a S0.len S0.cap, at0 ob] :: ownS encRu 5 S0 [ruleW] :: outA ob o :: old h0 :: R)) ?_ ?_
  · (try dsimp only); rw [HM.ite_apply, if_neg (by simp)]
    refine loadN_cells (ts := [.int .i64, .int .i64, .int .i64, .int .i64]) (0, 5, 0, 2, ()) hs2.p1 rfl ?_
    refine bind_call1 (Text_dig (a := 0) (b := 5) (c := 0) (d := 2) hs2 (by decide) (by decide) (by decide) fun h3 hs3 => ⟨_, rfl, ?_⟩)
    (try dsimp only); rw [HM.ite_apply, if_neg (by decide)]
    refine ⟨0, by rw [add_own]; exact hs3.p1.cell 2, ?_⟩
    exact ⟨rfl, hs3⟩
  rintro ⟨z, ⟨⟩⟩ h3 ⟨hz, hs3⟩
  simp only at hz
  subst hz
  clear hs2 hs1
  (try dsimp only); rw [HM.ite_apply, if_neg (by simp)]
  refine ⟨_, rfl, S0, by rw [add_own]; exact hs3.p2.cell 0, ByteArray.mk #[97], by rw [add_own]; exact hs3.cell 0, 2, by rw [add_own]; exact hs3.p1.cell 3, ?_⟩
  refine bind_call1 (rmRoute_spec (n := ByteArray.mk #[97]) (q := 2) (hs3.re [3, 5, 0, 1, 2, 4]) ht (fun r hr => ?_) (by decide) (by simp) fun h4 S hs4' => ⟨S, rfl, ?_⟩)
  · rw [List.mem_singleton.1 hr]
    exact ⟨by decide, by decide, by decide⟩
  rw [hopW] at hs4'
  have hs4 := hs4'.re [0, 3, 4, 5, 1, 6, 2]
  clear hs4' hs3
  have hSl : S.len = 1 := hs4.own_len
  (try dsimp only); rw [HM.bind_apply]
  refine loop_gx (γ := Nat) (hb := fun s => by
      repeat' with_reducible first
        | refine @mono_bind _ _ _ _ ?_ (fun _ => ?_)
        | refine @mono_ite _ _ _ _ ?_ ?_
        | refine @mono_req _ _ _ ?_
      all_goals infer_instance)
    (fun g c h' => (g = 1 ∧ c.2.1 = 0 ∧ c.1 = ⟨none, 0, 0⟩ ∧ sat h' (ownS encHo 3 S [(0, ByteArray.mk #[120, 47, 97], 1, ())] :: cells x2 #[.string (ByteArray.mk #[97]), .string (ByteArray.mk #[112]), .int .i64 0, .bool false, .string (ByteArray.mk #[])] :: cells x1 #[.int .i64 0, .int .i64 5, .int .i64 0, .int .i64 2] :: cells b #[.slice S0.a S0.len S0.cap, at0 ob] :: ownS encRu 5 S0 [ruleW] :: outA ob o :: old h0 :: R)) ∨
      (g = 0 ∧ c.2.1 = 1 ∧ sat h' (ownS encMs 5 c.1 [msgW] :: brgA b [ruleW] o :: old h0 :: R))) (fun g => g) 1
    (.inl ⟨rfl, rfl, rfl, hs4⟩) ?_
  clear hs4
  rintro g ⟨out, c, ⟨⟩⟩ h5 (⟨rfl, hc, ho, hs5⟩ | ⟨rfl, hc, hs5⟩)
  · simp only at hc ho
    subst hc
    subst ho
    (try dsimp only); rw [HM.ite_apply, if_pos (by simp [hSl])]
    (try dsimp only); rw [HM.bind_apply]
    refine idx_row (i := 0) (hs5.own_row eHo_len) (x := ((0 : Int), ByteArray.mk #[120, 47, 97], (1 : Int), ())) rfl fun p hp => ?_
    (try dsimp only); rw [HM.bind_apply]
    refine loadN_of (ts := [.int .i64, .str, .int .i64]) ((0 : Int), ByteArray.mk #[120, 47, 97], (1 : Int), ()) (fun i v hv => hp i v hv) ?_
    refine new_cells hs5 fun x16 h6 hs6' => ?_
    (try dsimp only); rw [HM.bind_apply]
    refine storeN_all' hs6' rfl rfl fun h7 hs7 => ?_
    (try dsimp only); rw [HM.bind_apply, add_own]
    refine loadN_of (ts := [.int .i64, .int .i64]) ((0 : Int), (5 : Int), ()) (fun i v hv => ?_) ?_
    · rw [Addr.add_at, hs7.p3.cell]
      match i, hv with
      | 0, hv => exact hv
      | 1, hv => exact hv
      | j + 2, hv => cases (show (none : Option Value) = some v from hv)
    refine ⟨0, by rw [add_own]; exact hs7.p3.cell 2, 1, by rw [add_own]; exact hs7.cell 2, ?_⟩
    refine new_cells hs7 fun x20 h8 hs8' => ?_
    (try dsimp only); rw [HM.bind_apply]
    refine storeN_all' hs8' rfl rfl fun h9 hs9 => ?_
    refine ⟨ByteArray.mk #[120, 47, 97], by rw [add_own]; exact hs9.p1.cell 1, ByteArray.mk #[112], by rw [add_own]; exact hs9.p3.cell 1, false, by rw [add_own]; exact hs9.p3.cell 3, ?_⟩
    refine loadN_cells (ts := [.int .i64, .int .i64, .int .i64, .int .i64]) (0, 5, 1, 1, ()) hs9 rfl ?_
    refine bind_call1 (Text_dig (a := 0) (b := 5) (c := 1) (d := 1) hs9 (by decide) (by decide) (by decide) fun h10 hs10 => ⟨_, rfl, ?_⟩)
    refine ⟨false, by rw [add_own]; exact hs10.p3.cell 3, rfl, ByteArray.mk #[112], by rw [add_own]; exact hs10.p3.cell 1, rfl, ByteArray.mk #[120, 47, 97], by rw [add_own]; exact hs10.p1.cell 1, rfl, ?_⟩
    have hs11 := ownS_nil (enc := encMs) (size := 5) hs10
    refine new_cells hs11 fun x29 h12 hs12 => ?_
    (try dsimp only); rw [HM.bind_apply]
    refine append_own (enc := encMs) (ys := [msgW]) eMsU_len eMsU_cell rfl hs12.p1 rfl ?_ (by decide) (by decide) (by decide) fun s' h13 hs13 => ?_
    · simp only [srcSlc, Nat.one_mul, List.flatMap_cons, List.flatMap_nil, List.append_nil]
      exact hs12.reads rfl
    simp only [Sum.elim_inl, Sum.elim_inr, HM.pure_apply]
    refine .mk 0 (by decide) (.inr ⟨rfl, rfl, ?_⟩)
    have hs14 := hs13.re [1, 2, 3, 4, 5, 6, 7, 8, 9, 10, 0]
    have hs15 := hs14.drop.drop.drop.drop.drop.drop
    have hs16 := brgA_iff.2 ⟨S0, ob, (show sat h13 (cells b #[.slice S0.a S0.len S0.cap, at0 ob] :: ownS encRu 5 S0 [ruleW] :: outA ob o :: old h0 :: ownS encMs 5 s' ([] ++ [msgW]) :: R) from hs15)⟩
    exact hs16.re [2, 0, 1]
  · simp only at hc
    subst hc
    (try dsimp only); rw [HM.ite_apply, if_neg (by simp [hSl])]
    simp only [Sum.elim_inl, Sum.elim_inr, HM.pure_apply]
    exact hq h5 out hs5

theorem wakes23_spec (hs : sat h (old h0 :: R)) (ht : TP h0) {Q : Value → Heap → Prop} (hq : ∀ h', sat h' (old h0 :: R) → Q (.bool true) h') : HCalls Tryz.prog 10 #[] h Q := by
  refine law23_wakes_calls h Q ?_
  unfold law23_wakes
  refine new_cells hs fun x1 h1 hs1 => ?_
  have hs2 : sat h1 (ownS encRu 5 ⟨some ⟨x1, 0, none⟩, 1, 1⟩ [ruleW] :: old h0 :: R) := ownS_mk (o := 0) ⟨rfl, Nat.le_refl _, rfl, by simp, by simp [ruleW, encRu]⟩ hs1
  refine bind_callN (brgNew_spec hs2 ht (fun r hr => ?_) (by simp) (fun hc => absurd ruleW_ok hc) fun _ h3 b hs3 => ⟨(some ⟨b, 0, none⟩, 0, ()), rfl, ?_⟩)
  · rw [List.mem_singleton.1 hr]
    exact ⟨by decide, by decide, by decide⟩
  refine bind_call1 (RouteW_spec (hs3.re [0, 2, 1]) ht fun h4 S hs4 => ⟨S, rfl, ?_⟩)
  have hSl : S.len = 1 := hs4.own_len
  refine bind_cut (fun z h' => h' = h4 ∧ z.1 = true) ?_ ?_
  · (try dsimp only); rw [HM.ite_apply, if_pos (by rfl)]
    (try dsimp only); rw [HM.ite_apply, if_pos (by simp [hSl])]
    (try dsimp only); rw [HM.bind_apply]
    refine idx_row (i := 0) (hs4.own_row eMsU_len) (x := msgW) rfl fun p hp => ?_
    (try dsimp only); rw [HM.bind_apply]
    refine loadN_of (ts := [.str, .str, .int .i64, .bool, .str]) msgW (fun i v hv => hp i v hv) ?_
    (try dsimp only); rw [HM.ite_apply, if_pos (by decide)]
    refine bind_call1 (Delay_spec (t := 2) (l := 10) (m := 100) (d := 7) (by decide) (by decide) ⟨_, rfl, ?_⟩)
    exact ⟨rfl, by decide⟩
  rintro ⟨z, ⟨⟩⟩ h5 ⟨rfl, hz⟩
  simp only at hz
  subst hz
  exact hq _ (hs4.re [0, 1, 3, 2]).drop.drop.drop

end Go.Proofs.YtfhalebbcbgbdaaGreatDoor
