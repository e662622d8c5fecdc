/-
  Crte: contracts: what rules make of a topic (the program).
-/
import Derived.Test.YtfhalebbcbgbdaaGreatDoorCrul
import Derived.Test.YtfhalebbcbgbdaaGreatDoorSh
import Derived.Test.YtfhalebbcbgbdaaGreatDoorHv
import Derived.Test.YtfhalebbcbgbdaaGreatDoorLput
namespace Go.Proofs.YtfhalebbcbgbdaaGreatDoor
open Go.H Go.Proofs Go.Lib
set_option linter.unusedSimpArgs false
set_option linter.unusedVariables false
set_option synthInstance.maxSize 100000
set_option synthInstance.maxHeartbeats 400000
set_option maxRecDepth 100000

variable {h h0 : Heap} {R : List Asn}

def hasP (s p : ByteArray) : Bool := decide (p.size ≤ s.size) && decide (s.extract 0 p.size = p)
def restP (s p : ByteArray) : ByteArray := s.extract p.size s.size
theorem restP_size {s p : ByteArray} : (restP s p).size ≤ s.size := by unfold restP; rw [ByteArray.size_extract]; omega

theorem HasPrefix_spec {s p : ByteArray} {Q : Value → Heap → Prop} (hq : Q (.bool (hasP s p)) h) : HCalls Tryz.prog 209 #[.string s, .string p] h Q := by
  refine stringslite_HasPrefix_calls s p h Q ?_
  unfold stringslite_HasPrefix
  refine bind_cut (fun z h' => h' = h ∧ z.1 = hasP s p) ?_ ?_
  · unfold hasP
    (try dsimp only); rw [HM.ite_apply]
    by_cases hle : p.size ≤ s.size
    · rw [if_pos (by simp only [decide_eq_true_eq]; omega)]
      refine ⟨0, p.size, ⟨rfl, hle⟩, rfl, rfl, ?_⟩
      simp [hle]
    · rw [if_neg (by simp only [decide_eq_true_eq]; omega)]
      exact ⟨rfl, by simp [hle]⟩
  rintro ⟨z, ⟨⟩⟩ h1 ⟨rfl, hz⟩
  simp only at hz
  subst hz
  exact hq
theorem CutPrefix_spec {s p : ByteArray} {Q : Value → Heap → Prop} (hq : Q (.tuple #[.string (if hasP s p = true then restP s p else s), .bool (hasP s p)]) h) : HCalls Tryz.prog 141 #[.string s, .string p] h Q := by
  refine strings_CutPrefix_calls s p h Q ?_
  unfold strings_CutPrefix
  refine bind_callN ?_
  refine stringslite_CutPrefix_calls s p h _ ?_
  unfold stringslite_CutPrefix
  refine bind_call1 (HasPrefix_spec ⟨_, rfl, ?_⟩)
  (try dsimp only); rw [HM.ite_apply]
  cases hp : hasP s p with
  | false =>
    rw [hp, if_neg (by simp)] at hq
    rw [if_pos (by rfl)]
    exact ⟨(s, false, ()), rfl, hq⟩
  | true =>
    rw [hp, if_pos rfl] at hq
    rw [if_neg (by simp)]
    have hle : p.size ≤ s.size := by
      unfold hasP at hp
      simp only [Bool.and_eq_true, decide_eq_true_eq] at hp
      exact hp.1
    refine ⟨p.size, s.size, rfl, ⟨rfl, hle⟩, ?_⟩
    exact ⟨(restP s p, true, ()), rfl, hq⟩

/-- a topic, turned -/
def turnP (r : RuleT) (n fr to : ByteArray) : Option ByteArray :=
  if hasP n fr = true ∧ chkR r = 0 ∧ matchB r.1 (restP n fr) = true ∧ nameOK n = true ∧ nameOK (to ++ restP n fr) = true then some (to ++ restP n fr) else none
def optV (o : Option ByteArray) : Value := match o with
  | some t => .tuple #[.string t, .bool true]
  | none => .tuple #[.string (ByteArray.mk #[]), .bool false]

theorem turned_spec (hs : sat h (old h0 :: R)) (ht : TP h0) {r : RuleT} {n fr to : ByteArray} (hz : szR r) (hn : n.size ≤ bigB) (hto : chkR r = 0 → to.size ≤ 256) {Q : Value → Heap → Prop}
    (hq : ∀ h', sat h' (old h0 :: R) → Q (optV (turnP r n fr to)) h') : HCalls Tryz.prog 97 #[vR r, .string n, .string fr, .string to] h Q := by
  refine remap_Rule_turned_calls r n fr to h Q ?_
  unfold remap_Rule_turned
  refine new_cells hs fun x1 h1 hs1 => ?_
  refine bind_callN (CutPrefix_spec ⟨((if hasP n fr = true then restP n fr else n), hasP n fr, ()), rfl, ?_⟩)
  refine bind_cut (fun z h' => z.1 = (turnP r n fr to).isNone ∧ sat h' (old h0 :: R) ∧ (turnP r n fr to ≠ none → to.size ≤ 256 ∧ n.size ≤ 256)) ?_ ?_
  · (try dsimp only); rw [HM.ite_apply]
    cases hp : hasP n fr with
    | false =>
      rw [if_pos (by rfl)]
      have e : turnP r n fr to = none := by unfold turnP; rw [if_neg (fun e => by rw [hp] at e; exact absurd e.1 (by simp))]
      rw [e]
      exact ⟨rfl, hs1.drop, fun e => absurd rfl e⟩
    | true =>
    rw [if_neg (by simp), if_pos rfl]
    have hrs := restP_size (s := n) (p := fr)
    refine loadN_cells (ts := [.str, .int .i64, .int .i64, .str, .str]) r hs1 rfl ?_
    refine bind_call1 (Check_spec hs1.p1 ht hz fun h2 hs2' => ⟨_, rfl, ?_⟩)
    have hs2 := hs2'.p1
    (try dsimp only); rw [HM.ite_apply]
    by_cases hc : chkR r = 0
    rotate_left
    · rw [if_pos (by simpa using hc)]
      have e : turnP r n fr to = none := by unfold turnP; rw [if_neg (fun e => hc e.2.1)]
      rw [e]
      exact ⟨rfl, hs2.drop, fun e => absurd rfl e⟩
    rw [if_neg (by simpa using hc)]
    refine ⟨r.1, by rw [add_own]; exact hs2.cell 0, ?_⟩
    have hr1 : r.1.size ≤ 9223372036854775807 := Nat.le_trans hz.1 (by decide)
    have hn1 : (restP n fr).size ≤ 9223372036854775807 := Nat.le_trans hrs (Nat.le_trans hn (by decide))
    refine bind_call1 (Match_spec hs2.p1 ht hr1 hn1 fun h3 hs3 => ⟨_, rfl, ?_⟩)
    (try dsimp only); rw [HM.ite_apply]
    cases hm : matchB r.1 (restP n fr) with
    | false =>
      rw [if_pos (by rfl)]
      have e : turnP r n fr to = none := by unfold turnP; rw [if_neg (fun e => by rw [hm] at e; exact absurd e.2.2.1 (by simp))]
      rw [e]
      exact ⟨rfl, hs3.p1.drop, fun e => absurd rfl e⟩
    | true =>
    rw [if_neg (by simp)]
    refine bind_call1 (CheckName_spec hs3 ht (Nat.le_trans hn (by decide)) fun h4 hs4 => ⟨_, rfl, ?_⟩)
    (try dsimp only); rw [HM.ite_apply]
    cases hnm : nameOK n with
    | false =>
      rw [if_pos (by simp [nameC, hnm])]
      have e : turnP r n fr to = none := by unfold turnP; rw [if_neg (fun e => by rw [hnm] at e; exact absurd e.2.2.2.1 (by simp))]
      rw [e]
      exact ⟨rfl, hs4.p1.drop, fun e => absurd rfl e⟩
    | true =>
    rw [if_neg (by simp [nameC, hnm])]
    have hn256 : n.size ≤ 256 := sizedT_le (nameOK_sized hnm)
    have hto2 := hto hc
    refine ⟨by omega, ?_⟩
    refine bind_call1 (CheckName_spec hs4 ht (by rw [ByteArray.size_append]; omega) fun h5 hs5 => ⟨_, rfl, ?_⟩)
    have e : turnP r n fr to = if nameOK (to ++ restP n fr) = true then some (to ++ restP n fr) else none := by
      unfold turnP
      by_cases hx : nameOK (to ++ restP n fr) = true
      · rw [if_pos ⟨hp, hc, hm, hnm, hx⟩, if_pos hx]
      · rw [if_neg (fun e => hx e.2.2.2.2), if_neg hx]
    refine ⟨?_, hs5.p1.drop, fun _ => ⟨hto2, hn256⟩⟩
    rw [e]
    unfold nameC
    cases nameOK (to ++ restP n fr) <;> rfl
  rintro ⟨z, ⟨⟩⟩ h2 ⟨hzz, hs2, hsm⟩
  simp only at hzz
  subst hzz
  (try dsimp only); rw [HM.ite_apply]
  cases ht2 : turnP r n fr to with
  | none =>
    rw [if_pos (by rfl)]
    rw [ht2] at hq
    exact hq _ hs2
  | some t =>
    rw [if_neg (by simp)]
    rw [ht2] at hq hsm
    obtain ⟨h6, h7⟩ := hsm (by simp)
    have hp : hasP n fr = true ∧ t = to ++ restP n fr := by
      unfold turnP at ht2
      split at ht2
      · rename_i hc
        cases ht2
        exact ⟨hc.1, rfl⟩
      · cases ht2
    rw [if_pos hp.1]
    have hrs := restP_size (s := n) (p := fr)
    refine ⟨by omega, ?_⟩
    rw [hp.2] at hq
    exact hq _ hs2

def toP (r : RuleT) (n : ByteArray) : Option ByteArray := if r.2.1 = 1 then none else turnP r n r.2.2.2.1 r.2.2.2.2.1
theorem ToRemote_spec (hs : sat h (old h0 :: R)) (ht : TP h0) {r : RuleT} {n : ByteArray} (hz : szR r) (hn : n.size ≤ bigB) {Q : Value → Heap → Prop}
    (hq : ∀ h', sat h' (old h0 :: R) → Q (optV (toP r n)) h') : HCalls Tryz.prog 56 #[vR r, .string n] h Q := by
  refine remap_Rule_ToRemote_calls r n h Q ?_
  unfold remap_Rule_ToRemote
  unfold toP at hq
  refine new_cells hs fun x1 h1 hs1 => ?_
  refine ⟨r.2.1, by rw [add_own]; exact hs1.cell 1, ?_⟩
  (try dsimp only); rw [HM.ite_apply]
  by_cases hd : r.2.1 = 1
  · rw [if_pos hd] at hq
    rw [if_pos (by simpa using hd)]
    exact hq _ hs1.drop
  rw [if_neg hd] at hq
  rw [if_neg (by simpa using hd)]
  refine loadN_cells (ts := [.str, .int .i64, .int .i64, .str, .str]) r hs1 rfl ?_
  refine ⟨r.2.2.2.1, by rw [add_own]; exact hs1.cell 3, r.2.2.2.2.1, by rw [add_own]; exact hs1.cell 4, ?_⟩
  refine bind_callN (turned_spec hs1.p1 ht hz hn (fun hc => (chk_ok hc).rm) fun h2 hs2 => ?_)
  have := hq h2 hs2.p1.drop
  cases ht2 : turnP r n r.2.2.2.1 r.2.2.2.2.1 with
  | none => rw [ht2] at this; exact ⟨(ByteArray.mk #[], false, ()), rfl, this⟩
  | some t => rw [ht2] at this; exact ⟨(t, true, ()), rfl, this⟩

abbrev encRu (r : RuleT) : List Value := [.string r.1, .int .i64 r.2.1, .int .i64 r.2.2.1, .string r.2.2.2.1, .string r.2.2.2.2.1]
theorem eRu_len : ∀ x : RuleT, (encRu x).length = 5 := fun _ => rfl
theorem eRu_cell : ∀ x : RuleT, ∀ v ∈ encRu x, v.oneCell' = true := fun x v hv => by
  simp only [encRu, List.mem_cons, List.not_mem_nil, or_false] at hv
  rcases hv with rfl | rfl | rfl | rfl | rfl <;> rfl
abbrev HopT := Int × ByteArray × Int × Unit
abbrev encHo (x : HopT) : List Value := [.int .i64 x.1, .string x.2.1, .int .i64 x.2.2.1]
theorem eHo_len : ∀ x : HopT, (encHo x).length = 3 := fun _ => rfl
theorem eHo_cell : ∀ x : HopT, ∀ v ∈ encHo x, v.oneCell' = true := fun x v hv => by
  simp only [encHo, List.mem_cons, List.not_mem_nil, or_false] at hv
  rcases hv with rfl | rfl | rfl <;> rfl
def hopP (n : ByteArray) (q : Int) (i : Nat) (r : RuleT) : List HopT := match toP r n with
  | some t => [((i : Int), t, (if r.2.2.1 < q then r.2.2.1 else q), ())]
  | none => []
/-- the ways that rules send a topic -/
def routeP (n : ByteArray) (q : Int) : Nat → List RuleT → List HopT
  | _, [] => []
  | i, r :: rs => hopP n q i r ++ routeP n q (i + 1) rs
theorem hopP_len (n : ByteArray) (q : Int) (i : Nat) (r : RuleT) : (hopP n q i r).length ≤ 1 := by unfold hopP; split <;> simp

theorem load_Ru {a : Addr} {r : RuleT} (ha : ∀ j v, (encRu r)[j]? = some v → cellH h (a.add j) = some v) {Q : RuleT → Heap → Prop} (hq : Q r h) : HM.loadN [.str, .int .i64, .int .i64, .str, .str] a h Q :=
  loadN_of (ts := [.str, .int .i64, .int .i64, .str, .str]) r (fun i v hv => ha i v hv) hq

theorem rmRoute_spec {s : Slc} {rs : List RuleT} {n : ByteArray} {q : Int} (hs : sat h (ownS encRu 5 s rs :: old h0 :: R)) (ht : TP h0) (hz : ∀ r ∈ rs, szR r) (hn : n.size ≤ bigB) (hl : rs.length ≤ 1000) {Q : Value → Heap → Prop}
    (hq : ∀ h' S, sat h' (ownS encHo 3 S (routeP n q 0 rs) :: ownS encRu 5 s rs :: old h0 :: R) → Q (.slice S.a S.len S.cap) h') : HCalls Tryz.prog 28 #[.slice s.a s.len s.cap, .string n, .int .i64 q] h Q := by
  refine remap_Route_calls s n q h Q ?_
  unfold remap_Route
  have hsl := hs.own_len
  (try dsimp only); rw [HM.bind_apply]
  refine loop_gx (γ := Nat × List HopT) (hb := fun s => by
      repeat' with_reducible first
        | refine @mono_bind _ _ _ _ ?_ (fun _ => ?_)
        | refine @mono_ite _ _ _ _ ?_ ?_
      all_goals infer_instance)
    (fun g c h' => c.2.1 = (((rs.length - g.1 : Nat)) : Int) ∧ g.1 ≤ rs.length ∧ routeP n q 0 rs = g.2 ++ routeP n q (rs.length - g.1) (rs.drop (rs.length - g.1)) ∧ g.2.length ≤ rs.length - g.1 ∧ sat h' (ownS encHo 3 c.1 g.2 :: ownS encRu 5 s rs :: old h0 :: R)) (fun g => g.1) (rs.length, [])
    ⟨by simp, Nat.le_refl _, by simp, by simp, ownS_nil hs⟩ ?_
  rintro ⟨g, done⟩ ⟨out, c, ⟨⟩⟩ h1 ⟨hc, hg, he, hdl, hs1⟩
  simp only at hc hg he hdl hs1
  subst hc
  (try dsimp only); rw [HM.ite_apply]
  by_cases hi : rs.length - g < rs.length
  rotate_left
  · rw [if_neg (by simp only [decide_eq_true_eq, hsl]; omega)]
    simp only [Sum.elim_inl, Sum.elim_inr, HM.pure_apply]
    rw [show rs.drop (rs.length - g) = [] by simp; omega] at he
    have e : routeP n q 0 rs = done := by rw [he]; simp [routeP]
    refine hq h1 out ?_
    rw [e]
    exact hs1
  rw [if_pos (by simp only [decide_eq_true_eq, hsl]; omega)]
  obtain ⟨r, hr⟩ : ∃ r, rs[rs.length - g]? = some r := ⟨_, List.getElem?_eq_getElem hi⟩
  rw [drop_at hr, routeP] at he
  (try dsimp only); rw [HM.bind_apply]
  refine idx_row (hs1.p1.own_row eRu_len) hr fun p hp => ?_
  (try dsimp only); rw [HM.bind_apply]
  refine load_Ru hp ?_
  refine new_cells hs1 fun x5 h2 hs2' => ?_
  (try dsimp only); rw [HM.bind_apply]
  refine storeN_all' hs2' rfl rfl fun h3 hs3 => ?_
  refine loadN_cells (ts := [.str, .int .i64, .int .i64, .str, .str]) r hs3 rfl ?_
  refine bind_callN (ToRemote_spec hs3.p3 ht (hz r (List.mem_of_getElem? hr)) hn fun h4 hs4' => ?_)
  have hs4 := hs4'.re [1, 2, 3, 0]
  have hw : IntKind.wrap .i64 ((((rs.length - g : Nat)) : Int) + 1) = ((rs.length - (g - 1) : Nat) : Int) := by rw [wrap_id (by omega) (by omega)]; omega
  have hstep : rs.length - g + 1 = rs.length - (g - 1) := by omega
  rw [hstep] at he
  unfold hopP at he
  cases hto : toP r n with
  | none =>
    rw [hto] at he
    refine ⟨(ByteArray.mk #[], false, ()), rfl, ?_⟩
    (try dsimp only); rw [HM.bind_apply, HM.ite_apply, if_neg (by simp)]
    simp only [Sum.elim_inl, Sum.elim_inr, HM.pure_apply]
    exact .mk (g - 1, done) (by simp only; omega) ⟨hw, by simp only; omega, by simp only; rw [he]; simp, by simp only; omega, hs4.drop⟩
  | some t =>
    rw [hto] at he
    refine ⟨(t, true, ()), rfl, ?_⟩
    (try dsimp only); rw [HM.bind_apply, HM.ite_apply, if_pos rfl]
    refine ⟨r.2.2.1, by rw [add_own]; exact hs4.cell 2, ?_⟩
    refine new_cells hs4 fun y h5 hs5 => ?_
    (try dsimp only); rw [HM.bind_apply]
    refine append_own (enc := encHo) (ys := [(((rs.length - g : Nat) : Int), t, (if r.2.2.1 < q then r.2.2.1 else q), ())]) eHo_len eHo_cell rfl (hs5.p2) rfl ?_ (by decide) (by decide) (by omega) fun s' h6 hs6 => ?_
    · simp only [srcSlc, Nat.one_mul, List.flatMap_cons, List.flatMap_nil, List.append_nil]
      exact hs5.reads rfl
    simp only [Sum.elim_inl, Sum.elim_inr, HM.pure_apply]
    exact .mk (g - 1, done ++ [(((rs.length - g : Nat) : Int), t, (if r.2.2.1 < q then r.2.2.1 else q), ())]) (by simp only; omega) ⟨hw, by simp only; omega, by simp only; rw [he]; simp, by simp only [List.length_append, List.length_cons, List.length_nil]; omega, (hs6.re [1, 2, 0, 3, 4]).drop.drop⟩

end Go.Proofs.YtfhalebbcbgbdaaGreatDoor
