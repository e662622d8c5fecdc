/-
  Q5: what the proof BridgePlaysProof reaches of our texts: Crte, Crfr, Cofm, Hdel, Cofa, Hx, Ctag, Kitoa, Kjoin, Ctxt, Cdel, Cbrg, Cbra, Kwrt, Cwrt, Cvar, Cptx, Cbld, Cptp, Cidu, Crpp, Cinf, Cwrp, Cpub, Cbrs, Cbrl, Cbrw, Crpo, Crof.
-/
import Derived.Test.YtfhalebbcbgbdaaGreatDoorQ4
import Derived.Test.YtfhalebbcbgbdaaGreatDoorProg
import Derived.KernelRfl
import Derived.Shelf.Strconv.Itoa4
import Derived.Shelf.Strings.OnBuilder
import Derived.Shelf.Strings.Builder1
namespace Go.Proofs.YtfhalebbcbgbdaaGreatDoor
open Go.H Go.Proofs Go.Lib
set_option linter.unusedSimpArgs false
set_option linter.unusedVariables false
set_option synthInstance.maxSize 100000
set_option synthInstance.maxHeartbeats 400000
set_option maxRecDepth 100000
variable {h h0 : Heap} {R : List Asn}
def hasP (s p : ByteArray) : Bool := decide (p.size ≤ s.size) && decide (s.extract 0 p.size = p)
def restP (s p : ByteArray) : ByteArray := s.extract p.size s.size
theorem restP_size {s p : ByteArray} : (restP s p).size ≤ s.size := by unfold restP; rw [ByteArray.size_extract]; omega
theorem HasPrefix_spec {s p : ByteArray} {Q : Value → Heap → Prop} (hq : Q (.bool (hasP s p)) h) : HCalls Tryz.prog 209 #[.string s, .string p] h Q := by
  refine stringslite_HasPrefix_calls s p h Q ?_
  unfold stringslite_HasPrefix
  refine bind_cut (fun z h' => h' = h ∧ z.1 = hasP s p) ?_ ?_
  · unfold hasP
    (try dsimp only); rw [HM.ite_apply]
    by_cases hle : p.size ≤ s.size
    · rw [if_pos (by simp only [decide_eq_true_eq]; omega)]
      refine ⟨0, p.size, ⟨rfl, hle⟩, rfl, rfl, ?_⟩
      simp [hle]
    · rw [if_neg (by simp only [decide_eq_true_eq]; omega)]
      exact ⟨rfl, by simp [hle]⟩
  rintro ⟨z, ⟨⟩⟩ h1 ⟨rfl, hz⟩
  simp only at hz
  subst hz
  exact hq
theorem CutPrefix_spec {s p : ByteArray} {Q : Value → Heap → Prop} (hq : Q (.tuple #[.string (if hasP s p = true then restP s p else s), .bool (hasP s p)]) h) : HCalls Tryz.prog 141 #[.string s, .string p] h Q := by
  refine strings_CutPrefix_calls s p h Q ?_
  unfold strings_CutPrefix
  refine bind_callN ?_
  refine stringslite_CutPrefix_calls s p h _ ?_
  unfold stringslite_CutPrefix
  refine bind_call1 (HasPrefix_spec ⟨_, rfl, ?_⟩)
  (try dsimp only); rw [HM.ite_apply]
  cases hp : hasP s p with
  | false =>
    rw [hp, if_neg (by simp)] at hq
    rw [if_pos (by rfl)]
    exact ⟨(s, false, ()), rfl, hq⟩
  | true =>
    rw [hp, if_pos rfl] at hq
    rw [if_neg (by simp)]
    have hle : p.size ≤ s.size := by
      unfold hasP at hp
      simp only [Bool.and_eq_true, decide_eq_true_eq] at hp
      exact hp.1
    refine ⟨p.size, s.size, rfl, ⟨rfl, hle⟩, ?_⟩
    exact ⟨(restP s p, true, ()), rfl, hq⟩
def turnP (r : RuleT) (n fr to : ByteArray) : Option ByteArray :=
  if hasP n fr = true ∧ chkR r = 0 ∧ matchB r.1 (restP n fr) = true ∧ nameOK n = true ∧ nameOK (to ++ restP n fr) = true then some (to ++ restP n fr) else none
def optV (o : Option ByteArray) : Value := match o with
  | some t => .tuple #[.string t, .bool true]
  | none => .tuple #[.string (ByteArray.mk #[]), .bool false]
theorem turned_spec (hs : sat h (old h0 :: R)) (ht : TP h0) {r : RuleT} {n fr to : ByteArray} (hz : szR r) (hn : n.size ≤ bigB) (hto : chkR r = 0 → to.size ≤ 256) {Q : Value → Heap → Prop}
    (hq : ∀ h', sat h' (old h0 :: R) → Q (optV (turnP r n fr to)) h') : HCalls Tryz.prog 97 #[vR r, .string n, .string fr, .string to] h Q := by
  refine remap_Rule_turned_calls r n fr to h Q ?_
  unfold remap_Rule_turned
  refine new_cells hs fun x1 h1 hs1 => ?_
  refine bind_callN (CutPrefix_spec ⟨((if hasP n fr = true then restP n fr else n), hasP n fr, ()), rfl, ?_⟩)
  refine bind_cut (fun z h' => z.1 = (turnP r n fr to).isNone ∧ sat h' (old h0 :: R) ∧ (turnP r n fr to ≠ none → to.size ≤ 256 ∧ n.size ≤ 256)) ?_ ?_
  · (try dsimp only); rw [HM.ite_apply]
    cases hp : hasP n fr with
    | false =>
      rw [if_pos (by rfl)]
      have e : turnP r n fr to = none := by unfold turnP; rw [if_neg (fun e => by rw [hp] at e; exact absurd e.1 (by simp))]
      rw [e]
      exact ⟨rfl, hs1.drop, fun e => absurd rfl e⟩
    | true =>
    rw [if_neg (by simp), if_pos rfl]
    have hrs := restP_size (s := n) (p := fr)
    refine loadN_cells (ts := [.str, .int .i64, .int .i64, .str, .str]) r hs1 rfl ?_
    refine bind_call1 (Check_spec hs1.p1 ht hz fun h2 hs2' => ⟨_, rfl, ?_⟩)
    have hs2 := hs2'.p1
    (try dsimp only); rw [HM.ite_apply]
    by_cases hc : chkR r = 0
    rotate_left
    · rw [if_pos (by simpa using hc)]
      have e : turnP r n fr to = none := by unfold turnP; rw [if_neg (fun e => hc e.2.1)]
      rw [e]
      exact ⟨rfl, hs2.drop, fun e => absurd rfl e⟩
    rw [if_neg (by simpa using hc)]
    refine ⟨r.1, by rw [add_own]; exact hs2.cell 0, ?_⟩
    have hr1 : r.1.size ≤ 9223372036854775807 := Nat.le_trans hz.1 (by decide)
    have hn1 : (restP n fr).size ≤ 9223372036854775807 := Nat.le_trans hrs (Nat.le_trans hn (by decide))
    refine bind_call1 (Match_spec hs2.p1 ht hr1 hn1 fun h3 hs3 => ⟨_, rfl, ?_⟩)
    (try dsimp only); rw [HM.ite_apply]
    cases hm : matchB r.1 (restP n fr) with
    | false =>
      rw [if_pos (by rfl)]
      have e : turnP r n fr to = none := by unfold turnP; rw [if_neg (fun e => by rw [hm] at e; exact absurd e.2.2.1 (by simp))]
      rw [e]
      exact ⟨rfl, hs3.p1.drop, fun e => absurd rfl e⟩
    | true =>
    rw [if_neg (by simp)]
    refine bind_call1 (CheckName_spec hs3 ht (Nat.le_trans hn (by decide)) fun h4 hs4 => ⟨_, rfl, ?_⟩)
    (try dsimp only); rw [HM.ite_apply]
    cases hnm : nameOK n with
    | false =>
      rw [if_pos (by simp [nameC, hnm])]
      have e : turnP r n fr to = none := by unfold turnP; rw [if_neg (fun e => by rw [hnm] at e; exact absurd e.2.2.2.1 (by simp))]
      rw [e]
      exact ⟨rfl, hs4.p1.drop, fun e => absurd rfl e⟩
    | true =>
    rw [if_neg (by simp [nameC, hnm])]
    have hn256 : n.size ≤ 256 := sizedT_le (nameOK_sized hnm)
    have hto2 := hto hc
    refine ⟨by omega, ?_⟩
    refine bind_call1 (CheckName_spec hs4 ht (by rw [ByteArray.size_append]; omega) fun h5 hs5 => ⟨_, rfl, ?_⟩)
    have e : turnP r n fr to = if nameOK (to ++ restP n fr) = true then some (to ++ restP n fr) else none := by
      unfold turnP
      by_cases hx : nameOK (to ++ restP n fr) = true
      · rw [if_pos ⟨hp, hc, hm, hnm, hx⟩, if_pos hx]
      · rw [if_neg (fun e => hx e.2.2.2.2), if_neg hx]
    refine ⟨?_, hs5.p1.drop, fun _ => ⟨hto2, hn256⟩⟩
    rw [e]
    unfold nameC
    cases nameOK (to ++ restP n fr) <;> rfl
  rintro ⟨z, ⟨⟩⟩ h2 ⟨hzz, hs2, hsm⟩
  simp only at hzz
  subst hzz
  (try dsimp only); rw [HM.ite_apply]
  cases ht2 : turnP r n fr to with
  | none =>
    rw [if_pos (by rfl)]
    rw [ht2] at hq
    exact hq _ hs2
  | some t =>
    rw [if_neg (by simp)]
    rw [ht2] at hq hsm
    obtain ⟨h6, h7⟩ := hsm (by simp)
    have hp : hasP n fr = true ∧ t = to ++ restP n fr := by
      unfold turnP at ht2
      split at ht2
      · rename_i hc
        cases ht2
        exact ⟨hc.1, rfl⟩
      · cases ht2
    rw [if_pos hp.1]
    have hrs := restP_size (s := n) (p := fr)
    refine ⟨by omega, ?_⟩
    rw [hp.2] at hq
    exact hq _ hs2
def toP (r : RuleT) (n : ByteArray) : Option ByteArray := if r.2.1 = 1 then none else turnP r n r.2.2.2.1 r.2.2.2.2.1
theorem ToRemote_spec (hs : sat h (old h0 :: R)) (ht : TP h0) {r : RuleT} {n : ByteArray} (hz : szR r) (hn : n.size ≤ bigB) {Q : Value → Heap → Prop}
    (hq : ∀ h', sat h' (old h0 :: R) → Q (optV (toP r n)) h') : HCalls Tryz.prog 56 #[vR r, .string n] h Q := by
  refine remap_Rule_ToRemote_calls r n h Q ?_
  unfold remap_Rule_ToRemote
  unfold toP at hq
  refine new_cells hs fun x1 h1 hs1 => ?_
  refine ⟨r.2.1, by rw [add_own]; exact hs1.cell 1, ?_⟩
  (try dsimp only); rw [HM.ite_apply]
  by_cases hd : r.2.1 = 1
  · rw [if_pos hd] at hq
    rw [if_pos (by simpa using hd)]
    exact hq _ hs1.drop
  rw [if_neg hd] at hq
  rw [if_neg (by simpa using hd)]
  refine loadN_cells (ts := [.str, .int .i64, .int .i64, .str, .str]) r hs1 rfl ?_
  refine ⟨r.2.2.2.1, by rw [add_own]; exact hs1.cell 3, r.2.2.2.2.1, by rw [add_own]; exact hs1.cell 4, ?_⟩
  refine bind_callN (turned_spec hs1.p1 ht hz hn (fun hc => (chk_ok hc).rm) fun h2 hs2 => ?_)
  have := hq h2 hs2.p1.drop
  cases ht2 : turnP r n r.2.2.2.1 r.2.2.2.2.1 with
  | none => rw [ht2] at this; exact ⟨(ByteArray.mk #[], false, ()), rfl, this⟩
  | some t => rw [ht2] at this; exact ⟨(t, true, ()), rfl, this⟩
abbrev encRu (r : RuleT) : List Value := [.string r.1, .int .i64 r.2.1, .int .i64 r.2.2.1, .string r.2.2.2.1, .string r.2.2.2.2.1]
theorem eRu_len : ∀ x : RuleT, (encRu x).length = 5 := fun _ => rfl
theorem eRu_cell : ∀ x : RuleT, ∀ v ∈ encRu x, v.oneCell' = true := fun x v hv => by
  simp only [encRu, List.mem_cons, List.not_mem_nil, or_false] at hv
  rcases hv with rfl | rfl | rfl | rfl | rfl <;> rfl
abbrev HopT := Int × ByteArray × Int × Unit
abbrev encHo (x : HopT) : List Value := [.int .i64 x.1, .string x.2.1, .int .i64 x.2.2.1]
theorem eHo_len : ∀ x : HopT, (encHo x).length = 3 := fun _ => rfl
theorem eHo_cell : ∀ x : HopT, ∀ v ∈ encHo x, v.oneCell' = true := fun x v hv => by
  simp only [encHo, List.mem_cons, List.not_mem_nil, or_false] at hv
  rcases hv with rfl | rfl | rfl <;> rfl
def hopP (n : ByteArray) (q : Int) (i : Nat) (r : RuleT) : List HopT := match toP r n with
  | some t => [((i : Int), t, (if r.2.2.1 < q then r.2.2.1 else q), ())]
  | none => []
def routeP (n : ByteArray) (q : Int) : Nat → List RuleT → List HopT
  | _, [] => []
  | i, r :: rs => hopP n q i r ++ routeP n q (i + 1) rs
theorem hopP_len (n : ByteArray) (q : Int) (i : Nat) (r : RuleT) : (hopP n q i r).length ≤ 1 := by unfold hopP; split <;> simp
theorem load_Ru {a : Addr} {r : RuleT} (ha : ∀ j v, (encRu r)[j]? = some v → cellH h (a.add j) = some v) {Q : RuleT → Heap → Prop} (hq : Q r h) : HM.loadN [.str, .int .i64, .int .i64, .str, .str] a h Q :=
  loadN_of (ts := [.str, .int .i64, .int .i64, .str, .str]) r (fun i v hv => ha i v hv) hq
theorem rmRoute_spec {s : Slc} {rs : List RuleT} {n : ByteArray} {q : Int} (hs : sat h (ownS encRu 5 s rs :: old h0 :: R)) (ht : TP h0) (hz : ∀ r ∈ rs, szR r) (hn : n.size ≤ bigB) (hl : rs.length ≤ 1000) {Q : Value → Heap → Prop}
    (hq : ∀ h' S, sat h' (ownS encHo 3 S (routeP n q 0 rs) :: ownS encRu 5 s rs :: old h0 :: R) → Q (.slice S.a S.len S.cap) h') : HCalls Tryz.prog 28 #[.slice s.a s.len s.cap, .string n, .int .i64 q] h Q := by
  refine remap_Route_calls s n q h Q ?_
  unfold remap_Route
  have hsl := hs.own_len
  (try dsimp only); rw [HM.bind_apply]
  refine loop_gx (γ := Nat × List HopT) (hb := fun s => by
      repeat' with_reducible first
        | refine @mono_bind _ _ _ _ ?_ (fun _ => ?_)
        | refine @mono_ite _ _ _ _ ?_ ?_
      all_goals infer_instance)
    (fun g c h' => c.2.1 = (((rs.length - g.1 : Nat)) : Int) ∧ g.1 ≤ rs.length ∧ routeP n q 0 rs = g.2 ++ routeP n q (rs.length - g.1) (rs.drop (rs.length - g.1)) ∧ g.2.length ≤ rs.length - g.1 ∧ sat h' (ownS encHo 3 c.1 g.2 :: ownS encRu 5 s rs :: old h0 :: R)) (fun g => g.1) (rs.length, [])
    ⟨by simp, Nat.le_refl _, by simp, by simp, ownS_nil hs⟩ ?_
  rintro ⟨g, done⟩ ⟨out, c, ⟨⟩⟩ h1 ⟨hc, hg, he, hdl, hs1⟩
  simp only at hc hg he hdl hs1
  subst hc
  (try dsimp only); rw [HM.ite_apply]
  by_cases hi : rs.length - g < rs.length
  rotate_left
  · rw [if_neg (by simp only [decide_eq_true_eq, hsl]; omega)]
    simp only [Sum.elim_inl, Sum.elim_inr, HM.pure_apply]
    rw [show rs.drop (rs.length - g) = [] by simp; omega] at he
    have e : routeP n q 0 rs = done := by rw [he]; simp [routeP]
    refine hq h1 out ?_
    rw [e]
    exact hs1
  rw [if_pos (by simp only [decide_eq_true_eq, hsl]; omega)]
  obtain ⟨r, hr⟩ : ∃ r, rs[rs.length - g]? = some r := ⟨_, List.getElem?_eq_getElem hi⟩
  rw [drop_at hr, routeP] at he
  (try dsimp only); rw [HM.bind_apply]
  refine idx_row (hs1.p1.own_row eRu_len) hr fun p hp => ?_
  (try dsimp only); rw [HM.bind_apply]
  refine load_Ru hp ?_
  refine new_cells hs1 fun x5 h2 hs2' => ?_
  (try dsimp only); rw [HM.bind_apply]
  refine storeN_all' hs2' rfl rfl fun h3 hs3 => ?_
  refine loadN_cells (ts := [.str, .int .i64, .int .i64, .str, .str]) r hs3 rfl ?_
  refine bind_callN (ToRemote_spec hs3.p3 ht (hz r (List.mem_of_getElem? hr)) hn fun h4 hs4' => ?_)
  have hs4 := hs4'.re [1, 2, 3, 0]
  have hw : IntKind.wrap .i64 ((((rs.length - g : Nat)) : Int) + 1) = ((rs.length - (g - 1) : Nat) : Int) := by rw [wrap_id (by omega) (by omega)]; omega
  have hstep : rs.length - g + 1 = rs.length - (g - 1) := by omega
  rw [hstep] at he
  unfold hopP at he
  cases hto : toP r n with
  | none =>
    rw [hto] at he
    refine ⟨(ByteArray.mk #[], false, ()), rfl, ?_⟩
    (try dsimp only); rw [HM.bind_apply, HM.ite_apply, if_neg (by simp)]
    simp only [Sum.elim_inl, Sum.elim_inr, HM.pure_apply]
    exact .mk (g - 1, done) (by simp only; omega) ⟨hw, by simp only; omega, by simp only; rw [he]; simp, by simp only; omega, hs4.drop⟩
  | some t =>
    rw [hto] at he
    refine ⟨(t, true, ()), rfl, ?_⟩
    (try dsimp only); rw [HM.bind_apply, HM.ite_apply, if_pos rfl]
    refine ⟨r.2.2.1, by rw [add_own]; exact hs4.cell 2, ?_⟩
    refine new_cells hs4 fun y h5 hs5 => ?_
    (try dsimp only); rw [HM.bind_apply]
    refine append_own (enc := encHo) (ys := [(((rs.length - g : Nat) : Int), t, (if r.2.2.1 < q then r.2.2.1 else q), ())]) eHo_len eHo_cell rfl (hs5.p2) rfl ?_ (by decide) (by decide) (by omega) fun s' h6 hs6 => ?_
    · simp only [srcSlc, Nat.one_mul, List.flatMap_cons, List.flatMap_nil, List.append_nil]
      exact hs5.reads rfl
    simp only [Sum.elim_inl, Sum.elim_inr, HM.pure_apply]
    exact .mk (g - 1, done ++ [(((rs.length - g : Nat) : Int), t, (if r.2.2.1 < q then r.2.2.1 else q), ())]) (by simp only; omega) ⟨hw, by simp only; omega, by simp only; rw [he]; simp, by simp only [List.length_append, List.length_cons, List.length_nil]; omega, (hs6.re [1, 2, 0, 3, 4]).drop.drop⟩
end Go.Proofs.YtfhalebbcbgbdaaGreatDoor
namespace Go.Proofs.YtfhalebbcbgbdaaGreatDoor
open Go.H Go.Proofs
set_option linter.unusedSimpArgs false
set_option linter.unusedVariables false
set_option maxRecDepth 100000
variable {h0 : Heap} {L L' : List Asn} {Q : Value → Heap → Prop}
instance : Enc encRu 5 := ⟨eRu_len, eRu_cell, by decide⟩
instance : Enc encHo 3 := ⟨eHo_len, eHo_cell, by decide⟩
theorem rjoined_w {r : RuleT} {n fr to : ByteArray} (hz : szR r) (hn : n.size ≤ 1048576) (hto : chkR r = 0 → to.size ≤ 256) (hq : At L (Q (optV (turnP r n fr to)))) :
    FW Tryz.prog 114 #[vR r, .string n, .string fr, .string to] L Q := by
  refine fun h hs => ref10_joined_calls r n fr to h Q ((?_ : W L _ _) h hs)
  clear hs h
  unfold ref10_joined
  refine W.newc fun x1 => W.loadN (W.call1 fun h hs => rCheck_spec (r := r) hs hz (At.un ?_))
  refine W.cutp (fun z => z.1 = !(decide (chkR r = 0) && hasP n fr)) (fun _ => cells x1 (encRu r).toArray :: L) (fun K hK => ?_) (fun z hz1 => ?_)
  · refine W.ite (fun hb => W.pure ((hK _ ?_).sub)) (fun hb => W.ite (fun hb2 => W.pure ((hK _ ?_).sub)) (fun hb2 => ?_))
    · simp only [Bool.not_eq_true', beq_eq_false_iff_ne] at hb
      simp [hb]
    · have : hasP n fr = false := by simp only [hasP, Bool.and_eq_false_iff, decide_eq_false_iff_not]; left; simp only [decide_eq_true_eq] at hb2; omega
      simp [this]
    · simp only [Bool.not_eq_false', beq_iff_eq] at hb
      simp only [decide_eq_false_iff_not] at hb2
      have hle : fr.size ≤ n.size := by omega
      intro h hs
      refine ⟨0, fr.size, ⟨Eq.refl _, hle⟩, Eq.refl _, ?_⟩
      refine (show At _ _ from (hK _ ?_).sub) h hs
      simp [hb, hasP, hle]
  · refine W.ite (fun hb => ?_) (fun hb => ?_)
    · have e : turnP r n fr to = none := by
        unfold turnP
        rw [if_neg]
        rintro ⟨h1, h2, -⟩
        rw [hz1, h1, h2] at hb
        simp at hb
      rw [e] at hq
      replace hq : At L (Q (.tuple #[.string (ByteArray.mk #[]), .bool false])) := hq
      exact W.pure hq.sub
    · have h12 : chkR r = 0 ∧ hasP n fr = true := by
        rw [hz1] at hb; simpa using hb
      obtain ⟨h1, h2⟩ := h12
      have hle : fr.size ≤ n.size := by simp only [hasP, Bool.and_eq_true, decide_eq_true_eq] at h2; exact h2.1
      have hto' := hto h1
      have hrs : (restP n fr).size ≤ n.size := restP_size
      intro h hs
      refine ⟨fr.size, n.size, rfl, ⟨rfl, hle⟩, (?_ : W (cells x1 (encRu r).toArray :: L) _ _) h hs⟩
      clear hs h
      have hsz : (to ++ restP n fr).size ≤ 9223372036854775800 := by rw [ByteArray.size_append]; omega
      have hreq : to.size + (restP n fr).size ≤ 9223372036854775807 := by omega
      have hnz : n.size ≤ 9223372036854775800 := Nat.le_trans hn (by decide)
      refine W.load (W.call1 fun h hs => rMatch_spec (f := r.1) (n := restP n fr) hs hz.1 (Nat.le_trans hrs hnz) (At.un ?_))
      refine W.call1 fun h hs => rCheckName_spec hs hnz (At.un (W.req ?_ hreq))
      refine W.call1 fun h hs => rCheckName_spec (s := to ++ restP n fr) hs hsz (At.un ?_)
      cases hm : matchB r.1 (restP n fr) with
      | false =>
        have e : turnP r n fr to = none := by unfold turnP; rw [if_neg (fun e => by rw [hm] at e; exact absurd e.2.2.1 (by simp))]
        rw [e] at hq
        replace hq : At L (Q (.tuple #[.string (ByteArray.mk #[]), .bool false])) := hq
        exact W.bt rfl (W.bpure (W.tt rfl (W.pure hq.sub)))
      | true =>
      refine W.bf rfl ?_
      cases hnm : nameOK n with
      | false =>
        have e : turnP r n fr to = none := by unfold turnP; rw [if_neg (fun e => by rw [hnm] at e; exact absurd e.2.2.2.1 (by simp))]
        rw [e] at hq
        replace hq : At L (Q (.tuple #[.string (ByteArray.mk #[]), .bool false])) := hq
        exact W.bt (by simp [nameC, hnm]) (W.bpure (W.tt rfl (W.pure hq.sub)))
      | true =>
      refine W.bf (by simp [nameC, hnm]) (W.bpure ?_)
      cases hnt : nameOK (to ++ restP n fr) with
      | false =>
        have e : turnP r n fr to = none := by unfold turnP; rw [if_neg (fun e => by rw [hnt] at e; exact absurd e.2.2.2.2 (by simp))]
        rw [e] at hq
        replace hq : At L (Q (.tuple #[.string (ByteArray.mk #[]), .bool false])) := hq
        exact W.tt (by simp [nameC, hnt]) (W.pure hq.sub)
      | true =>
        have e : turnP r n fr to = some (to ++ restP n fr) := by unfold turnP; rw [if_pos ⟨h2, h1, hm, hnm, hnt⟩]
        rw [e] at hq
        replace hq : At L (Q (.tuple #[.string (to ++ restP n fr), .bool true])) := hq
        exact W.ff (by simp [nameC, hnt]) (W.req (W.pure hq.sub) hreq)
theorem rToRemote_w {r : RuleT} {n : ByteArray} (hz : szR r) (hn : n.size ≤ 1048576) (hq : At L (Q (optV (toP r n)))) :
    FW Tryz.prog 73 #[vR r, .string n] L Q := by
  refine fun h hs => ref10_ToRemote_calls r n h Q ((?_ : W L _ _) h hs)
  clear hs h
  unfold ref10_ToRemote
  refine W.newc fun x1 => ?_
  unfold toP at hq
  refine W.cutp (fun z => z.1 = decide (r.2.1 ≠ 0 ∧ r.2.1 ≠ 2)) (fun _ => cells x1 (encRu r).toArray :: L) (fun K hK => ?_) (fun z hz1 => ?_)
  · refine W.load (W.ite (fun hb => W.load (W.pure ((hK _ ?_).sub))) (fun hb => W.pure ((hK _ ?_).sub)))
    · simp only [Bool.not_eq_true', beq_eq_false_iff_ne] at hb
      simp only [hb, ne_eq, not_false_eq_true, true_and]
      by_cases e : r.2.1 = 2 <;> simp [e]
    · simp only [Bool.not_eq_false', beq_iff_eq] at hb
      simp [hb]
  · refine W.ite (fun hb => ?_) (fun hb => ?_)
    · have e : toP r n = none := by
        unfold toP
        split
        · rfl
        · rw [hz1] at hb
          simp only [decide_eq_true_eq] at hb
          unfold turnP
          rw [if_neg]
          rintro ⟨-, h2, -⟩
          have h3 : ¬ (r.2.1 < 0 ∨ 2 < r.2.1) := by
            unfold chkR at h2
            intro h4
            rw [if_pos h4] at h2
            split at h2
            · cases h2
            · split at h2 <;> cases h2
          omega
      unfold toP at e
      rw [e] at hq
      replace hq : At L (Q (.tuple #[.string (ByteArray.mk #[]), .bool false])) := hq
      exact W.pure hq.sub
    · have e1 : r.2.1 ≠ 1 := by
        rw [hz1] at hb
        simp only [decide_eq_false_iff_not] at hb
        omega
      rw [if_neg e1] at hq
      refine W.loadN (W.load (W.load (W.callN (rjoined_w (r := r) hz hn (fun hc => (chk_ok hc).rm) ?_))))
      cases ht2 : turnP r n r.2.2.2.1 r.2.2.2.2.1 with
      | none => rw [ht2] at hq; replace hq : At L (Q (.tuple #[.string (ByteArray.mk #[]), .bool false])) := hq; refine At.unN ?_; exact W.pure hq.sub
      | some t => rw [ht2] at hq; replace hq : At L (Q (.tuple #[.string t, .bool true])) := hq; refine At.unN ?_; exact W.pure hq.sub
theorem rless_w {a b : Int} (hq : At L (Q (.int .i64 (if a < b then a else b)))) : FW Tryz.prog 74 #[.int .i64 a, .int .i64 b] L Q := by
  refine fun h hs => ref10_less_calls a b h Q ((?_ : W L _ _) h hs)
  clear hs h
  unfold ref10_less
  refine W.ite (fun hb => W.pure ?_) (fun hb => W.pure ?_)
  · rw [if_pos (by simpa using hb)] at hq; exact hq
  · rw [if_neg (by simpa using hb)] at hq; exact hq
theorem routeP_snoc (n : ByteArray) (q : Int) (r : RuleT) : ∀ (rs : List RuleT) (i : Nat), routeP n q i (rs ++ [r]) = routeP n q i rs ++ hopP n q (i + rs.length) r
  | [], i => by simp [routeP]
  | x :: rs, i => by
    simp only [List.cons_append, routeP, List.append_assoc, List.length_cons]
    rw [routeP_snoc n q r rs (i + 1), show i + 1 + rs.length = i + (rs.length + 1) by omega]
theorem routeP_len (n : ByteArray) (q : Int) : ∀ (rs : List RuleT) (i : Nat), (routeP n q i rs).length ≤ rs.length
  | [], _ => Nat.le_refl _
  | r :: rs, i => by
    have h1 := hopP_len n q i r
    have h2 := routeP_len n q rs (i + 1)
    simp only [routeP, List.length_append, List.length_cons]
    omega
theorem rRoute_w {s : Slc} {rs : List RuleT} {n : ByteArray} {q : Int} (hz : ∀ r ∈ rs, szR r) (hn : n.size ≤ 1048576) (hl : rs.length ≤ 1000) (hq : ∀ S : Slc, At (ownS encHo 3 S (routeP n q 0 rs) :: ownS encRu 5 s rs :: L') (Q (.slice S.a S.len S.cap))) (hx : Has L (ownS encRu 5 s rs) L' := by repeat (first | with_reducible exact Go.H.has0 | apply Go.H.hasS)) :
    FW Tryz.prog 42 #[.slice s.a s.len s.cap, .string n, .int .i64 q] L Q := by
  refine fun h hs => ref10_Route_calls s n q h Q ((?_ : W (ownS encRu 5 s rs :: L') _ _) h (hx.s hs))
  clear hs h hx
  unfold ref10_Route
  refine W.fact own_len' fun hsl => W.nils encHo 3 ?_
  refine W.for rs.length (fun i x => x.2.1 = (i : Int)) (fun i x => ownS encHo 3 x.1 (routeP n q 0 (rs.take i)) :: ownS encRu 5 s rs :: L') rfl Sub.rfl (fun i x hi hI => by rw [hI, hsl]; exact decide_eq_decide.2 (by omega)) ?_ ?_
  · rintro ⟨out, _, ⟨⟩⟩ hI K hd
    rw [List.take_length]
    exact W.pure (hd _ _ (W.pure (hq out).sub))
  · rintro i ⟨out, _, ⟨⟩⟩ hlt hI K hnx hd
    simp only at hI
    subst hI
    have hy := List.getElem?_eq_getElem hlt
    have hzr := hz _ (List.getElem_mem hlt)
    have htk : routeP n q 0 (rs.take (i + 1)) = routeP n q 0 (rs.take i) ++ hopP n q i rs[i] := by
      rw [List.take_add_one, hy]
      show routeP n q 0 (rs.take i ++ [rs[i]]) = _
      rw [routeP_snoc, List.length_take, Nat.zero_add, Nat.min_eq_left (by omega)]
    have hb : (routeP n q 0 (rs.take i)).length ≤ 1000 := by
      have := routeP_len n q (rs.take i) 0
      rw [List.length_take] at this
      omega
    generalize rs[i] = r at hy hzr htk
    dsimp only
    rw [htk] at hnx
    unfold hopP at hnx
    refine W.idx hlt fun a ha => W.loadeN ha hy (W.callN (rToRemote_w (r := r) hzr hn ?_))
    cases ht : toP r n with
    | none =>
      rw [ht] at hnx
      rw [List.append_nil] at hnx
      refine At.unN ?_
      refine W.idx hlt fun a ha => W.loade ha hy ?_
      refine W.call1 (rless_w (At.un ?_))
      repeat (first | refine W.bpure ?_ | refine W.bbind ?_ | refine W.newc fun _ => ?_ | refine W.load ?_ | refine W.load0 ?_ | (refine W.loadN ?_; try dsimp only) | (refine W.loadNo ?_; try dsimp only) | refine W.storeN ?_ | refine W.store ?_ | refine W.store0 ?_ | refine W.req ?_ rfl | refine W.bt rfl ?_ | refine W.bf rfl ?_ | refine W.tt rfl ?_ | refine W.ff rfl ?_ | refine W.inl ?_ | refine W.inr ?_ | refine W.nonnil ?_ | refine W.bf (Go.H.nbq _) ?_ | refine W.ff (Go.H.nbq _) ?_ | refine W.bf (Go.H.nbd rfl) ?_ | refine W.ff (Go.H.nbd rfl) ?_)
      exact W.pure ((hnx (out, _, ()) (by simp only; rw [wrap_id (by omega) (by omega)]; rfl)).sub)
    | some t =>
      rw [ht] at hnx
      refine At.unN ?_
      refine W.idx hlt fun a ha => W.loade ha hy ?_
      refine W.call1 (rless_w (At.un ?_))
      refine W.bt rfl (W.bbind ?_)
      refine W.app1 (enc := encHo) (xs := routeP n q 0 (rs.take i)) ((i : Int), t, (if q < r.2.2.1 then q else r.2.2.1), ()) (fun s' => ?_) (by omega)
      have e : (if q < r.2.2.1 then q else r.2.2.1) = (if r.2.2.1 < q then r.2.2.1 else q) := by split <;> split <;> omega
      rw [e]
      exact W.bpure (W.pure ((hnx (s', _, ()) (by simp only; rw [wrap_id (by omega) (by omega)]; rfl)).sub))
end Go.Proofs.YtfhalebbcbgbdaaGreatDoor
namespace Go.Proofs.YtfhalebbcbgbdaaGreatDoor
open Go.H Go.Proofs
set_option linter.unusedSimpArgs false
set_option linter.unusedVariables false
set_option maxRecDepth 100000
variable {h : Heap} {R : List Asn}
theorem osend_spec {b : Nat} {o : OutS} {m : MsT} (hs : sat h (outA b o :: R)) (hok : FlowOK o) {Q : Value → Heap → Prop}
    (hq : ∀ S h', sat h' (outA b (sendF o m).1.1 :: pksA .u8 S (sendF o m).1.2 :: R) → Q (.tuple #[.slice S.a S.len S.cap, .int .u8 (sendF o m).2]) h') :
    HCalls Tryz.prog 51 #[at0 b, vMs m] h Q := by
  refine outflow_Flow_Send_calls (some ⟨b, 0, none⟩) (toU m) h Q ?_
  obtain ⟨pb, fl, wt, hs0⟩ := outA_iff.1 hs
  have hwl : wt.len = o.waiting.length := (hs0.re [3, 0, 1, 2]).own_len
  unfold outflow_Flow_Send
  refine new_cells hs0 fun mb h1 hs1' => ?_
  have hs1 : sat h1 (cells mb (encM m).toArray :: cells b #[at0 pb, .int .i64 o.most, .bool o.on, .slice fl.a fl.len fl.cap, .slice wt.a wt.len wt.cap] :: poolA pb o.pool :: ownS encF 7 fl o.flights :: ownS encM 5 wt o.waiting :: R) := hs1'
  clear hs1' hs0 hs
  have hM : cellH h1 ⟨mb, 2, none⟩ = some (.int .i64 m.2.2.1) := hs1.cell 2
  have stay : ∀ {c : Int}, sendF o m = ((o, []), c) → Q (.tuple #[.slice none 0 0, .int .u8 c]) h1 := fun {c} he => by
    have := hq ⟨none, 0, 0⟩ h1
    rw [he] at this
    exact this ((pks_nil (outA_iff.2 ⟨pb, fl, wt, hs1.drop⟩)).p1)
  (try dsimp only); rw [HM.ite_apply, if_neg (by simp)]
  refine cut (fun x h' => h' = h1 ∧ x.1 = decide (m.2.2.1 < 0 ∨ 2 < m.2.2.1)) ?_ ?_
  · intro K hK
    refine ⟨m.2.2.1, by rw [add_own]; exact hM, ?_⟩
    (try dsimp only); rw [HM.ite_apply]
    by_cases h0 : m.2.2.1 < 0
    · rw [if_pos (by simpa using h0)]
      exact hK _ _ ⟨rfl, by simp [h0]⟩
    · rw [if_neg (by simpa using h0)]
      exact ⟨m.2.2.1, by rw [add_own]; exact hM, hK _ _ ⟨rfl, by simp [h0]⟩⟩
  rintro ⟨x, ⟨⟩⟩ h2 ⟨rfl, hx⟩
  simp only at hx
  subst hx
  (try dsimp only); rw [HM.ite_apply]
  by_cases hbad : m.2.2.1 < 0 ∨ 2 < m.2.2.1
  · rw [if_pos (by simpa using hbad)]
    exact stay (by unfold sendF; rw [if_pos hbad])
  rw [if_neg (by simpa using hbad)]
  refine cut (fun x h' => h' = h2 ∧ x.1 = decide (m.2.2.1 = 0 ∧ o.on = false)) ?_ ?_
  · intro K hK
    refine ⟨m.2.2.1, by rw [add_own]; exact hM, ?_⟩
    (try dsimp only); rw [HM.ite_apply]
    by_cases h0 : m.2.2.1 = 0
    · rw [if_pos (by simpa using h0)]
      refine ⟨_, rfl, o.on, by rw [add_own]; exact hs1.p1.cell 2, hK _ _ ⟨rfl, ?_⟩⟩
      cases o.on <;> simp [h0]
    · rw [if_neg (by simpa using h0)]
      exact hK _ _ ⟨rfl, by simp [h0]⟩
  rintro ⟨x, ⟨⟩⟩ h3 ⟨rfl, hx⟩
  simp only at hx
  subst hx
  (try dsimp only); rw [HM.ite_apply]
  by_cases hoff : m.2.2.1 = 0 ∧ o.on = false
  · rw [if_pos (by simpa using hoff)]
    exact stay (by unfold sendF; rw [if_neg hbad, if_pos hoff])
  rw [if_neg (by simpa using hoff)]
  refine ⟨_, rfl, wt, by rw [add_own]; exact hs1.p1.cell 4, ?_⟩
  (try dsimp only); rw [HM.ite_apply]
  by_cases hfull : 256 ≤ o.waiting.length
  · rw [if_pos (by rw [hwl]; simp only [decide_eq_true_eq]; omega)]
    exact stay (by unfold sendF; rw [if_neg hbad, if_neg hoff, if_pos hfull])
  rw [if_neg (by rw [hwl]; simp only [decide_eq_true_eq]; omega)]
  refine ⟨_, rfl, wt, by rw [add_own]; exact hs1.p1.cell 4, ?_⟩
  refine loadN_cells (ts := [.str, .str, .int .i64, .bool, .str]) (toU m) hs1 rfl ?_
  refine new_cells hs1 fun x14 h4 hs2' => ?_
  have hs2 : sat h4 (cells x14 (encM m).toArray :: cells mb (encM m).toArray :: cells b #[at0 pb, .int .i64 o.most, .bool o.on, .slice fl.a fl.len fl.cap, .slice wt.a wt.len wt.cap] :: poolA pb o.pool :: ownS encF 7 fl o.flights :: ownS encM 5 wt o.waiting :: R) := hs2'
  clear hs2'
  refine ⟨wt, by rw [add_own]; exact hs2.p2.cell 4, rfl, ?_⟩
  (try dsimp only); rw [HM.bind_apply]
  refine append_own (enc := encM) (ys := [m]) eMs_len eMs_cell rfl hs2.p5 rfl ?_ (by decide) (by decide) (by omega) fun wt' h5 hs3 => ?_
  · simp only [srcSlc, Nat.one_mul, List.flatMap_cons, List.flatMap_nil, List.append_nil]
    exact hs2.reads rfl
  refine ⟨_, rfl, ?_⟩
  (try dsimp only); rw [HM.bind_apply, add_own]
  refine store1_cells hs3.p3 (by simp) rfl fun h6 hs4 => ?_
  have hs5 : sat h6 (outA b { o with waiting := o.waiting ++ [m] } :: pksA .u8 ⟨none, 0, 0⟩ [] :: R) := by
    refine (pks_nil (outA_iff.2 ⟨pb, fl, wt', ?_⟩)).p1
    exact (hs4.re [0, 4, 5, 1, 2, 3]).p4.p5.drop.drop
  have hw := hok.wait (m := m) ⟨by omega, by omega⟩ hfull
  have he : sendF o m = (goOnF { o with waiting := o.waiting ++ [m] }, 0) := by unfold sendF; rw [if_neg hbad, if_neg hoff, if_neg hfull]
  rw [he] at hq
  refine bind_call1 (goOn_spec hs5 hw (by simp) fun h7 S hs6 => ⟨S, rfl, ?_⟩)
  exact hq S h7 hs6
theorem bounded_of {n : Int} {Q : Value → Heap → Prop} (hq : Q (.int .i64 (max 1 (min n 64))) h) : HCalls Tryz.prog 68 #[.int .i64 n] h Q := by
  refine outflow_bounded_calls n h Q ?_
  unfold outflow_bounded
  have e : (if 1 < (if 64 < n then (64 : Int) else n) then (if 64 < n then 64 else n) else 1) = max 1 (min n 64) := by
    split <;> split <;> omega
  rw [e]
  exact hq
abbrev FlU := Int × ByteArray × ByteArray × Int × Bool × ByteArray × Bool × Unit
abbrev toFU (f : FlT) : FlU := (f.1, f.2.1.1, f.2.1.2.1, f.2.1.2.2.1, f.2.1.2.2.2.1, f.2.1.2.2.2.2, f.2.2, ())
theorem obegin_spec {b : Nat} {o : OutS} {most : Int} (hs : sat h (outA b o :: R)) (hok : FlowOK o) {Q : Value → Heap → Prop}
    (hq : ∀ S h', sat h' (outA b (beginF o most).1 :: pksA .u8 S (beginF o most).2 :: R) → Q (.slice S.a S.len S.cap) h') :
    HCalls Tryz.prog 46 #[at0 b, .int .i64 most] h Q := by
  refine outflow_Flow_Begin_calls (some ⟨b, 0, none⟩) most h Q ?_
  obtain ⟨pb, fl, wt, hs0⟩ := outA_iff.1 hs
  unfold outflow_Flow_Begin
  (try dsimp only); rw [HM.ite_apply, if_neg (by simp)]
  refine bind_call1 (bounded_of ⟨_, rfl, ?_⟩)
  refine ⟨_, rfl, ?_⟩
  (try dsimp only); rw [HM.bind_apply, add_own]
  refine store1_cells hs0 (by simp) rfl fun h1 hs1 => ?_
  refine ⟨_, rfl, ?_⟩
  (try dsimp only); rw [HM.bind_apply, add_own]
  refine store1_cells hs1 (by simp) rfl fun h2 hs2' => ?_
  have hs2 : sat h2 (cells b #[at0 pb, .int .i64 (max 1 (min most 64)), .bool true, .slice fl.a fl.len fl.cap, .slice wt.a wt.len wt.cap] :: poolA pb o.pool :: ownS encF 7 fl o.flights :: ownS encM 5 wt o.waiting :: R) := hs2'
  clear hs2' hs1 hs0 hs
  refine ⟨_, rfl, fl, by rw [add_own]; exact hs2.cell 3, ?_⟩
  have hfl : fl.len = o.flights.length := hs2.p2.own_len
  have hf64 := hok.f64
  (try dsimp only); rw [HM.bind_apply]
  refine loop_for o.flights.length (fun i x h' => x.2.1 = (i : Int) ∧ sat h' (cells b #[at0 pb, .int .i64 (max 1 (min most 64)), .bool true, .slice fl.a fl.len fl.cap, .slice wt.a wt.len wt.cap] :: poolA pb o.pool :: ownS encF 7 fl o.flights :: ownS encM 5 wt o.waiting :: pksA .u8 x.1 ((o.flights.take i).map againF) :: R))
    ⟨rfl, by simpa using (pks_nil (k := .u8) hs2).re [1, 2, 3, 4, 0]⟩ (fun i x h hi hJ => by rw [hJ.1, hfl]; exact decide_eq_decide.2 (by omega)) (fun x h hJ K hd => ?_) (fun i x h hlt hJ K hnx hd => ?_)
  · obtain ⟨hx, hs3⟩ := hJ
    rw [List.take_length] at hs3
    refine hd _ _ ?_
    have hs4 : sat h (outA b { o with on := true, most := max 1 (min most 64) } :: pksA .u8 x.1 (o.flights.map againF) :: R) := outA_iff.2 ⟨pb, fl, wt, hs3⟩
    have h1 : FlowOK { o with on := true, most := max 1 (min most 64) } := ⟨hok.pm, hok.pk, by simp only; omega, by simp only; omega, hok.ids, hok.wl, hok.fq, hok.wq⟩
    refine bind_call1 (goOn_spec hs4 h1 (by rw [List.length_map]; omega) fun h7 S hs6 => ⟨S, rfl, ?_⟩)
    exact hq S h7 hs6
  · obtain ⟨out, ci, ⟨⟩⟩ := x
    obtain ⟨hx, hs3⟩ := hJ
    simp only at hx hs3
    subst hx
    have hy := List.getElem?_eq_getElem hlt
    have htk : (o.flights.take (i + 1)).map againF = (o.flights.take i).map againF ++ [againF o.flights[i]] := by rw [List.take_add_one, hy, List.map_append]; rfl
    generalize o.flights[i] = f at hy htk
    (try dsimp only); rw [HM.bind_apply]
    refine idx_row (hs3.p2.own_row eF_len) hy fun a ha => ?_
    refine loadN_of (ts := [.int .i64, .str, .str, .int .i64, .bool, .str, .bool]) (toFU f) ha ?_
    refine new_cells hs3 fun x10 h4 hs4 => ?_
    (try dsimp only); rw [HM.bind_apply]
    refine storeN_all' hs4 rfl rfl fun h5 hs5' => ?_
    have hs5 : sat h5 (cells x10 (encF f).toArray :: cells b #[at0 pb, .int .i64 (max 1 (min most 64)), .bool true, .slice fl.a fl.len fl.cap, .slice wt.a wt.len wt.cap] :: poolA pb o.pool :: ownS encF 7 fl o.flights :: ownS encM 5 wt o.waiting :: pksA .u8 out ((o.flights.take i).map againF) :: R) := hs5'
    clear hs5' hs4
    refine ⟨f.2.2, by rw [add_own]; exact hs5.cell 6, ?_⟩
    have hbl : ((o.flights.take i).map againF).length ≤ 64 := by rw [List.length_map, List.length_take]; omega
    refine cut (fun z h' => sat h' (pksA .u8 z.1 ((o.flights.take (i + 1)).map againF) :: cells b #[at0 pb, .int .i64 (max 1 (min most 64)), .bool true, .slice fl.a fl.len fl.cap, .slice wt.a wt.len wt.cap] :: poolA pb o.pool :: ownS encF 7 fl o.flights :: ownS encM 5 wt o.waiting :: R)) ?_ ?_
    · intro K2 hK2
      rw [htk] at hK2
      (try dsimp only); rw [HM.ite_apply]
      unfold againF at hK2
      by_cases hr : f.2.2 = true
      · rw [if_pos hr]
        rw [if_pos hr] at hK2
        refine ⟨f.1, by rw [add_own]; exact hs5.cell 0, ?_⟩
        have hs6 := pkB_none (k := .u8) (o := ackO 6 f.1 0) rfl rfl hs5
        refine pks_push (t := (⟨none, 0, 0⟩, ⟨none, 0, 0⟩, ackO 6 f.1 0)) (hs6.re [6, 0, 1, 2, 3, 4, 5]) rfl (by decide) (by omega) fun s' h6 hs7 => ?_
        exact hK2 _ _ hs7.p1.drop
      · rw [if_neg hr]
        rw [if_neg hr] at hK2
        refine loadN_of (ts := [.str, .str, .int .i64, .bool, .str]) (toU f.2.1) (fun j v hv => ?_) ?_
        · rw [add_own, Addr.add_at, hs5.cell]
          match j, hv with
          | 0, hv => exact hv
          | 1, hv => exact hv
          | 2, hv => exact hv
          | 3, hv => exact hv
          | 4, hv => exact hv
          | n + 5, hv => exact absurd hv (by show ¬ (encM f.2.1)[n + 5]? = some v; simp)
        refine ⟨f.1, by rw [add_own]; exact hs5.cell 0, ?_⟩
        refine bind_call1 (packet_of (m := f.2.1) (id := f.1) (dup := true) hs5 fun c p h6 hs6 => ⟨pkT (pubO f.2.1 f.1 true) c p, rfl, ?_⟩)
        refine pks_push (t := (c, p, pubO f.2.1 f.1 true)) (hs6.re [6, 0, 1, 2, 3, 4, 5]) rfl (by decide) (by omega) fun s' h7 hs7 => ?_
        exact hK2 _ _ hs7.p1.drop
    rintro ⟨out', ⟨⟩⟩ h6 hs6
    exact hnx _ _ ⟨by rw [wrap_id (by omega) (by omega)]; rfl, hs6.re [1, 2, 3, 4, 0]⟩
theorem own_srcs {α : Type} {enc : α → List Value} {size : Nat} (henc : ∀ x, (enc x).length = size) {s : Slc} {xs : List α} (hs : sat h (ownS enc size s xs :: R)) : srcSlc size s h (xs.flatMap enc).toArray := by
  rcases ownS_cases hs with ⟨h1, h2, rfl, -⟩ | ⟨b, o, cs, ho, hs'⟩
  · unfold srcSlc
    rw [h1, Nat.zero_mul]
    cases s.a with
    | none => simp [readsH]
    | some a => exact ⟨rfl, fun i v hv => by simp at hv⟩
  · unfold srcSlc
    rw [ho.a]
    refine ⟨by rw [List.size_toArray, flat_len henc, ← ho.len], fun i v hv => ?_⟩
    have hf := ho.front
    have hv' : (xs.flatMap enc)[i]? = some v := by simpa using hv
    rw [← hf] at hv'
    have hi : i < s.len * size := by
      have := (List.getElem?_eq_some_iff.1 hv').1
      rw [List.length_take] at this
      omega
    rw [List.getElem?_take_of_lt hi, List.getElem?_drop] at hv'
    rw [Addr.add_at, hs'.cell]
    simpa using hv'
theorem clone_of {α : Type} {enc : α → List Value} {size : Nat} (henc : ∀ x, (enc x).length = size) (hcell : ∀ x, ∀ v ∈ enc x, v.oneCell' = true) {s : Slc} {xs : List α} (hs : sat h (ownS enc size s xs :: R)) {elem T : TypeId} {bytes : Nat} {zero : Array Value} (hz : zero.size = size) (hsz : 0 < size) (hb0 : 0 < bytes) (hb : xs.length * bytes ≤ 140737488355328)
    {Q : Slc → Heap → Prop} (hq : ∀ s' h', sat h' (ownS enc size s' xs :: ownS enc size s xs :: R) → Q s' h') :
    HM.new (.cells #[] T) h fun b h' => HM.append elem size bytes zero ⟨some ⟨b, 0, none⟩, 0, 0⟩ s.len (srcSlc size s) h' Q := by
  refine new_cells hs fun b h1 hs1 => ?_
  have hlen : s.len = xs.length := hs.own_len
  have hsrc := own_srcs henc hs1.p1
  have hs2 := ownS_none (enc := enc) (size := size) (a := some ⟨b, 0, none⟩) hs1.drop
  refine append_own (ys := xs) henc hcell hz hs2 hlen.symm hsrc hsz hb0 (by rw [hlen]; simpa using hb) fun s' h2 hs3 => ?_
  rw [List.nil_append] at hs3
  exact hq s' h2 hs3
theorem Clone_msg {s : Slc} {xs : List MsT} (hs : sat h (ownS encM 5 s xs :: R)) (hl : xs.length ≤ 300) {Q : Value → Heap → Prop}
    (hq : ∀ (s' : Slc) h', sat h' (ownS encM 5 s' xs :: ownS encM 5 s xs :: R) → Q (.slice s'.a s'.len s'.cap) h') :
    HCalls Tryz.prog 96 #[.slice s.a s.len s.cap] h Q := by
  refine slices_Clone_Message_calls s h Q ?_
  unfold slices_Clone_Message
  (try dsimp only); rw [HM.ite_apply]
  cases ha : s.a with
  | none =>
    rw [if_pos (by rfl)]
    rcases ownS_cases hs with ⟨h1, h2, rfl, -⟩ | ⟨b, o, cs, ho, -⟩
    · exact hq ⟨none, 0, 0⟩ h (ownS_nil hs)
    · rw [ho.a] at ha; cases ha
  | some a =>
    rw [if_neg (by simp)]
    exact clone_of eMs_len eMs_cell hs rfl (by decide) (by decide) (by omega) hq
theorem owaiting_spec {b : Nat} {o : OutS} (hs : sat h (outA b o :: R)) (hl : o.waiting.length ≤ 300) {Q : Value → Heap → Prop}
    (hq : ∀ (s' : Slc) h', sat h' (ownS encM 5 s' o.waiting :: outA b o :: R) → Q (.slice s'.a s'.len s'.cap) h') :
    HCalls Tryz.prog 55 #[at0 b] h Q := by
  refine outflow_Flow_Waiting_calls (some ⟨b, 0, none⟩) h Q ?_
  obtain ⟨pb, fl, wt, hs⟩ := outA_iff.1 hs
  unfold outflow_Flow_Waiting
  (try dsimp only); rw [HM.ite_apply, if_neg (by simp)]
  refine ⟨_, rfl, wt, by rw [add_own]; exact hs.cell 4, ?_⟩
  refine bind_call1 (Clone_msg (hs.re [3, 0, 1, 2]) hl fun s' h2 hs1 => ⟨s', rfl, ?_⟩)
  have h3 : sat h2 (outA b o :: ownS encM 5 s' o.waiting :: R) := outA_iff.2 ⟨pb, fl, wt, hs1.re [2, 3, 4, 1, 0]⟩
  exact hq s' h2 h3.p1
theorem Clone_flt {s : Slc} {xs : List FlT} (hs : sat h (ownS encF 7 s xs :: R)) (hl : xs.length ≤ 300) {Q : Value → Heap → Prop}
    (hq : ∀ (s' : Slc) h', sat h' (ownS encF 7 s' xs :: ownS encF 7 s xs :: R) → Q (.slice s'.a s'.len s'.cap) h') :
    HCalls Tryz.prog 95 #[.slice s.a s.len s.cap] h Q := by
  refine slices_Clone_Flight_calls s h Q ?_
  unfold slices_Clone_Flight
  (try dsimp only); rw [HM.ite_apply]
  cases ha : s.a with
  | none =>
    rw [if_pos (by rfl)]
    rcases ownS_cases hs with ⟨h1, h2, rfl, -⟩ | ⟨b, o, cs, ho, -⟩
    · exact hq ⟨none, 0, 0⟩ h (ownS_nil hs)
    · rw [ho.a] at ha; cases ha
  | some a =>
    rw [if_neg (by simp)]
    exact clone_of eF_len eF_cell hs rfl (by decide) (by decide) (by omega) hq
theorem oflights_spec {b : Nat} {o : OutS} (hs : sat h (outA b o :: R)) (hl : o.flights.length ≤ 300) {Q : Value → Heap → Prop}
    (hq : ∀ (s' : Slc) h', sat h' (ownS encF 7 s' o.flights :: outA b o :: R) → Q (.slice s'.a s'.len s'.cap) h') :
    HCalls Tryz.prog 54 #[at0 b] h Q := by
  refine outflow_Flow_Flights_calls (some ⟨b, 0, none⟩) h Q ?_
  obtain ⟨pb, fl, wt, hs⟩ := outA_iff.1 hs
  unfold outflow_Flow_Flights
  (try dsimp only); rw [HM.ite_apply, if_neg (by simp)]
  refine ⟨_, rfl, fl, by rw [add_own]; exact hs.cell 3, ?_⟩
  refine bind_call1 (Clone_flt (hs.re [2, 0, 1, 3]) hl fun s' h2 hs1 => ⟨s', rfl, ?_⟩)
  have h3 : sat h2 (outA b o :: ownS encF 7 s' o.flights :: R) := outA_iff.2 ⟨pb, fl, wt, hs1.re [2, 3, 1, 4, 0]⟩
  exact hq s' h2 h3.p1
end Go.Proofs.YtfhalebbcbgbdaaGreatDoor
namespace Go.H
set_option linter.unusedSimpArgs false
set_option linter.unusedVariables false
section
variable {α : Type} {enc : α → List Value} {size : Nat} {h : Heap} {s : Slc} {xs : List α} {R : List Asn}
def delS (elem : TypeId) (size bytes : Nat) (zero : Array Value) (p0 : Slc) (p1 : Int) (p2 : Int) : HM (Slc × Unit) :=
  HM.bind (HM.slice p0 (some p1) (some p2) (some ((p0.len : Nat) : Int)) size) fun x1 =>
  HM.ite (p1 == p2) (
  HM.pure (p0, ())) (
  HM.bind (HM.slice p0 none (some p1) none size) fun x2 =>
  HM.bind (HM.slice p0 (some p2) none none size) fun x3 =>
  HM.bind (HM.append elem size bytes zero x2 x3.len (srcSlc size x3)) fun x4 =>
  HM.bind (HM.slice x4 (some ((x4.len : Nat) : Int)) (some ((p0.len : Nat) : Int)) none size) fun x5 =>
  HM.bind (HM.clearS zero x5) fun _ =>
  HM.pure (x4, ()))
theorem take_flat (henc : ∀ x, (enc x).length = size) : ∀ (l : List α) (n : Nat), (l.flatMap enc).take (n * size) = (l.take n).flatMap enc ∧ (l.flatMap enc).drop (n * size) = (l.drop n).flatMap enc := by
  intro l
  induction l with
  | nil => intro n; simp
  | cons x l ih =>
    intro n
    cases n with
    | zero => simp
    | succ n =>
      have hx := henc x
      rw [List.flatMap_cons, Nat.succ_mul, List.take_succ_cons, List.drop_succ_cons, List.flatMap_cons]
      refine ⟨?_, ?_⟩
      · rw [List.take_append, hx, List.take_of_length_le (by omega), show n * size + size - size = n * size from by omega, (ih n).1]
      · rw [List.drop_append, hx, List.drop_of_length_le (by omega), show n * size + size - size = n * size from by omega, (ih n).2, List.nil_append]
theorem delete_own (henc : ∀ x, (enc x).length = size) (hcell : ∀ x, ∀ v ∈ enc x, v.oneCell' = true) {elem : TypeId} {bytes : Nat} {zero : Array Value} (hz : zero.size = size) (hzc : zero.toList.all (fun v => v.oneCell') = true) (hsz : 0 < size)
    {i : Nat} (hs : sat h (ownS enc size s xs :: R)) (hi : i < xs.length) {Q : Slc × Unit → Heap → Prop}
    (hq : ∀ s' h', sat h' (ownS enc size s' (xs.eraseIdx i) :: R) → Q (s', ()) h') : delS elem size bytes zero s (i : Int) ((i : Int) + 1) h Q := by
  have hl := hs.own_len
  have hc := hs.own_le
  have hzc : ∀ v ∈ (Builtin.zeroCells zero 1).toList, v.oneCell' = true := by
    intro v hv
    rw [Array.mem_toList_iff] at hv
    unfold Builtin.zeroCells at hv
    obtain ⟨j, -, rfl⟩ := Array.mem_map.1 hv
    have hj : j % zero.size < zero.size := Nat.mod_lt _ (by omega)
    rw [getElem!_pos zero _ hj]
    exact List.all_eq_true.1 hzc _ (by rw [Array.mem_toList_iff]; exact Array.getElem_mem hj)
  have hzl : (Builtin.zeroCells zero 1).toList.length = size := by simp [Builtin.zeroCells, hz]
  rcases ownS_cases hs with ⟨-, -, rfl, -⟩ | ⟨b, o, cs, ho, hs1⟩
  · simp at hi
  have hsa := ho.a
  have hcs := ho.csize
  unfold delS
  refine ⟨i, i + 1, s.len, ⟨rfl, hc⟩, ⟨by omega, by omega⟩, ⟨rfl, by omega⟩, ?_⟩
  (try dsimp only); rw [HM.ite_apply, if_neg (by simp; omega)]
  refine ⟨0, i, s.cap, rfl, ⟨rfl, by omega⟩, rfl, ?_⟩
  refine ⟨i + 1, s.len, s.cap, rfl, ⟨rfl, rfl⟩, ⟨by omega, by omega⟩, ?_⟩
  have e2 : sliceOf s 0 i s.cap size = ⟨some ⟨b, o * size, none⟩, i, s.cap⟩ := by
    unfold sliceOf
    rw [hsa, if_neg (by omega)]
    simp [Addr.add_at]
  have e3 : (sliceOf s (i + 1) s.len s.cap size).len = s.len - (i + 1) := rfl
  have hmul : s.len * size = i * size + size + (s.len - (i + 1)) * size := by
    rw [← Nat.succ_mul, ← Nat.add_mul]; congr 1; omega
  have hle : (o + s.len) * size ≤ cs.size := Nat.le_trans (Nat.mul_le_mul_right _ (by omega)) hcs
  have hoadd : (o + s.len) * size = o * size + s.len * size := Nat.add_mul ..
  have hfl := flat_len henc (xs.drop (i + 1))
  rw [List.length_drop, ← hl] at hfl
  have hdr : (xs.drop (i + 1)).flatMap enc = (xs.flatMap enc).drop ((i + 1) * size) := ((take_flat henc xs (i + 1)).2).symm
  rw [e2]
  (try dsimp only); rw [HM.bind_apply, e3]
  refine ⟨fun _ => ?_, fun hcap => absurd hcap (by simp only; omega)⟩
  refine ⟨((xs.drop (i + 1)).flatMap enc).toArray, ?_, ?_⟩
  · unfold srcSlc
    have ha : (sliceOf s (i + 1) s.len s.cap size).a = some ⟨b, if s.cap = i + 1 then o * size else o * size + (i + 1) * size, none⟩ := by
      unfold sliceOf
      simp only [hsa]
      split <;> simp [Addr.add_at]
    rw [ha, e3]
    refine ⟨by simpa using hfl, fun j v hv => ?_⟩
    have hv' : ((xs.drop (i + 1)).flatMap enc)[j]? = some v := by simpa using hv
    have hj := (List.getElem?_eq_some_iff.1 hv').1
    rw [hfl] at hj
    rw [if_neg (by intro e; rw [show s.len - (i + 1) = 0 by omega] at hj; omega)]
    rw [Addr.add_at, hs1.cell]
    rw [hdr, ← ho.front, List.getElem?_drop, List.getElem?_take_of_lt (by rw [Nat.succ_mul]; omega), List.getElem?_drop] at hv'
    rw [show o * size + (i + 1) * size + j = o * size + ((i + 1) * size + j) by omega]
    simpa using hv'
  dsimp only
  rw [Addr.add_at]
  have hin1 : o * size + i * size + ((xs.drop (i + 1)).flatMap enc).length ≤ cs.size := by rw [hfl]; omega
  refine ⟨by
    have := cells_set_ok (o := o * size + i * size) (vs := (xs.drop (i + 1)).flatMap enc) hs1 hin1 (fun v hv => by
      obtain ⟨x, _, hx⟩ := List.mem_flatMap.1 hv
      exact hcell x v hx)
    simpa using this, ?_⟩
  obtain ⟨cs1, f1, f2, hs2⟩ := sat.setCells ((xs.drop (i + 1)).flatMap enc) cs (o * size + i * size) 0 hs1 (by omega)
  have e4 : i + (s.len - (i + 1)) = s.len - 1 := by omega
  rw [e4]
  refine ⟨s.len - 1, s.len, s.cap, rfl, ⟨rfl, hc⟩, ⟨rfl, by omega⟩, ?_⟩
  have e5 : sliceOf ⟨some ⟨b, o * size, none⟩, s.len - 1, s.cap⟩ (s.len - 1) s.len s.cap size = ⟨some ⟨b, o * size + (s.len - 1) * size, none⟩, 1, s.cap - (s.len - 1)⟩ := by
    unfold sliceOf
    rw [if_neg (by omega)]
    simp only [Option.map_some, Addr.add_at]
    congr 1
    omega
  rw [e5]
  (try dsimp only); rw [HM.bind_apply]
  unfold HM.clearS
  dsimp only
  rw [if_neg (by decide)]
  have hmul2 : s.len * size = (s.len - 1) * size + size := by
    rw [← Nat.succ_mul]; congr 1; omega
  have hin2 : o * size + (s.len - 1) * size + (Builtin.zeroCells zero 1).toList.length ≤ cs1.size := by rw [hzl, f1]; omega
  refine ⟨by
    have := cells_set_ok (o := o * size + (s.len - 1) * size) (vs := (Builtin.zeroCells zero 1).toList) hs2 hin2 hzc
    simpa using this, ?_⟩
  obtain ⟨cs2, g1, g2, hs3⟩ := sat.setCells (Builtin.zeroCells zero 1).toList cs1 (o * size + (s.len - 1) * size) 0 hs2 (by omega)
  refine hq _ _ (ownS_mk (b := b) (o := o) (cs := cs2) ⟨rfl, by simp only; omega, ?_, by rw [g1, f1]; exact hcs, ?_⟩ hs3)
  · rw [List.length_eraseIdx_of_lt hi]; simp only; omega
  rw [g2, Nat.add_zero, List.append_assoc]
  have hcl1 : cs1.toList.length = cs.size := by simp [f1]
  have hcl : cs.toList.length = cs.size := by simp
  have t1 : ((cs1.toList.take (o * size + (s.len - 1) * size) ++ ((Builtin.zeroCells zero 1).toList ++ cs1.toList.drop (o * size + (s.len - 1) * size + (Builtin.zeroCells zero 1).toList.length))).drop (o * size)).take ((s.len - 1) * size)
      = (cs1.toList.drop (o * size)).take ((s.len - 1) * size) := by
    rw [List.drop_append_of_le_length (by rw [List.length_take, hcl1]; omega), List.take_append_of_le_length (by rw [List.length_drop, List.length_take, hcl1]; omega), List.drop_take, List.take_take]
    congr 1
    omega
  rw [t1, f2, Nat.add_zero, List.append_assoc]
  rw [List.drop_append_of_le_length (by rw [List.length_take, hcl]; omega), List.drop_take, show o * size + i * size - o * size = i * size by omega]
  have t2 : (cs.toList.drop (o * size)).take (i * size) = (xs.take i).flatMap enc := by
    rw [← (take_flat henc xs i).1, ← ho.front, List.take_take]
    congr 1
    omega
  rw [t2, List.eraseIdx_eq_take_drop_succ, List.flatMap_append, ← List.append_assoc]
  rw [List.take_append_of_le_length, List.take_of_length_le]
  · rw [List.length_append, hfl, flat_len henc, List.length_take, Nat.min_eq_left (by omega)]; omega
  · rw [List.length_append, hfl, flat_len henc, List.length_take, Nat.min_eq_left (by omega)]; omega
end
end Go.H
namespace Go.Proofs.YtfhalebbcbgbdaaGreatDoor
open Go.H Go.Proofs
set_option linter.unusedSimpArgs false
set_option linter.unusedVariables false
set_option maxRecDepth 100000
variable {h : Heap} {R : List Asn}
theorem addr_add_add (a : Addr) (m n : Nat) : (a.add m).add n = a.add (m + n) := by
  unfold Addr.add
  by_cases hn : n = 0
  · subst hn; simp
  · by_cases hm : m = 0
    · subst hm; simp
    · rw [if_neg hn, if_neg hm, if_neg (by omega), Nat.add_assoc]
theorem erase_one {xs : List FlT} (hn : (xs.map (·.1)).Nodup) : ∀ {i : Nat} {f : FlT}, xs[i]? = some f → xs.eraseIdx i = xs.filter fun g => decide (g.1 ≠ f.1) := by
  induction xs with
  | nil => intro i f hf; simp at hf
  | cons x xs ih =>
    intro i f hf
    rw [List.map_cons, List.nodup_cons] at hn
    cases i with
    | zero =>
      rw [List.getElem?_cons_zero] at hf
      cases hf
      rw [List.eraseIdx_cons_zero, List.filter_cons, if_neg (by simp)]
      refine (List.filter_eq_self.2 fun g hg => ?_).symm
      simp only [decide_eq_true_eq]
      intro e
      exact hn.1 (e ▸ List.mem_map_of_mem hg)
    | succ i =>
      rw [List.getElem?_cons_succ] at hf
      have hx : x.1 ≠ f.1 := fun e => hn.1 (e ▸ List.mem_map_of_mem (List.mem_of_getElem? hf))
      rw [List.eraseIdx_cons_succ, List.filter_cons, if_pos (by simpa using hx), ih hn.2 hf]
theorem set_one {xs : List FlT} (hn : (xs.map (·.1)).Nodup) : ∀ {i : Nat} {f : FlT}, xs[i]? = some f → xs.set i (f.1, f.2.1, true) = xs.map fun g => if g.1 = f.1 then (g.1, g.2.1, true) else g := by
  induction xs with
  | nil => intro i f hf; simp at hf
  | cons x xs ih =>
    intro i f hf
    rw [List.map_cons, List.nodup_cons] at hn
    cases i with
    | zero =>
      rw [List.getElem?_cons_zero] at hf
      cases hf
      rw [List.set_cons_zero, List.map_cons, if_pos rfl]
      congr 1
      conv => lhs; rw [← List.map_id xs]
      refine List.map_congr_left fun g hg => ?_
      rw [if_neg (fun e : g.1 = x.1 => hn.1 (e ▸ List.mem_map_of_mem hg))]
      rfl
    | succ i =>
      rw [List.getElem?_cons_succ] at hf
      have hx : x.1 ≠ f.1 := fun e => hn.1 (e ▸ List.mem_map_of_mem (List.mem_of_getElem? hf))
      rw [List.set_cons_succ, List.map_cons, if_neg hx, ih hn.2 hf]
theorem find_one {xs : List FlT} {id : Int} (hn : (xs.map (·.1)).Nodup) {i : Nat} {f : FlT} (hf : xs[i]? = some f) (he : f.1 = id) : xs.find? (fun g => decide (g.1 = id)) = some f := by
  induction xs generalizing i with
  | nil => simp at hf
  | cons x xs ih =>
    rw [List.map_cons, List.nodup_cons] at hn
    cases i with
    | zero =>
      rw [List.getElem?_cons_zero] at hf
      cases hf
      rw [List.find?_cons_of_pos (by simpa using he)]
    | succ i =>
      rw [List.getElem?_cons_succ] at hf
      have hx : x.1 ≠ id := fun e => hn.1 ((e.trans he.symm) ▸ List.mem_map_of_mem (List.mem_of_getElem? hf))
      rw [List.find?_cons_of_neg (by simpa using hx), ih hn.2 hf]
theorem find_none {xs : List FlT} {id : Int} (hn : ∀ f ∈ xs, f.1 ≠ id) : xs.find? (fun g => decide (g.1 = id)) = none :=
  List.find?_eq_none.2 fun f hf => by simpa using hn f hf
theorem FlowOK.nd {o : OutS} (h : FlowOK o) : (o.flights.map (·.1)).Nodup := by rw [h.ids]; exact h.pk.nodup
theorem af1_spec {cb : Nat} {cs : Array Value} {id : Int} {f : FlT} (hs : sat h (cells cb cs :: R)) (hc : cs[4]? = some (.int .i64 id)) {Q : Value → Heap → Prop} (hq : ∀ h', sat h' (cells cb cs :: R) → Q (.bool (f.1 == id)) h') :
    HCalls Tryz.prog 76 #[.agg (encF f).toArray, at0 cb] h Q := by
  refine outflow_Flow_Answer_f1_calls (toFU f) ⟨cb, 0, none⟩ h Q ?_
  unfold outflow_Flow_Answer_f1
  refine new_cells hs fun x1 h1 hs1 => ?_
  refine ⟨f.1, by rw [add_own]; exact hs1.cell 0, id, by rw [add_own]; exact (hs1.p1.cell 4).trans hc, ?_⟩
  exact hq h1 hs1.drop
theorem idxf_spec {cb : Nat} {cs : Array Value} {id : Int} {s : Slc} {xs : List FlT} (hs : sat h (cells cb cs :: ownS encF 7 s xs :: R)) (hl : xs.length ≤ 300) (hc : cs[4]? = some (.int .i64 id)) {Q : Value → Heap → Prop}
    (hno : (∀ f ∈ xs, f.1 ≠ id) → ∀ h', sat h' (cells cb cs :: ownS encF 7 s xs :: R) → Q (.int .i64 (-1)) h')
    (hyes : ∀ (i : Nat) (f : FlT), xs[i]? = some f → f.1 = id → ∀ h', sat h' (cells cb cs :: ownS encF 7 s xs :: R) → Q (.int .i64 i) h') :
    HCalls Tryz.prog 75 #[.slice s.a s.len s.cap, .func (.func 76) #[] #[at0 cb]] h Q := by
  refine slices_IndexFunc_Flight_calls s _ h Q ?_
  unfold slices_IndexFunc_Flight
  (try dsimp only); rw [HM.bind_apply]
  have hsl : s.len = xs.length := hs.p1.own_len
  refine loop_for xs.length (fun i x h' => x.1 = (i : Int) ∧ (∀ f ∈ xs.take i, f.1 ≠ id) ∧ sat h' (cells cb cs :: ownS encF 7 s xs :: R))
    ⟨rfl, by simp, hs⟩ (fun i x h hi hJ => by rw [hJ.1, hsl]; exact decide_eq_decide.2 (by omega)) (fun x h hJ K hd => ?_) (fun i x h hlt hJ K hnx hd => ?_)
  · obtain ⟨hx, hn, hs1⟩ := hJ
    rw [List.take_length] at hn
    exact hd _ _ (hno hn _ hs1)
  · obtain ⟨ci, ⟨⟩⟩ := x
    obtain ⟨hx, hn, hs1⟩ := hJ
    simp only at hx
    subst hx
    have hy := List.getElem?_eq_getElem hlt
    have htk : xs.take (i + 1) = xs.take i ++ [xs[i]] := by rw [List.take_add_one, hy]; rfl
    generalize xs[i] = f at hy htk
    (try dsimp only); rw [HM.bind_apply]
    refine idx_row (hs1.p1.own_row eF_len) hy fun a ha => ?_
    refine loadN_of (ts := [.int .i64, .str, .str, .int .i64, .bool, .str, .bool]) (toFU f) ha ?_
    refine ⟨_, _, _, rfl, Tryz.call76, ?_⟩
    refine af1_spec (f := f) hs1 hc fun h2 hs2 => ⟨_, rfl, ?_⟩
    (try dsimp only); rw [HM.ite_apply]
    by_cases e : f.1 = id
    · rw [if_pos (by simpa using e)]
      exact hd _ _ (hyes i f hy e _ hs2)
    · rw [if_neg (by simpa using e)]
      refine hnx _ _ ⟨by rw [wrap_id (by omega) (by omega)]; rfl, fun g hg => ?_, hs2⟩
      rw [htk] at hg
      rcases List.mem_append.1 hg with hg | hg
      · exact hn g hg
      · rw [List.mem_singleton.1 hg]; exact e
theorem fdelete_spec {s : Slc} {xs : List FlT} {i : Nat} (hs : sat h (ownS encF 7 s xs :: R)) (hi : i < xs.length) {Q : Value → Heap → Prop}
    (hq : ∀ (s' : Slc) h', sat h' (ownS encF 7 s' (xs.eraseIdx i) :: R) → Q (.slice s'.a s'.len s'.cap) h') :
    HCalls Tryz.prog 116 #[.slice s.a s.len s.cap, .int .i64 i, .int .i64 ((i : Int) + 1)] h Q := by
  refine slices_Delete_calls s i _ h Q ?_
  exact delete_own (zero := #[.int .i64 0, .string (ByteArray.mk #[]), .string (ByteArray.mk #[]), .int .i64 0, .bool false, .string (ByteArray.mk #[]), .bool false]) eF_len eF_cell rfl rfl (by decide) hs hi fun s' h' hs' => hq s' h' hs'
theorem oover_spec {b : Nat} {o : OutS} {i : Nat} {f : FlT} (hs : sat h (outA b o :: R)) (hok : FlowOK o) (hf : o.flights[i]? = some f) {Q : Value → Heap → Prop}
    (hq : ∀ h', sat h' (outA b (overF o f.1) :: R) → Q (.tuple #[]) h') : HCalls Tryz.prog 77 #[at0 b, .int .i64 i] h Q := by
  refine outflow_Flow_over_calls (some ⟨b, 0, none⟩) i h Q ?_
  obtain ⟨pb, fl, wt, hs1⟩ := outA_iff.1 hs
  unfold outflow_Flow_over
  have hil := (List.getElem?_eq_some_iff.1 hf).1
  have hf64 := hok.f64
  refine ⟨_, rfl, some ⟨pb, 0, none⟩, by rw [add_own]; exact hs1.cell 0, _, rfl, fl, by rw [add_own]; exact hs1.cell 3, ?_⟩
  (try dsimp only); rw [HM.bind_apply]
  refine idx_row (hs1.p2.own_row eF_len) hf fun a ha => ?_
  refine ⟨f.1, ha 0 _ rfl, ?_⟩
  refine bind_call1 (Free_spec hs1.p1 fun h2 hs2 => ⟨_, rfl, ?_⟩)
  refine ⟨_, rfl, fl, by rw [add_own]; exact hs2.p1.cell 3, ?_⟩
  have w : IntKind.wrap .i64 ((i : Int) + 1) = (i : Int) + 1 := wrap_id (by omega) (by omega)
  (try dsimp only); rw [w]
  refine bind_call1 (fdelete_spec hs2.p2 hil fun s' h3 hs3 => ⟨s', rfl, ?_⟩)
  refine ⟨_, rfl, ?_⟩
  (try dsimp only); rw [HM.bind_apply, add_own]
  refine store1_cells hs3.p2 (by simp) rfl fun h4 hs4 => ?_
  refine hq h4 (outA_iff.2 ⟨pb, s', wt, ?_⟩)
  rw [erase_one hok.nd hf] at hs4
  exact hs4.re [0, 2, 1, 3]
set_option maxHeartbeats 1000000 in
theorem oans_spec {b : Nat} {o : OutS} {p : Pk} (hs : sat h (outA b o :: R)) (hok : FlowOK o) {Q : Value → Heap → Prop}
    (hq : ∀ S h', sat h' (outA b (ansF o p.1 p.2.2.2.2.1 p.2.2.2.2.2.2.2.1).1.1 :: pksA .u8 S (ansF o p.1 p.2.2.2.2.1 p.2.2.2.2.2.2.2.1).1.2 :: R) → Q (.tuple #[.slice S.a S.len S.cap, .int .u8 (ansF o p.1 p.2.2.2.2.1 p.2.2.2.2.2.2.2.1).2]) h') :
    HCalls Tryz.prog 43 #[at0 b, vPkK .u8 p] h Q := by
  refine outflow_Flow_Answer_calls (some ⟨b, 0, none⟩) p h Q ?_
  unfold outflow_Flow_Answer
  refine new_cells hs fun cb h1 hs1' => ?_
  have hs1 : sat h1 (cells cb (encPkK .u8 p).toArray :: outA b o :: R) := hs1'
  clear hs1' hs
  have k0 : ∀ {h' : Heap} {R' : List Asn}, sat h' (cells cb (encPkK .u8 p).toArray :: R') → cellH h' ⟨cb, 0, none⟩ = some (.int .i64 p.1) := fun hs => hs.cell 0
  have k4 : ∀ {h' : Heap} {R' : List Asn}, sat h' (cells cb (encPkK .u8 p).toArray :: R') → cellH h' ⟨cb, 4, none⟩ = some (.int .i64 p.2.2.2.2.1) := fun hs => hs.cell 4
  have k7 : ∀ {h' : Heap} {R' : List Asn}, sat h' (cells cb (encPkK .u8 p).toArray :: R') → cellH h' ⟨cb, 7, none⟩ = some (.int .u8 p.2.2.2.2.2.2.2.1) := fun hs => hs.cell 7
  have g4 : (encPkK .u8 p).toArray[4]? = some (.int .i64 p.2.2.2.2.1) := rfl
  generalize hk : p.1 = k at *
  generalize hid : p.2.2.2.2.1 = id at *
  generalize hcd : p.2.2.2.2.2.2.2.1 = c at *
  generalize (encPkK .u8 p).toArray = cs at *
  have stay : ∀ {cc : Int} {h' : Heap}, sat h' (cells cb cs :: outA b o :: R) → ansF o k id c = ((o, []), cc) → Q (.tuple #[.slice none 0 0, .int .u8 cc]) h' := fun {cc h'} hs he => by
    have := hq ⟨none, 0, 0⟩ h'
    rw [he] at this
    exact this ((pks_nil hs.drop).p1)
  (try dsimp only); rw [HM.ite_apply, if_neg (by simp)]
  refine cut (fun x h' => h' = h1 ∧ x.1 = decide (o.on = false ∨ (k ≠ 4 ∧ k ≠ 5 ∧ k ≠ 7))) ?_ ?_
  · intro K hK
    obtain ⟨pb, fl, wt, hs2⟩ := outA_iff.1 hs1.p1
    refine ⟨_, rfl, o.on, by rw [add_own]; exact hs2.cell 2, ?_⟩
    (try dsimp only); rw [HM.ite_apply]
    cases hon : o.on with
    | false => rw [if_pos (by rfl)]; exact hK _ _ ⟨rfl, by simp [hon]⟩
    | true =>
      rw [if_neg (by simp)]
      refine ⟨k, by rw [add_own]; exact k0 hs1, ?_⟩
      (try dsimp only); rw [HM.ite_apply]
      by_cases h4 : k = 4
      · rw [if_neg (by simp [h4])]; exact hK _ _ ⟨rfl, by simp [h4, hon]⟩
      · rw [if_pos (by simp [h4])]
        refine ⟨k, by rw [add_own]; exact k0 hs1, ?_⟩
        (try dsimp only); rw [HM.ite_apply]
        by_cases h5 : k = 5
        · rw [if_neg (by simp [h5])]; exact hK _ _ ⟨rfl, by simp [h5, hon]⟩
        · rw [if_pos (by simp [h5])]
          refine ⟨k, by rw [add_own]; exact k0 hs1, hK _ _ ⟨rfl, ?_⟩⟩
          by_cases h7 : k = 7 <;> simp [h4, h5, h7, hon]
  rintro ⟨x, ⟨⟩⟩ h2 ⟨rfl, hx⟩
  simp only at hx
  subst hx
  (try dsimp only); rw [HM.ite_apply]
  by_cases hbad : o.on = false ∨ (k ≠ 4 ∧ k ≠ 5 ∧ k ≠ 7)
  · rw [if_pos (by simpa using hbad)]
    exact stay hs1 (by unfold ansF; rw [if_pos hbad])
  rw [if_neg (by simpa using hbad)]
  obtain ⟨pb, fl, wt, hs2⟩ := outA_iff.1 hs1.p1
  refine ⟨_, rfl, fl, by rw [add_own]; exact hs2.cell 3, ?_⟩
  have hf64 := hok.f64
  refine bind_call1 (idxf_spec (hs2.re [4, 2, 0, 1, 3]) (by omega) g4 (fun hno h3 hs3 => ⟨_, rfl, ?_⟩) (fun i f hf he h3 hs3' => ⟨_, rfl, ?_⟩))
  · (try dsimp only); rw [HM.ite_apply, if_pos (by decide)]
    refine stay (sat.p1 (outA_iff.2 ⟨pb, fl, wt, hs3.re [2, 3, 1, 4, 0]⟩)) ?_
    unfold ansF
    rw [if_neg hbad, find_none hno]
  have hs3 : sat h3 (cells b #[at0 pb, .int .i64 o.most, .bool o.on, .slice fl.a fl.len fl.cap, .slice wt.a wt.len wt.cap] :: cells cb cs :: poolA pb o.pool :: ownS encF 7 fl o.flights :: ownS encM 5 wt o.waiting :: R) := hs3'.re [2, 0, 3, 1, 4]
  clear hs3'
  have hback : sat h3 (cells cb cs :: outA b o :: R) := sat.p1 (outA_iff.2 ⟨pb, fl, wt, hs3.re [0, 2, 3, 4, 1]⟩)
  have hfind := find_one hok.nd hf he
  have hfm := List.mem_of_getElem? hf
  have hans : ansF o k id c = (if k = 4 then (if f.2.1.2.2.1 ≠ 1 then ((o, []), 130) else (goOnF (overF o id), 0))
      else if k = 5 then
        (if f.2.1.2.2.1 ≠ 2 ∨ (128 ≤ c ∧ f.2.2 = true) then ((o, []), 130)
        else if 128 ≤ c then (goOnF (overF o id), 0)
        else (((goOnF (relF o id)).1, ackO 6 id 0 :: (goOnF (relF o id)).2), 0))
      else (if f.2.2 = false then ((o, []), 130) else (goOnF (overF o id), 0))) := by
    unfold ansF
    rw [if_neg hbad, hfind]
  (try dsimp only); rw [HM.ite_apply, if_neg (by simp)]
  refine ⟨_, rfl, fl, by rw [add_own]; exact hs3.cell 3, ?_⟩
  (try dsimp only); rw [HM.bind_apply]
  refine idx_own eF_len hs3.p3 hf fun a ha hst => ?_
  have aq : cellH h3 ((a.add 1).add 2) = some (.int .i64 f.2.1.2.2.1) := by rw [addr_add_add]; exact ha 3 _ rfl
  have ar : cellH h3 (a.add 6) = some (.bool f.2.2) := ha 6 _ rfl
  refine ⟨k, by rw [add_own]; exact k0 hs3.p1, ?_⟩
  refine cut (fun z h' => match z with
    | .inl x => ∃ (o' : OutS) (os : List PkO), FlowOK o' ∧ os.length ≤ 10 ∧ ansF o k id c = (((goOnF o').1, os ++ (goOnF o').2), 0) ∧ sat h' (outA b o' :: pksA .u8 x.1 os :: R)
    | .inr y => y.1 = ⟨none, 0, 0⟩ ∧ ansF o k id c = ((o, []), y.2.1) ∧ sat h' (cells cb cs :: outA b o :: R)) ?_ ?_
  · intro K hK
    have bad : ansF o k id c = ((o, []), 130) → K (.inr (⟨none, 0, 0⟩, 130, ())) h3 := fun e => hK _ _ ⟨rfl, e, hback⟩
    have good : ∀ {K2 : KTup [] → Heap → Prop}, (∀ h', sat h' (outA b (overF o id) :: pksA .u8 ⟨none, 0, 0⟩ [] :: R) → K2 () h') → HCalls Tryz.prog 77 #[.pointer (some ⟨b, 0, none⟩), .int .i64 i] h3 (KTup.un [] K2) := fun hK2 =>
      oover_spec hback.p1 hok hf fun h' hs' => ⟨(), rfl, hK2 h' (by rw [he] at hs'; exact (pks_nil hs'.p1.drop).p1)⟩
    have hov := hok.over id
    (try dsimp only); rw [HM.ite_apply]
    by_cases h4 : k = 4
    · rw [if_pos (by simp [h4])]
      rw [if_pos h4] at hans
      refine ⟨_, rfl, f.2.1.2.2.1, aq, ?_⟩
      (try dsimp only); rw [HM.ite_apply]
      by_cases hq1 : f.2.1.2.2.1 = 1
      · rw [if_neg (by simp [hq1])]
        rw [if_neg (by simp [hq1])] at hans
        refine bind_callN (good fun h' hs' => ?_)
        exact hK _ _ ⟨overF o id, [], hov, by simp, hans, hs'⟩
      · rw [if_pos (by simp [hq1])]
        rw [if_pos hq1] at hans
        exact bad hans
    rw [if_neg (by simp [h4])]
    rw [if_neg h4] at hans
    refine cut (fun z h' => match z with
      | .inl x => ∃ (o' : OutS) (os : List PkO), FlowOK o' ∧ os.length ≤ 10 ∧ ansF o k id c = (((goOnF o').1, os ++ (goOnF o').2), 0) ∧ sat h' (outA b o' :: pksA .u8 x.1 os :: R)
      | .inr (.inl x) => False
      | .inr (.inr y) => y.1 = ⟨none, 0, 0⟩ ∧ ansF o k id c = ((o, []), y.2.1) ∧ sat h' (cells cb cs :: outA b o :: R)) ?_ ?_
    · intro K2 hK2
      have bad : ansF o k id c = ((o, []), 130) → K2 (.inr (.inr (⟨none, 0, 0⟩, 130, ()))) h3 := fun e => hK2 _ _ ⟨rfl, e, hback⟩
      (try dsimp only); rw [HM.ite_apply]
      by_cases h5 : k = 5
      · rw [if_pos (by simp [h5])]
        rw [if_pos h5] at hans
        refine ⟨_, rfl, f.2.1.2.2.1, aq, ?_⟩
        refine cut (fun z h' => h' = h3 ∧ z.1 = decide (f.2.1.2.2.1 ≠ 2 ∨ (128 ≤ c ∧ f.2.2 = true))) ?_ ?_
        · intro K3 hK3
          (try dsimp only); rw [HM.ite_apply]
          by_cases hq2 : f.2.1.2.2.1 = 2
          · rw [if_neg (by simp [hq2])]
            refine cut (fun z h' => h' = h3 ∧ z.1 = decide (128 ≤ c ∧ f.2.2 = true)) ?_ ?_
            · intro K4 hK4
              refine ⟨c, by rw [add_own]; exact k7 hs3.p1, ?_⟩
              (try dsimp only); rw [HM.ite_apply]
              by_cases hc1 : 128 ≤ c
              · rw [if_pos (by simpa using hc1)]
                refine ⟨_, rfl, f.2.2, ar, hK4 _ _ ⟨rfl, ?_⟩⟩
                simp [hc1]
              · rw [if_neg (by simpa using hc1)]
                exact hK4 _ _ ⟨rfl, by simp [hc1]⟩
            rintro ⟨z, ⟨⟩⟩ h4 ⟨rfl, hz⟩
            simp only at hz
            refine hK3 _ _ ⟨rfl, ?_⟩
            simp only [hz]
            simp [hq2]
          · rw [if_pos (by simp [hq2])]
            exact hK3 _ _ ⟨rfl, by simp [hq2]⟩
        rintro ⟨z, ⟨⟩⟩ h4 ⟨rfl, hz⟩
        simp only at hz
        subst hz
        (try dsimp only); rw [HM.ite_apply]
        by_cases hb2 : f.2.1.2.2.1 ≠ 2 ∨ (128 ≤ c ∧ f.2.2 = true)
        · rw [if_pos (decide_eq_true hb2)]
          rw [if_pos hb2] at hans
          exact bad hans
        rw [if_neg (by rw [decide_eq_true_eq]; exact hb2)]
        rw [if_neg hb2] at hans
        refine ⟨c, by rw [add_own]; exact k7 hs3.p1, ?_⟩
        refine cut (fun z h' => ∃ (o' : OutS) (os : List PkO), FlowOK o' ∧ os.length ≤ 10 ∧ ansF o k id c = (((goOnF o').1, os ++ (goOnF o').2), 0) ∧ sat h' (outA b o' :: pksA .u8 z.1 os :: R)) ?_ ?_
        · intro K3 hK3
          (try dsimp only); rw [HM.ite_apply]
          by_cases hc1 : 128 ≤ c
          · rw [if_pos (by simpa using hc1)]
            rw [if_pos hc1] at hans
            refine bind_callN (good fun h' hs' => ?_)
            exact hK3 _ _ ⟨overF o id, [], hov, by simp, hans, hs'⟩
          · rw [if_neg (by simpa using hc1)]
            rw [if_neg hc1] at hans
            refine ⟨_, rfl, ?_⟩
            (try dsimp only); rw [HM.bind_apply]
            refine hst 6 (.bool true) (f.1, f.2.1, true) _ (by decide) rfl rfl fun h5 hs5 => ?_
            rw [set_one hok.nd hf, he] at hs5
            have hs6 : sat h5 (cells cb cs :: outA b (relF o id) :: R) := sat.p1 (outA_iff.2 ⟨pb, fl, wt, hs5.re [1, 3, 0, 4, 2]⟩)
            refine ⟨id, by rw [add_own]; exact k4 hs6, ?_⟩
            have hs7 := pks_nil (k := .u8) (pkB_none (k := .u8) (o := ackO 6 id 0) rfl rfl hs6)
            refine pks_push (t := (⟨none, 0, 0⟩, ⟨none, 0, 0⟩, ackO 6 id 0)) hs7 rfl (by decide) (by decide) fun s' h6 hs8 => ?_
            have hq2 : f.2.1.2.2.1 = 2 := Classical.not_not.1 fun e => hb2 (.inl e)
            have hrel : FlowOK (relF o id) := hok.rel fun g hg e => by rw [hok.one hg hfm (e.trans he.symm)]; exact hq2
            exact hK3 _ _ ⟨relF o id, [ackO 6 id 0], hrel, by simp, hans, hs8.p1.drop.re [1, 0]⟩
        rintro ⟨z, ⟨⟩⟩ h4 ⟨o', os, g1, g2, g3, g4⟩
        exact hK2 _ _ ⟨o', os, g1, g2, g3, g4⟩
      · rw [if_neg (by simp [h5])]
        rw [if_neg h5] at hans
        refine ⟨_, rfl, f.2.2, ar, ?_⟩
        (try dsimp only); rw [HM.ite_apply]
        cases hr : f.2.2 with
        | false =>
          rw [if_pos (by rfl)]
          rw [if_pos hr] at hans
          exact bad hans
        | true =>
          rw [if_neg (by simp)]
          rw [if_neg (by simp [hr])] at hans
          refine bind_callN (good fun h' hs' => ?_)
          exact hK2 _ _ ⟨overF o id, [], hov, by simp, hans, hs'⟩
    rintro z h4 hz
    match z, hz with
    | .inl (x, ()), hz => exact hK _ _ hz
    | .inr (.inr (y1, y2, ())), hz => exact hK _ _ hz
  rintro z h4 hz
  match z, hz with
  | .inl (x, ()), ⟨o', os, g1, g2, g3, g4⟩ =>
    refine bind_call1 (goOn_spec g4 g1 (by omega) fun h7 S hs6 => ⟨S, rfl, ?_⟩)
    have := hq S h7
    rw [g3] at this
    exact this hs6
  | .inr (y1, y2, ()), ⟨g1, g2, g3⟩ =>
    simp only at g1 g2
    subst g1
    exact stay g3 g2
end Go.Proofs.YtfhalebbcbgbdaaGreatDoor
namespace Go.H
set_option linter.unusedSimpArgs false
set_option linter.unusedVariables false
open Go.MapKept (Stamped)
section
variable {K : Type} [DecidableEq K]
end
section
variable {K V : Type} {h : Heap} {R : List Asn} {ek : K → Value}
variable [DecidableEq K]
end
abbrev e2 (k : Int × Int) : Value := .agg #[.int .i64 k.1, .int .i64 k.2]
end Go.H
namespace Go.Proofs.YtfhalebbcbgbdaaGreatDoor
open Go.H Go.Proofs
set_option linter.unusedSimpArgs false
set_option linter.unusedVariables false
set_option synthInstance.maxSize 100000
set_option synthInstance.maxHeartbeats 400000
abbrev TagT := Int × Int
def goodTag (t : TagT) : Prop := 0 ≤ t.1 ∧ t.1 < 8 ∧ 1 ≤ t.2 ∧ t.2 ≤ 9007199254740992
instance (t : TagT) : Decidable (goodTag t) := by unfold goodTag; infer_instance
theorem tgood_spec {h : Heap} {R : List Asn} (hs : sat h R) {t : TagT} {Q : Value → Heap → Prop} (hq : ∀ h', sat h' R → Q (.bool (decide (goodTag t))) h') :
    HCalls Tryz.prog 98 #[e2 t] h Q := by
  obtain ⟨a, b⟩ := t
  refine tags_Tag_good_calls (a, b, ()) h Q ?_
  unfold tags_Tag_good
  refine new_cells hs fun tb h1 hs1 => ?_
  have c0 : cellH h1 ⟨tb, 0, none⟩ = some (.int .i64 a) := hs1.cell 0
  have c1 : cellH h1 ⟨tb, 1, none⟩ = some (.int .i64 b) := hs1.cell 1
  have hq' := hq h1 hs1.drop
  refine bind_cut (fun x h' => h' = h1 ∧ x.1 = decide (goodTag (a, b))) ?_ ?_
  · unfold goodTag
    by_cases g1 : 0 ≤ a <;> by_cases g2 : a < 8 <;> by_cases g3 : 1 ≤ b <;> by_cases g4 : b ≤ 9007199254740992 <;> simp [add_own, c0, c1, g1, g2, g3, g4] <;> omega
  · rintro ⟨x, ⟨⟩⟩ h2 ⟨rfl, hx⟩
    simp only at hx
    subst hx
    exact hq'
end Go.Proofs.YtfhalebbcbgbdaaGreatDoor
namespace Go.Proofs.YtfhalebbcbgbdaaGreatDoor
set_option linter.unusedSimpArgs false
set_option linter.unusedVariables false
open Go.Proofs Go.Shelf
def itoaL_ren : Go.Shelf.Ren := ⟨fun n => match n with | 171 => 59 | 243 => 101 | 246 => 102 | 283 => 145 | 284 => 146 | 285 => 147 | 286 => 148 | 129 => 183 | 317 => 182 | 318 => 184 | 319 => 185 | 320 => 186 | 337 => 210 | 338 => 211 | n => n, fun n => match n with | 3 => 3 | 9 => 9 | 2 => 2 | 4 => 4 | 171 => 242 | 0 => 0 | 53 => 125 | 37 => 106 | 5 => 5 | 173 => 245 | 212 => 274 | 51 => 275 | 20 => 20 | 213 => 276 | 46 => 204 | 232 => 306 | 233 => 307 | n => n, fun n => match n with | 17 => 0 | 18 => 4 | 19 => 5 | n => n⟩
theorem itoaL : Lays.n171 Tryz.prog itoaL_ren where
  mixed := by kernel_rfl
  f129 := Tryz.func183.trans (congrArg some (by kernel_rfl))
  f171 := Tryz.func59.trans (congrArg some (by kernel_rfl))
  f243 := Tryz.func101.trans (congrArg some (by kernel_rfl))
  f246 := Tryz.func102.trans (congrArg some (by kernel_rfl))
  f283 := Tryz.func145.trans (congrArg some (by kernel_rfl))
  f284 := Tryz.func146.trans (congrArg some (by kernel_rfl))
  f285 := Tryz.func147.trans (congrArg some (by kernel_rfl))
  f286 := Tryz.func148.trans (congrArg some (by kernel_rfl))
  f317 := Tryz.func182.trans (congrArg some (by kernel_rfl))
  f318 := Tryz.func184.trans (congrArg some (by kernel_rfl))
  f319 := Tryz.func185.trans (congrArg some (by kernel_rfl))
  f320 := Tryz.func186.trans (congrArg some (by kernel_rfl))
  f337 := Tryz.func210.trans (congrArg some (by kernel_rfl))
  f338 := Tryz.func211.trans (congrArg some (by kernel_rfl))
  t0 := Tryz.underlying0
  a0 := Tryz.isAgg0
  z0 := Tryz.sizeOf0
  v0 := Tryz.zeroValue0
  t2 := Tryz.underlying2
  a2 := Tryz.isAgg2
  z2 := Tryz.sizeOf2
  v2 := Tryz.zeroValue2
  t3 := Tryz.underlying3
  a3 := Tryz.isAgg3
  z3 := Tryz.sizeOf3
  v3 := Tryz.zeroValue3
  t4 := Tryz.underlying4
  a4 := Tryz.isAgg4
  z4 := Tryz.sizeOf4
  v4 := Tryz.zeroValue4
  t5 := Tryz.underlying5
  a5 := Tryz.isAgg5
  z5 := Tryz.sizeOf5
  v5 := Tryz.zeroValue5
  t9 := Tryz.underlying9
  a9 := Tryz.isAgg9
  z9 := Tryz.sizeOf9
  v9 := Tryz.zeroValue9
  t20 := Tryz.underlying20
  a20 := Tryz.isAgg20
  z20 := Tryz.sizeOf20
  v20 := Tryz.zeroValue20
  t37 := Tryz.underlying106
  a37 := Tryz.isAgg106
  z37 := Tryz.sizeOf106
  v37 := Tryz.zeroValue106
  t46 := Tryz.underlying204
  a46 := Tryz.isAgg204
  z46 := Tryz.sizeOf204
  v46 := Tryz.zeroValue204
  t51 := Tryz.underlying275
  a51 := Tryz.isAgg275
  z51 := Tryz.sizeOf275
  v51 := Tryz.zeroValue275
  t53 := Tryz.underlying125
  a53 := Tryz.isAgg125
  z53 := Tryz.sizeOf125
  v53 := Tryz.zeroValue125
  t171 := Tryz.underlying242
  a171 := Tryz.isAgg242
  z171 := Tryz.sizeOf242
  v171 := Tryz.zeroValue242
  t173 := Tryz.underlying245
  a173 := Tryz.isAgg245
  z173 := Tryz.sizeOf245
  v173 := Tryz.zeroValue245
  t212 := Tryz.underlying274
  a212 := Tryz.isAgg274
  z212 := Tryz.sizeOf274
  v212 := Tryz.zeroValue274
  t213 := Tryz.underlying276
  a213 := Tryz.isAgg276
  z213 := Tryz.sizeOf276
  t232 := Tryz.underlying306
  a232 := Tryz.isAgg306
  z232 := Tryz.sizeOf306
  v232 := Tryz.zeroValue306
  t233 := Tryz.underlying307
  a233 := Tryz.isAgg307
  z233 := Tryz.sizeOf307
  v233 := Tryz.zeroValue307
  g17 := by kernel_rfl
  g18 := by kernel_rfl
  g19 := by kernel_rfl
def formatL_ren : Go.Shelf.Ren := ⟨fun n => match n with | 173 => 60 | 246 => 102 | 283 => 145 | 284 => 146 | 285 => 147 | 286 => 148 | 129 => 183 | 317 => 182 | 318 => 184 | 319 => 185 | 320 => 186 | 337 => 210 | 338 => 211 | n => n, fun n => match n with | 2 => 2 | 3 => 3 | 9 => 9 | 4 => 4 | 171 => 242 | 0 => 0 | 53 => 125 | 37 => 106 | 5 => 5 | 173 => 245 | 212 => 274 | 51 => 275 | 20 => 20 | 213 => 276 | 46 => 204 | 232 => 306 | 233 => 307 | n => n, fun n => match n with | 17 => 0 | 18 => 4 | 19 => 5 | n => n⟩
theorem formatL : Lays.n173 Tryz.prog formatL_ren where
  mixed := by kernel_rfl
  f129 := Tryz.func183.trans (congrArg some (by kernel_rfl))
  f173 := Tryz.func60.trans (congrArg some (by kernel_rfl))
  f246 := Tryz.func102.trans (congrArg some (by kernel_rfl))
  f283 := Tryz.func145.trans (congrArg some (by kernel_rfl))
  f284 := Tryz.func146.trans (congrArg some (by kernel_rfl))
  f285 := Tryz.func147.trans (congrArg some (by kernel_rfl))
  f286 := Tryz.func148.trans (congrArg some (by kernel_rfl))
  f317 := Tryz.func182.trans (congrArg some (by kernel_rfl))
  f318 := Tryz.func184.trans (congrArg some (by kernel_rfl))
  f319 := Tryz.func185.trans (congrArg some (by kernel_rfl))
  f320 := Tryz.func186.trans (congrArg some (by kernel_rfl))
  f337 := Tryz.func210.trans (congrArg some (by kernel_rfl))
  f338 := Tryz.func211.trans (congrArg some (by kernel_rfl))
  t0 := Tryz.underlying0
  a0 := Tryz.isAgg0
  z0 := Tryz.sizeOf0
  v0 := Tryz.zeroValue0
  t2 := Tryz.underlying2
  a2 := Tryz.isAgg2
  z2 := Tryz.sizeOf2
  v2 := Tryz.zeroValue2
  t3 := Tryz.underlying3
  a3 := Tryz.isAgg3
  z3 := Tryz.sizeOf3
  v3 := Tryz.zeroValue3
  t4 := Tryz.underlying4
  a4 := Tryz.isAgg4
  z4 := Tryz.sizeOf4
  v4 := Tryz.zeroValue4
  t5 := Tryz.underlying5
  a5 := Tryz.isAgg5
  z5 := Tryz.sizeOf5
  v5 := Tryz.zeroValue5
  t9 := Tryz.underlying9
  a9 := Tryz.isAgg9
  z9 := Tryz.sizeOf9
  v9 := Tryz.zeroValue9
  t20 := Tryz.underlying20
  a20 := Tryz.isAgg20
  z20 := Tryz.sizeOf20
  v20 := Tryz.zeroValue20
  t37 := Tryz.underlying106
  a37 := Tryz.isAgg106
  z37 := Tryz.sizeOf106
  v37 := Tryz.zeroValue106
  t46 := Tryz.underlying204
  a46 := Tryz.isAgg204
  z46 := Tryz.sizeOf204
  v46 := Tryz.zeroValue204
  t51 := Tryz.underlying275
  a51 := Tryz.isAgg275
  z51 := Tryz.sizeOf275
  v51 := Tryz.zeroValue275
  t53 := Tryz.underlying125
  a53 := Tryz.isAgg125
  z53 := Tryz.sizeOf125
  v53 := Tryz.zeroValue125
  t171 := Tryz.underlying242
  a171 := Tryz.isAgg242
  z171 := Tryz.sizeOf242
  v171 := Tryz.zeroValue242
  t173 := Tryz.underlying245
  a173 := Tryz.isAgg245
  z173 := Tryz.sizeOf245
  v173 := Tryz.zeroValue245
  t212 := Tryz.underlying274
  a212 := Tryz.isAgg274
  z212 := Tryz.sizeOf274
  v212 := Tryz.zeroValue274
  t213 := Tryz.underlying276
  a213 := Tryz.isAgg276
  z213 := Tryz.sizeOf276
  t232 := Tryz.underlying306
  a232 := Tryz.isAgg306
  z232 := Tryz.sizeOf306
  v232 := Tryz.zeroValue306
  t233 := Tryz.underlying307
  a233 := Tryz.isAgg307
  z233 := Tryz.sizeOf307
  v233 := Tryz.zeroValue307
  g17 := by kernel_rfl
  g18 := by kernel_rfl
  g19 := by kernel_rfl
end Go.Proofs.YtfhalebbcbgbdaaGreatDoor
namespace Go.Proofs.YtfhalebbcbgbdaaGreatDoor
set_option linter.unusedSimpArgs false
set_option linter.unusedVariables false
open Go.Proofs Go.Shelf
def joinL_ren : Go.Shelf.Ren := ⟨fun n => match n with | 156 => 58 | 165 => 99 | 166 => 100 | 169 => 90 | 240 => 143 | 241 => 144 | 276 => 180 | 277 => 181 | n => n, fun n => match n with | 31 => 32 | 9 => 9 | 3 => 3 | 4 => 4 | 0 => 0 | 20 => 20 | 72 => 199 | 76 => 217 | 70 => 197 | 37 => 106 | 75 => 167 | 127 => 235 | 164 => 270 | 5 => 5 | 80 => 113 | n => n, fun n => n⟩
theorem joinL : Lays.n156 Tryz.prog joinL_ren where
  mixed := by kernel_rfl
  f156 := Tryz.func58.trans (congrArg some (by kernel_rfl))
  f165 := Tryz.func99.trans (congrArg some (by kernel_rfl))
  f166 := Tryz.func100.trans (congrArg some (by kernel_rfl))
  f169 := Tryz.func90.trans (congrArg some (by kernel_rfl))
  f240 := Tryz.func143.trans (congrArg some (by kernel_rfl))
  f241 := Tryz.func144.trans (congrArg some (by kernel_rfl))
  f276 := Tryz.func180.trans (congrArg some (by kernel_rfl))
  f277 := Tryz.func181.trans (congrArg some (by kernel_rfl))
  t0 := Tryz.underlying0
  a0 := Tryz.isAgg0
  z0 := Tryz.sizeOf0
  v0 := Tryz.zeroValue0
  t3 := Tryz.underlying3
  a3 := Tryz.isAgg3
  z3 := Tryz.sizeOf3
  v3 := Tryz.zeroValue3
  t4 := Tryz.underlying4
  a4 := Tryz.isAgg4
  z4 := Tryz.sizeOf4
  v4 := Tryz.zeroValue4
  t9 := Tryz.underlying9
  a9 := Tryz.isAgg9
  z9 := Tryz.sizeOf9
  v9 := Tryz.zeroValue9
  t20 := Tryz.underlying20
  a20 := Tryz.isAgg20
  z20 := Tryz.sizeOf20
  v20 := Tryz.zeroValue20
  t31 := Tryz.underlying32
  a31 := Tryz.isAgg32
  z31 := Tryz.sizeOf32
  v31 := Tryz.zeroValue32
  t37 := Tryz.underlying106
  a37 := Tryz.isAgg106
  z37 := Tryz.sizeOf106
  v37 := Tryz.zeroValue106
  t70 := Tryz.underlying197
  a70 := Tryz.isAgg197
  z70 := Tryz.sizeOf197
  v70 := Tryz.zeroValue197
  t72 := Tryz.underlying199
  a72 := Tryz.isAgg199
  z72 := Tryz.sizeOf199
  v72 := Tryz.zeroValue199
  t75 := Tryz.underlying167
  a75 := Tryz.isAgg167
  z75 := Tryz.sizeOf167
  v75 := Tryz.zeroValue167
  t76 := Tryz.underlying217
  a76 := Tryz.isAgg217
  z76 := Tryz.sizeOf217
  v76 := Tryz.zeroValue217
  t127 := Tryz.underlying235
  a127 := Tryz.isAgg235
  z127 := Tryz.sizeOf235
  v127 := Tryz.zeroValue235
  t164 := Tryz.underlying270
  a164 := Tryz.isAgg270
  z164 := Tryz.sizeOf270
  v164 := Tryz.zeroValue270
theorem joinX : Builder.Extra Tryz.prog joinL_ren where
  sizeBuilder := by kernel_rfl
  liesBuilder := by kernel_rfl
  t5 := Tryz.underlying5
  a5 := Tryz.isAgg5
  z5 := Tryz.sizeOf5
  v5 := Tryz.zeroValue5
  infoByte := by kernel_rfl
  cellsByte := by kernel_rfl
  sizeByte := by kernel_rfl
  neB5 := by decide
end Go.Proofs.YtfhalebbcbgbdaaGreatDoor
namespace Go.Proofs.YtfhalebbcbgbdaaGreatDoor
open Go.H Go.Proofs
open Go.RowKit (Below)
set_option linter.unusedSimpArgs false
set_option linter.unusedVariables false
set_option synthInstance.maxSize 100000
set_option synthInstance.maxHeartbeats 400000
abbrev decS (n : Nat) : ByteArray := ⟨(Lib.decDigits n).toArray⟩
theorem Itoa_spec {h : Heap} {R : List Asn} (hs : sat h R) {n : Nat} (hn : n < 100) {Q : Value → Heap → Prop} (hq : ∀ h', sat h' R → Q (.string (decS n)) h') :
    HCalls Tryz.prog 59 #[.int .i64 n] h Q :=
  calls_below hs (fun w hw => (Any.strconv_Itoa_small itoaL n hn w).mono fun e w' ⟨h1, h2⟩ => ⟨h1, h2 ▸ Below.refl _ _⟩) hq
theorem Format_small {h : Heap} {R : List Asn} (hs : sat h R) {n : Nat} (hn : n < 100) {Q : Value → Heap → Prop} (hq : ∀ h', sat h' R → Q (.string (decS n)) h') :
    HCalls Tryz.prog 60 #[.int .i64 n, .int .i64 10] h Q :=
  calls_below hs (fun w hw => (Any.strconv_FormatInt_10_small formatL n hn w).mono fun e w' ⟨h1, h2⟩ => ⟨h1, h2 ▸ Below.refl _ _⟩) hq
theorem Join_spec {h : Heap} {R : List Asn} {b : Nat} {xs : List ByteArray} {sep : ByteArray} (hs : sat h (cells b (xs.map fun x => Value.string x).toArray :: R)) (hN : xs.length ≤ 140737488355328)
    (hlen : (Lib.join (xs.map (·.data.toList)) sep.data.toList).length ≤ 140737488355328) {Q : Value → Heap → Prop}
    (hq : ∀ h', sat h' (cells b (xs.map fun x => Value.string x).toArray :: R) → Q (.string ⟨(Lib.join (xs.map (·.data.toList)) sep.data.toList).toArray⟩) h') :
    HCalls Tryz.prog 58 #[.slice (some ⟨b, 0, none⟩) xs.length xs.length, .string sep] h Q :=
  calls_below hs (fun w hw => Any.strings_Join joinL joinX b 0 xs.length xs sep w (fun j x hx => by
    have := hs.cell j
    simp [hx] at this
    have e : w.cell? ⟨b, 0 + j, none⟩ = cellH h ⟨b, j, none⟩ := by rw [Nat.zero_add]; subst hw; rfl
    rw [e]; exact this) (by rw [hw]; exact hs.cells_lt) hN (Nat.le_refl _) hlen) hq
def goodLabel (a b c d : Int) : Prop := goodTag (a, b) ∧ 0 ≤ c ∧ c ≤ 32 ∧ 0 ≤ d ∧ d ≤ 2
instance (a b c d : Int) : Decidable (goodLabel a b c d) := by unfold goodLabel; infer_instance
theorem lgood_spec {h : Heap} {R : List Asn} (hs : sat h R) {a b c d : Int} {Q : Value → Heap → Prop} (hq : ∀ h', sat h' R → Q (.bool (decide (goodLabel a b c d))) h') :
    HCalls Tryz.prog 57 #[.agg #[.int .i64 a, .int .i64 b, .int .i64 c, .int .i64 d]] h Q := by
  refine tags_Label_good_calls (a, b, c, d, ()) h Q ?_
  unfold tags_Label_good
  refine new_cells hs fun tb h1 hs1 => ?_
  refine bind_cut (fun x h' => sat h' R ∧ x.1 = decide (goodLabel a b c d)) ?_ ?_
  · refine loadN_of (ts := [.int .i64, .int .i64]) (a, b, ()) (fun j v hv => ?_) ?_
    · rw [add_own, add_own, hs1.cell]
      match j, hv with
      | 0, hv => exact hv
      | 1, hv => exact hv
      | j + 2, hv => cases (show (none : Option Value) = some v from hv)
    refine bind_call1 (tgood_spec (t := (a, b)) hs1 fun h2 hs2 => ⟨decide (goodTag (a, b)), rfl, ?_⟩)
    have c2 : cellH h2 ⟨tb, 2, none⟩ = some (.int .i64 c) := hs2.cell 2
    have c3 : cellH h2 ⟨tb, 3, none⟩ = some (.int .i64 d) := hs2.cell 3
    have hR := hs2.drop
    unfold goodLabel
    by_cases g0 : goodTag (a, b) <;> by_cases g1 : 0 ≤ c <;> by_cases g2 : c ≤ 32 <;> by_cases g3 : 0 ≤ d <;> by_cases g4 : d ≤ 2 <;> simp [add_own, c2, c3, g0, g1, g2, g3, g4] <;> first | exact hR | exact ⟨hR, by omega⟩
  · rintro ⟨x, ⟨⟩⟩ h2 ⟨hs2, hx⟩
    simp only at hx
    subst hx
    exact hq h2 hs2
def textOf (a : Nat) (F : ByteArray) (c d : Nat) : ByteArray := ⟨(Lib.join [(decS a).data.toList, F.data.toList, (decS c).data.toList, (decS d).data.toList] [46]).toArray⟩
theorem Text_bad {h : Heap} {R : List Asn} (hs : sat h R) {a b c d : Int} (hg : ¬ goodLabel a b c d) {Q : Value → Heap → Prop} (hq : ∀ h', sat h' R → Q (.string (ByteArray.mk #[])) h') :
    HCalls Tryz.prog 29 #[.agg #[.int .i64 a, .int .i64 b, .int .i64 c, .int .i64 d]] h Q := by
  refine tags_Label_Text_calls (a, b, c, d, ()) h Q ?_
  unfold tags_Label_Text
  refine new_cells hs fun tb h1 hs1 => ?_
  refine loadN_cells (ts := [.int .i64, .int .i64, .int .i64, .int .i64]) (a, b, c, d, ()) hs1 rfl ?_
  refine bind_call1 (lgood_spec hs1 fun h2 hs2 => ⟨_, rfl, ?_⟩)
  (try dsimp only); rw [HM.ite_apply, if_pos (by simp [hg])]
  exact hq h2 hs2.drop
theorem Text_of {h : Heap} {R : List Asn} (hs : sat h R) {a b c d : Nat} {F : ByteArray} (hg : goodLabel a b c d)
    (hF : ∀ (X : Asn) (h : Heap) (Q : Value → Heap → Prop), sat h (X :: R) → (∀ h', sat h' (X :: R) → Q (.string F) h') → HCalls Tryz.prog 60 #[.int .i64 b, .int .i64 10] h Q)
    (hlen : (textOf a F c d).size ≤ 140737488355328) {Q : Value → Heap → Prop} (hq : ∀ h', sat h' R → Q (.string (textOf a F c d)) h') :
    HCalls Tryz.prog 29 #[.agg #[.int .i64 a, .int .i64 b, .int .i64 c, .int .i64 d]] h Q := by
  obtain ⟨ha0, ha1, hb0, hb1⟩ := hg.1
  obtain ⟨-, hc0, hc1, hd0, hd1⟩ := hg
  have hg : goodLabel a b c d := ⟨⟨ha0, ha1, hb0, hb1⟩, hc0, hc1, hd0, hd1⟩
  simp only at ha0 ha1 hb0 hb1
  refine tags_Label_Text_calls (a, b, c, d, ()) h Q ?_
  unfold tags_Label_Text
  refine new_cells hs fun tb h1 hs1 => ?_
  refine loadN_cells (ts := [.int .i64, .int .i64, .int .i64, .int .i64]) (a, b, c, d, ()) hs1 rfl ?_
  refine bind_call1 (lgood_spec hs1 fun h2 hs2 => ⟨_, rfl, ?_⟩)
  (try dsimp only); rw [HM.ite_apply, if_neg (by simp [hg])]
  have hC : ∀ {h' : Heap} {R : List Asn}, sat h' (cells tb #[.int .i64 a, .int .i64 b, .int .i64 c, .int .i64 d] :: R) →
      cellH h' ⟨tb, 0, none⟩ = some (.int .i64 a) ∧ cellH h' ⟨tb, 1, none⟩ = some (.int .i64 b) ∧ cellH h' ⟨tb, 2, none⟩ = some (.int .i64 c) ∧ cellH h' ⟨tb, 3, none⟩ = some (.int .i64 d) :=
    fun hs' => ⟨hs'.cell 0, hs'.cell 1, hs'.cell 2, hs'.cell 3⟩
  refine ⟨a, by rw [add_own, add_own]; exact (hC hs2).1, b, by rw [add_own, add_own]; exact (hC hs2).2.1, c, by rw [add_own]; exact (hC hs2).2.2.1, d, by rw [add_own]; exact (hC hs2).2.2.2, ?_⟩
  refine bind_call1 (Itoa_spec hs2 (by omega) fun h3 hs3 => ⟨decS a, rfl, ?_⟩)
  refine ⟨d, by rw [add_own]; exact (hC hs3).2.2.2, rfl, c, by rw [add_own]; exact (hC hs3).2.2.1, rfl, b, by rw [add_own, add_own]; exact (hC hs3).2.1, rfl, ?_⟩
  refine bind_call1 (hF _ _ _ hs3 fun h4 hs4 => ⟨F, rfl, ?_⟩)
  refine ⟨d, by rw [add_own]; exact (hC hs4).2.2.2, rfl, c, by rw [add_own]; exact (hC hs4).2.2.1, rfl, ?_⟩
  refine bind_call1 (Itoa_spec hs4 (by omega) fun h5 hs5 => ⟨decS c, rfl, ?_⟩)
  refine ⟨d, by rw [add_own]; exact (hC hs5).2.2.2, rfl, ?_⟩
  refine bind_call1 (Itoa_spec hs5 (by omega) fun h6 hs6 => ⟨decS d, rfl, ?_⟩)
  refine new_cells hs6 fun jb h7 hs7 => ?_
  refine bind_call1 (Join_spec (xs := [decS a, F, decS c, decS d]) (sep := ByteArray.mk #[46]) hs7 (by simp) ?_ fun h8 hs8 => ⟨textOf a F c d, rfl, ?_⟩)
  · have : (textOf a F c d).size = (Lib.join [(decS a).data.toList, F.data.toList, (decS c).data.toList, (decS d).data.toList] [46]).length := by
      show (List.toArray _).size = _
      simp
    rw [this] at hlen
    exact hlen
  · exact hq h8 hs8.drop.drop
end Go.Proofs.YtfhalebbcbgbdaaGreatDoor
namespace Go.Proofs.YtfhalebbcbgbdaaGreatDoor
open Go.H Go.Proofs
set_option linter.unusedSimpArgs false
set_option linter.unusedVariables false
set_option synthInstance.maxSize 100000
set_option synthInstance.maxHeartbeats 400000
set_option maxRecDepth 100000
def dblN : Nat → Nat → Nat → Nat
  | 0, n, _ => n
  | k + 1, n, m => if n < m then dblN k (2 * n) m else n
def leastN (l : Int) : Nat := (max 1 (min l 1048576)).toNat
def mostN (l m : Int) : Nat := (max ((leastN l : Nat) : Int) (min m 1048576)).toNat
def baseN (t l m : Int) : Nat := min (dblN t.toNat (leastN l) (mostN l m)) (mostN l m)
def delayN (t l m : Int) (d : Nat) : Nat := baseN t l m + d % (baseN t l m / 2 + 1)
theorem leastN_le (l : Int) : 1 ≤ leastN l ∧ leastN l ≤ 1048576 := by unfold leastN; omega
theorem mostN_le (l m : Int) : leastN l ≤ mostN l m ∧ mostN l m ≤ 1048576 := by
  have := leastN_le l
  unfold mostN
  omega
theorem dblN_full {k n m : Nat} (h : ¬ n < m) : dblN k n m = n := by
  cases k with
  | zero => rfl
  | succ k => unfold dblN; rw [if_neg h]
variable {h : Heap}
theorem least_eq (l : Int) : (if 1 < ((if 1048576 < (l : Int) then 1048576 else l) : Int) then (if 1048576 < (l : Int) then 1048576 else l) else 1) = ((leastN l : Nat) : Int) := by
  unfold leastN
  split <;> split <;> omega
theorem most_eq (l m : Int) : (if ((leastN l : Nat) : Int) < ((if 1048576 < (m : Int) then 1048576 else m) : Int) then (if 1048576 < (m : Int) then 1048576 else m) else ((leastN l : Nat) : Int)) = ((mostN l m : Nat) : Int) := by
  unfold mostN
  split <;> split <;> omega
theorem draw_eq {B d : Nat} (hB : 1 ≤ B ∧ B ≤ 1048576) (hd : d < 18446744073709551616) :
    IntKind.wrap .u64 (IntKind.wrap .i64 ((IntKind.wrap .i64 (Int.tdiv (B : Int) 2)) + 1)) = ((B / 2 + 1 : Nat) : Int) ∧
    IntKind.wrap .i64 ((B : Int) + (IntKind.wrap .i64 (Int.tmod (d : Int) ((B / 2 + 1 : Nat) : Int)))) = ((B + d % (B / 2 + 1) : Nat) : Int) := by
  have e0 : Int.tdiv (B : Int) 2 = ((B / 2 : Nat) : Int) := by rw [Int.tdiv_eq_ediv_of_nonneg (by omega)]; omega
  have e1 : IntKind.wrap .i64 ((B / 2 : Nat) : Int) = ((B / 2 : Nat) : Int) := wrap_id (by omega) (by omega)
  have e2 : IntKind.wrap .i64 (((B / 2 : Nat) : Int) + 1) = ((B / 2 + 1 : Nat) : Int) := by rw [wrap_id (by omega) (by omega)]; omega
  have e3 : IntKind.wrap .u64 ((B / 2 + 1 : Nat) : Int) = ((B / 2 + 1 : Nat) : Int) := by
    simp [IntKind.wrap, IntKind.bits, IntKind.signed]; omega
  have e4 : Int.tmod (d : Int) ((B / 2 + 1 : Nat) : Int) = ((d % (B / 2 + 1) : Nat) : Int) := by
    rw [Int.tmod_eq_emod_of_nonneg (by omega)]
    omega
  have hlt := Nat.mod_lt d (show B / 2 + 1 > 0 by omega)
  refine ⟨by rw [e0, e1, e2, e3], ?_⟩
  rw [e4, wrap_id (n := ((d % (B / 2 + 1) : Nat) : Int)) (by omega) (by omega), wrap_id (by omega) (by omega)]
  omega
theorem Delay_spec {t l m : Int} {d : Nat} (ht : t ≤ 9223372036854775807) (hd : d < 18446744073709551616) {Q : Value → Heap → Prop} (hq : Q (.int .i64 ((delayN t l m d : Nat) : Int)) h) :
    HCalls Tryz.prog 34 #[.int .i64 t, .int .i64 l, .int .i64 m, .int .u64 (d : Int)] h Q := by
  refine bridge_Delay_calls t l m d h Q ?_
  unfold bridge_Delay
  have hl := leastN_le l
  have hm := mostN_le l m
  simp only [least_eq l, most_eq l m]
  (try dsimp only); rw [HM.bind_apply]
  refine loop_gx (γ := Nat × Nat) (hb := fun s => by
      repeat' with_reducible first
        | refine @mono_bind _ _ _ _ ?_ (fun _ => ?_)
        | refine @mono_ite _ _ _ _ ?_ ?_
      all_goals infer_instance)
    (fun g c h' => h' = h ∧ c.1 = ((g.2 : Nat) : Int) ∧ c.2.1.toNat = g.1 ∧ c.2.1 ≤ 9223372036854775807 ∧ 1 ≤ g.2 ∧ g.2 ≤ 2097152 ∧ dblN t.toNat (leastN l) (mostN l m) = dblN g.1 g.2 (mostN l m)) (fun g => g.1) (t.toNat, leastN l)
    ⟨rfl, rfl, rfl, ht, hl.1, by omega, rfl⟩ ?_
  rintro ⟨k, n⟩ ⟨x, c, ⟨⟩⟩ h1 ⟨rfl, hx, hc, hc2, hn1, hn2, he⟩
  simp only at hx hc hc2 hn1 hn2 he
  subst hx
  refine bind_cut (fun z h' => h' = h1 ∧ z.1 = decide (0 < c ∧ n < mostN l m)) ?_ ?_
  · (try dsimp only); rw [HM.ite_apply]
    by_cases h0 : 0 < c
    · rw [if_pos (by simpa using h0)]
      refine ⟨rfl, ?_⟩
      simp [h0]
    · rw [if_neg (by simpa using h0)]
      exact ⟨rfl, by simp [h0]⟩
  rintro ⟨z, ⟨⟩⟩ h2 ⟨rfl, hz⟩
  simp only at hz
  subst hz
  (try dsimp only); rw [HM.ite_apply]
  by_cases hgo : 0 < c ∧ n < mostN l m
  · rw [if_pos (by simpa using hgo)]
    simp only [Sum.elim_inl, Sum.elim_inr, HM.pure_apply]
    obtain ⟨k, rfl⟩ : ∃ k', k = k' + 1 := ⟨k - 1, by omega⟩
    refine .mk (k, 2 * n) (by simp only; omega) ⟨rfl, ?_, ?_, ?_, by simp only; omega, by simp only; omega, ?_⟩
    · simp only
      rw [wrap_id (by omega) (by omega)]
      omega
    · simp only
      rw [wrap_id (by omega) (by omega)]
      omega
    · simp only
      rw [wrap_id (by omega) (by omega)]
      omega
    · rw [he]
      conv => lhs; unfold dblN
      rw [if_pos hgo.2]
  · rw [if_neg (by simpa using hgo)]
    simp only [Sum.elim_inl, Sum.elim_inr, HM.pure_apply]
    have hend : dblN k n (mostN l m) = n := by
      by_cases h0 : 0 < c
      · exact dblN_full fun e => hgo ⟨h0, e⟩
      · have : k = 0 := by omega
        subst this
        rfl
    rw [hend] at he
    have hB : baseN t l m = min n (mostN l m) := by unfold baseN; rw [he]
    have eB : (if ((mostN l m : Nat) : Int) < (n : Int) then ((mostN l m : Nat) : Int) else (n : Int)) = ((baseN t l m : Nat) : Int) := by
      rw [hB]
      split <;> omega
    have hBl : 1 ≤ baseN t l m ∧ baseN t l m ≤ 1048576 := by rw [hB]; omega
    obtain ⟨d1, d2⟩ := draw_eq (d := d) hBl hd
    refine ⟨by decide, ?_⟩
    rw [eB, d1, d2]
    refine ⟨by omega, ?_⟩
    exact hq
end Go.Proofs.YtfhalebbcbgbdaaGreatDoor
namespace Go.Proofs.YtfhalebbcbgbdaaGreatDoor
open Go.H Go.Proofs Go.Lib
set_option linter.unusedSimpArgs false
set_option linter.unusedVariables false
set_option synthInstance.maxSize 100000
set_option synthInstance.maxHeartbeats 400000
set_option maxRecDepth 100000
variable {h h0 : Heap} {R : List Asn}
theorem CloneR_spec {s : Slc} {xs : List RuleT} (hs : sat h (ownS encRu 5 s xs :: R)) (hb : xs.length ≤ 1000) {Q : Value → Heap → Prop}
    (hq : ∀ h' s', sat h' (ownS encRu 5 s' xs :: ownS encRu 5 s xs :: R) → Q (.slice s'.a s'.len s'.cap) h') : HCalls Tryz.prog 37 #[.slice s.a s.len s.cap] h Q := by
  refine slices_Clone_Rule_calls s h Q ?_
  unfold slices_Clone_Rule
  (try dsimp only); rw [HM.ite_apply]
  cases ha : s.a with
  | none =>
    rw [if_pos (by rfl)]
    rcases ownS_cases hs with ⟨-, -, rfl, -⟩ | ⟨b, o, cs, ho, -⟩
    · exact hq h ⟨none, 0, 0⟩ (ownS_nil hs)
    · rw [ho.a] at ha; cases ha
  | some a =>
    rw [if_neg (by simp)]
    have hl := hs.own_len
    refine new_cells hs fun x h1 hs1 => ?_
    (try dsimp only); rw [HM.bind_apply, hl]
    refine append_own (ys := xs) eRu_len eRu_cell rfl (ownS_none (enc := encRu) (size := 5) (a := some ⟨x, 0, none⟩) hs1) rfl ?_ (by decide) (by decide) (by simp only [List.length_nil]; omega) fun s' h2 hs2 => ?_
    · have := row_reads eRu_len (hs1.p1.own_row eRu_len) (by decide)
      rw [hl] at this
      exact by simpa [srcSlc, hl] using this
    · rw [List.nil_append] at hs2
      exact hq h2 s' (hs2.re [1, 0, 2]).drop
def brgA (b : Nat) (rs : List RuleT) (o : OutS) : Asn := exA fun x : Slc × Nat => star (cells b #[.slice x.1.a x.1.len x.1.cap, at0 x.2]) (star (ownS encRu 5 x.1 rs) (outA x.2 o))
theorem brgA_iff {b : Nat} {rs : List RuleT} {o : OutS} : sat h (brgA b rs o :: R) ↔ ∃ (S : Slc) (ob : Nat), sat h (cells b #[.slice S.a S.len S.cap, at0 ob] :: ownS encRu 5 S rs :: outA ob o :: R) := by
  unfold brgA
  rw [sat.ex_iff]
  constructor
  · rintro ⟨⟨S, ob⟩, hs⟩
    rw [sat.star_iff] at hs
    exact ⟨S, ob, (sat.star_iff.1 hs.p1).re [2, 0, 1]⟩
  · rintro ⟨S, ob, hs⟩
    refine ⟨(S, ob), ?_⟩
    rw [sat.star_iff]
    exact (sat.star_iff.2 (hs.re [1, 2, 0])).p1
abbrev freshO : OutS := ⟨⟨64, 0, []⟩, 64, false, [], []⟩
def codeRs : List RuleT → Int
  | [] => 0
  | r :: rs => if chkR r = 0 then codeRs rs else chkR r
theorem brgNew_spec {s : Slc} {rs : List RuleT} (hs : sat h (ownS encRu 5 s rs :: old h0 :: R)) (ht : TP h0) (hz : ∀ r ∈ rs, szR r) (hl : rs.length ≤ 16) {Q : Value → Heap → Prop}
    (hbad : codeRs rs ≠ 0 → ∀ h', sat h' (ownS encRu 5 s rs :: old h0 :: R) → Q (.tuple #[.pointer none, .int .u8 (codeRs rs)]) h')
    (hok : codeRs rs = 0 → ∀ h' b, sat h' (brgA b rs freshO :: ownS encRu 5 s rs :: old h0 :: R) → Q (.tuple #[at0 b, .int .u8 0]) h') :
    HCalls Tryz.prog 12 #[.slice s.a s.len s.cap] h Q := by
  refine bridge_New_calls s h Q ?_
  unfold bridge_New
  have hsl := hs.own_len
  (try dsimp only); rw [HM.ite_apply, if_neg (by simp only [decide_eq_true_eq, hsl]; omega)]
  (try dsimp only); rw [HM.bind_apply]
  refine loop_gx (γ := Nat) (hb := fun s => by
      repeat' with_reducible first
        | refine @mono_bind _ _ _ _ ?_ (fun _ => ?_)
        | refine @mono_ite _ _ _ _ ?_ ?_
      all_goals infer_instance)
    (fun g c h' => c.1 = (((rs.length - g : Nat)) : Int) ∧ g ≤ rs.length ∧ codeRs rs = codeRs (rs.drop (rs.length - g)) ∧ sat h' (ownS encRu 5 s rs :: old h0 :: R)) (fun g => g) rs.length
    ⟨by simp, Nat.le_refl _, by simp, hs⟩ ?_
  clear hs
  rintro g ⟨c, ⟨⟩⟩ h1 ⟨hc, hg, he, hs1⟩
  simp only at hc
  subst hc
  (try dsimp only); rw [HM.ite_apply]
  by_cases hi : rs.length - g < rs.length
  · rw [if_pos (by simp only [decide_eq_true_eq, hsl]; omega)]
    obtain ⟨r, hr⟩ : ∃ r, rs[rs.length - g]? = some r := ⟨_, List.getElem?_eq_getElem hi⟩
    rw [drop_at hr, codeRs] at he
    (try dsimp only); rw [HM.bind_apply]
    refine idx_row (hs1.own_row eRu_len) hr fun p hp => ?_
    (try dsimp only); rw [HM.bind_apply]
    refine load_Ru hp ?_
    refine new_cells hs1 fun x5 h2 hs2' => ?_
    (try dsimp only); rw [HM.bind_apply]
    refine storeN_all' hs2' rfl rfl fun h3 hs3 => ?_
    refine loadN_cells (ts := [.str, .int .i64, .int .i64, .str, .str]) r hs3 rfl ?_
    refine bind_call1 (Check_spec hs3.p2 ht (hz r (List.mem_of_getElem? hr)) fun h4 hs4 => ⟨_, rfl, ?_⟩)
    (try dsimp only); rw [HM.ite_apply]
    by_cases hcr : chkR r = 0
    · rw [if_neg (by simpa using hcr)]
      rw [if_pos hcr, show rs.length - g + 1 = rs.length - (g - 1) by omega] at he
      simp only [Sum.elim_inl, Sum.elim_inr, HM.pure_apply]
      exact .mk (g - 1) (by omega) ⟨by simp only; rw [wrap_id (by omega) (by omega)]; omega, by omega, he, (hs4.re [1, 2, 0]).drop⟩
    · rw [if_pos (by simpa using hcr)]
      rw [if_neg hcr] at he
      simp only [Sum.elim_inl, Sum.elim_inr, HM.pure_apply]
      have := hbad (by rw [he]; exact hcr) h4 (hs4.re [1, 2, 0]).drop
      rw [he] at this
      exact this
  · rw [if_neg (by simp only [decide_eq_true_eq, hsl]; omega)]
    simp only [Sum.elim_inl, Sum.elim_inr, HM.pure_apply]
    rw [show rs.drop (rs.length - g) = [] by simp; omega] at he
    refine bind_call1 (CloneR_spec hs1 (by omega) fun h2 s2 hs2 => ⟨s2, rfl, ?_⟩)
    refine bind_call1 (outNew_spec hs2 64 fun ob h3 hs3 => ⟨some ⟨ob, 0, none⟩, rfl, ?_⟩)
    refine new_cells hs3 fun b h4 hs4 => ?_
    exact hok he h4 b (brgA_iff.2 ⟨s2, ob, hs4.re [0, 2, 1]⟩)
theorem dig (n : Nat) (hn : n < 10) : Lib.decDigits n = [(48 + n).toUInt8] := by
  rw [Lib.decDigits]
  rw [dif_pos hn]
  try rfl
theorem text23 (a b c d : Nat) (ha : a < 10) (hb : b < 10) (hc : c < 10) (hd : d < 10) : textOf a (decS b) c d = ByteArray.mk #[(48 + a).toUInt8, 46, (48 + b).toUInt8, 46, (48 + c).toUInt8, 46, (48 + d).toUInt8] := by
  simp [textOf, decS, dig a ha, dig b hb, dig c hc, dig d hd, Lib.join_cons, Lib.joinTail]
theorem Text_dig (hs : sat h R) {a b c d : Nat} (hg : goodLabel a b c d) (hb : b < 10) (hc : c < 10) {Q : Value → Heap → Prop}
    (hq : ∀ h', sat h' R → Q (.string (ByteArray.mk #[(48 + a).toUInt8, 46, (48 + b).toUInt8, 46, (48 + c).toUInt8, 46, (48 + d).toUInt8])) h') :
    HCalls Tryz.prog 29 #[.agg #[.int .i64 a, .int .i64 b, .int .i64 c, .int .i64 d]] h Q := by
  have ha : a < 10 := by have := hg.1.2.1; simp only at this; omega
  have hd : d < 10 := by have := hg.2.2.2.2; omega
  refine Text_of (F := decS b) hs hg (fun X h Q hs hq => Format_small hs (by omega) hq) ?_ fun h' hs' => ?_
  · rw [text23 a b c d ha hb hc hd]
    exact (by decide : (7 : Nat) ≤ 140737488355328)
  · rw [text23 a b c d ha hb hc hd]
    exact hq h' hs'
def ruleW : RuleT := (ByteArray.mk #[35], 0, 1, ByteArray.mk #[], ByteArray.mk #[120, 47], ())
theorem hopW : routeP (ByteArray.mk #[97]) 2 0 [ruleW] = [(0, ByteArray.mk #[120, 47, 97], 1, ())] := by decide
theorem ruleW_ok : codeRs [ruleW] = 0 := by decide
abbrev encMs (x : ByteArray × ByteArray × Int × Bool × ByteArray × Unit) : List Value := [.string x.1, .string x.2.1, .int .i64 x.2.2.1, .bool x.2.2.2.1, .string x.2.2.2.2.1]
theorem eMsU_len : ∀ x : ByteArray × ByteArray × Int × Bool × ByteArray × Unit, (encMs x).length = 5 := fun _ => rfl
theorem eMsU_cell : ∀ x : ByteArray × ByteArray × Int × Bool × ByteArray × Unit, ∀ v ∈ encMs x, v.oneCell' = true := fun x v hv => by
  simp only [encMs, List.mem_cons, List.not_mem_nil, or_false] at hv
  rcases hv with rfl | rfl | rfl | rfl | rfl <;> rfl
def msgW : ByteArray × ByteArray × Int × Bool × ByteArray × Unit := (ByteArray.mk #[120, 47, 97], ByteArray.mk #[112], 1, false, ByteArray.mk #[48, 46, 53, 46, 49, 46, 49], ())
theorem RouteW_spec {b : Nat} {o : OutS} (hs : sat h (brgA b [ruleW] o :: old h0 :: R)) (ht : TP h0) {Q : Value → Heap → Prop}
    (hq : ∀ h' S, sat h' (ownS encMs 5 S [msgW] :: brgA b [ruleW] o :: old h0 :: R) → Q (.slice S.a S.len S.cap) h') :
    HCalls Tryz.prog 16 #[at0 b, .agg #[.int .i64 0, .int .i64 5, .int .i64 0, .int .i64 2], .agg #[.string (ByteArray.mk #[97]), .string (ByteArray.mk #[112]), .int .i64 0, .bool false, .string (ByteArray.mk #[])]] h Q := by
  refine bridge_Bridge_Route_calls (some ⟨b, 0, none⟩) (0, 5, 0, 2, ()) (ByteArray.mk #[97], ByteArray.mk #[112], 0, false, ByteArray.mk #[], ()) h Q ?_
  unfold bridge_Bridge_Route
  obtain ⟨S0, ob, hs0⟩ := brgA_iff.1 hs
  refine new_cells hs0 fun x1 h1 hs1 => ?_
  refine new_cells hs1 fun x2 h2 hs2 => ?_
  refine bind_cut (fun z h' => z.1 = false ∧ sat h' (cells x2 #[.string (ByteArray.mk #[97]), .string (ByteArray.mk #[112]), .int .i64 0, .bool false, .string (ByteArray.mk #[])] :: cells x1 #[.int .i64 0, .int .i64 5, .int .i64 0, .int .i64 2] :: cells b #[.slice S0.a S0.len S0.cap, at0 ob] :: ownS encRu 5 S0 [ruleW] :: outA ob o :: old h0 :: R)) ?_ ?_
  · (try dsimp only); rw [HM.ite_apply, if_neg (by simp)]
    refine loadN_cells (ts := [.int .i64, .int .i64, .int .i64, .int .i64]) (0, 5, 0, 2, ()) hs2.p1 rfl ?_
    refine bind_call1 (Text_dig (a := 0) (b := 5) (c := 0) (d := 2) hs2 (by decide) (by decide) (by decide) fun h3 hs3 => ⟨_, rfl, ?_⟩)
    (try dsimp only); rw [HM.ite_apply, if_neg (by decide)]
    refine ⟨0, by rw [add_own]; exact hs3.p1.cell 2, ?_⟩
    exact ⟨rfl, hs3⟩
  rintro ⟨z, ⟨⟩⟩ h3 ⟨hz, hs3⟩
  simp only at hz
  subst hz
  clear hs2 hs1
  (try dsimp only); rw [HM.ite_apply, if_neg (by simp)]
  refine ⟨_, rfl, S0, by rw [add_own]; exact hs3.p2.cell 0, ByteArray.mk #[97], by rw [add_own]; exact hs3.cell 0, 2, by rw [add_own]; exact hs3.p1.cell 3, ?_⟩
  refine bind_call1 (rmRoute_spec (n := ByteArray.mk #[97]) (q := 2) (hs3.re [3, 5, 0, 1, 2, 4]) ht (fun r hr => ?_) (by decide) (by simp) fun h4 S hs4' => ⟨S, rfl, ?_⟩)
  · rw [List.mem_singleton.1 hr]
    exact ⟨by decide, by decide, by decide⟩
  rw [hopW] at hs4'
  have hs4 := hs4'.re [0, 3, 4, 5, 1, 6, 2]
  clear hs4' hs3
  have hSl : S.len = 1 := hs4.own_len
  (try dsimp only); rw [HM.bind_apply]
  refine loop_gx (γ := Nat) (hb := fun s => by
      repeat' with_reducible first
        | refine @mono_bind _ _ _ _ ?_ (fun _ => ?_)
        | refine @mono_ite _ _ _ _ ?_ ?_
        | refine @mono_req _ _ _ ?_
      all_goals infer_instance)
    (fun g c h' => (g = 1 ∧ c.2.1 = 0 ∧ c.1 = ⟨none, 0, 0⟩ ∧ sat h' (ownS encHo 3 S [(0, ByteArray.mk #[120, 47, 97], 1, ())] :: cells x2 #[.string (ByteArray.mk #[97]), .string (ByteArray.mk #[112]), .int .i64 0, .bool false, .string (ByteArray.mk #[])] :: cells x1 #[.int .i64 0, .int .i64 5, .int .i64 0, .int .i64 2] :: cells b #[.slice S0.a S0.len S0.cap, at0 ob] :: ownS encRu 5 S0 [ruleW] :: outA ob o :: old h0 :: R)) ∨
      (g = 0 ∧ c.2.1 = 1 ∧ sat h' (ownS encMs 5 c.1 [msgW] :: brgA b [ruleW] o :: old h0 :: R))) (fun g => g) 1
    (.inl ⟨rfl, rfl, rfl, hs4⟩) ?_
  clear hs4
  rintro g ⟨out, c, ⟨⟩⟩ h5 (⟨rfl, hc, ho, hs5⟩ | ⟨rfl, hc, hs5⟩)
  · simp only at hc ho
    subst hc
    subst ho
    (try dsimp only); rw [HM.ite_apply, if_pos (by simp [hSl])]
    (try dsimp only); rw [HM.bind_apply]
    refine idx_row (i := 0) (hs5.own_row eHo_len) (x := ((0 : Int), ByteArray.mk #[120, 47, 97], (1 : Int), ())) rfl fun p hp => ?_
    (try dsimp only); rw [HM.bind_apply]
    refine loadN_of (ts := [.int .i64, .str, .int .i64]) ((0 : Int), ByteArray.mk #[120, 47, 97], (1 : Int), ()) (fun i v hv => hp i v hv) ?_
    refine new_cells hs5 fun x16 h6 hs6' => ?_
    (try dsimp only); rw [HM.bind_apply]
    refine storeN_all' hs6' rfl rfl fun h7 hs7 => ?_
    (try dsimp only); rw [HM.bind_apply, add_own]
    refine loadN_of (ts := [.int .i64, .int .i64]) ((0 : Int), (5 : Int), ()) (fun i v hv => ?_) ?_
    · rw [Addr.add_at, hs7.p3.cell]
      match i, hv with
      | 0, hv => exact hv
      | 1, hv => exact hv
      | j + 2, hv => cases (show (none : Option Value) = some v from hv)
    refine ⟨0, by rw [add_own]; exact hs7.p3.cell 2, 1, by rw [add_own]; exact hs7.cell 2, ?_⟩
    refine new_cells hs7 fun x20 h8 hs8' => ?_
    (try dsimp only); rw [HM.bind_apply]
    refine storeN_all' hs8' rfl rfl fun h9 hs9 => ?_
    refine ⟨ByteArray.mk #[120, 47, 97], by rw [add_own]; exact hs9.p1.cell 1, ByteArray.mk #[112], by rw [add_own]; exact hs9.p3.cell 1, false, by rw [add_own]; exact hs9.p3.cell 3, ?_⟩
    refine loadN_cells (ts := [.int .i64, .int .i64, .int .i64, .int .i64]) (0, 5, 1, 1, ()) hs9 rfl ?_
    refine bind_call1 (Text_dig (a := 0) (b := 5) (c := 1) (d := 1) hs9 (by decide) (by decide) (by decide) fun h10 hs10 => ⟨_, rfl, ?_⟩)
    refine ⟨false, by rw [add_own]; exact hs10.p3.cell 3, rfl, ByteArray.mk #[112], by rw [add_own]; exact hs10.p3.cell 1, rfl, ByteArray.mk #[120, 47, 97], by rw [add_own]; exact hs10.p1.cell 1, rfl, ?_⟩
    have hs11 := ownS_nil (enc := encMs) (size := 5) hs10
    refine new_cells hs11 fun x29 h12 hs12 => ?_
    (try dsimp only); rw [HM.bind_apply]
    refine append_own (enc := encMs) (ys := [msgW]) eMsU_len eMsU_cell rfl hs12.p1 rfl ?_ (by decide) (by decide) (by decide) fun s' h13 hs13 => ?_
    · simp only [srcSlc, Nat.one_mul, List.flatMap_cons, List.flatMap_nil, List.append_nil]
      exact hs12.reads rfl
    simp only [Sum.elim_inl, Sum.elim_inr, HM.pure_apply]
    refine .mk 0 (by decide) (.inr ⟨rfl, rfl, ?_⟩)
    have hs14 := hs13.re [1, 2, 3, 4, 5, 6, 7, 8, 9, 10, 0]
    have hs15 := hs14.drop.drop.drop.drop.drop.drop
    have hs16 := brgA_iff.2 ⟨S0, ob, (show sat h13 (cells b #[.slice S0.a S0.len S0.cap, at0 ob] :: ownS encRu 5 S0 [ruleW] :: outA ob o :: old h0 :: ownS encMs 5 s' ([] ++ [msgW]) :: R) from hs15)⟩
    exact hs16.re [2, 0, 1]
  · simp only at hc
    subst hc
    (try dsimp only); rw [HM.ite_apply, if_neg (by simp [hSl])]
    simp only [Sum.elim_inl, Sum.elim_inr, HM.pure_apply]
    exact hq h5 out hs5
theorem wakes23_spec (hs : sat h (old h0 :: R)) (ht : TP h0) {Q : Value → Heap → Prop} (hq : ∀ h', sat h' (old h0 :: R) → Q (.bool true) h') : HCalls Tryz.prog 10 #[] h Q := by
  refine law23_wakes_calls h Q ?_
  unfold law23_wakes
  refine new_cells hs fun x1 h1 hs1 => ?_
  have hs2 : sat h1 (ownS encRu 5 ⟨some ⟨x1, 0, none⟩, 1, 1⟩ [ruleW] :: old h0 :: R) := ownS_mk (o := 0) ⟨rfl, Nat.le_refl _, rfl, by simp, by simp [ruleW, encRu]⟩ hs1
  refine bind_callN (brgNew_spec hs2 ht (fun r hr => ?_) (by simp) (fun hc => absurd ruleW_ok hc) fun _ h3 b hs3 => ⟨(some ⟨b, 0, none⟩, 0, ()), rfl, ?_⟩)
  · rw [List.mem_singleton.1 hr]
    exact ⟨by decide, by decide, by decide⟩
  refine bind_call1 (RouteW_spec (hs3.re [0, 2, 1]) ht fun h4 S hs4 => ⟨S, rfl, ?_⟩)
  have hSl : S.len = 1 := hs4.own_len
  refine bind_cut (fun z h' => h' = h4 ∧ z.1 = true) ?_ ?_
  · (try dsimp only); rw [HM.ite_apply, if_pos (by rfl)]
    (try dsimp only); rw [HM.ite_apply, if_pos (by simp [hSl])]
    (try dsimp only); rw [HM.bind_apply]
    refine idx_row (i := 0) (hs4.own_row eMsU_len) (x := msgW) rfl fun p hp => ?_
    (try dsimp only); rw [HM.bind_apply]
    refine loadN_of (ts := [.str, .str, .int .i64, .bool, .str]) msgW (fun i v hv => hp i v hv) ?_
    (try dsimp only); rw [HM.ite_apply, if_pos (by decide)]
    refine bind_call1 (Delay_spec (t := 2) (l := 10) (m := 100) (d := 7) (by decide) (by decide) ⟨_, rfl, ?_⟩)
    exact ⟨rfl, by decide⟩
  rintro ⟨z, ⟨⟩⟩ h5 ⟨rfl, hz⟩
  simp only at hz
  subst hz
  exact hq _ (hs4.re [0, 1, 3, 2]).drop.drop.drop
end Go.Proofs.YtfhalebbcbgbdaaGreatDoor
namespace Go.Proofs.YtfhalebbcbgbdaaGreatDoor
open Go.H Go.Proofs
set_option linter.unusedSimpArgs false
set_option linter.unusedVariables false
set_option maxRecDepth 100000
variable {h h0 : Heap} {R : List Asn}
theorem bbegin_spec {b : Nat} {rs : List RuleT} {o : OutS} (hs : sat h (brgA b rs o :: R)) (hok : FlowOK o) {Q : Value → Heap → Prop}
    (hq : ∀ S h', sat h' (brgA b rs (beginF o 64).1 :: pksA .u8 S (beginF o 64).2 :: R) → Q (.slice S.a S.len S.cap) h') : HCalls Tryz.prog 20 #[at0 b] h Q := by
  refine bridge_Bridge_Begin_calls (some ⟨b, 0, none⟩) h Q ?_
  unfold bridge_Bridge_Begin
  obtain ⟨S, ob, hs1⟩ := brgA_iff.1 hs
  (try dsimp only); rw [HM.ite_apply, if_neg (by simp)]
  refine ⟨_, rfl, some ⟨ob, 0, none⟩, by rw [add_own]; exact hs1.cell 1, ?_⟩
  refine bind_call1 (obegin_spec (hs1.re [2, 0, 1]) hok fun S' h' hs2 => ⟨S', rfl, ?_⟩)
  refine hq S' h' (brgA_iff.2 ⟨S, ob, hs2.re [2, 3, 0, 1]⟩)
theorem bend_spec {b : Nat} {rs : List RuleT} {o : OutS} (hs : sat h (brgA b rs o :: R)) {Q : Value → Heap → Prop}
    (hq : ∀ h', sat h' (brgA b rs { o with on := false } :: R) → Q (.tuple #[]) h') : HCalls Tryz.prog 22 #[at0 b] h Q := by
  refine bridge_Bridge_End_calls (some ⟨b, 0, none⟩) h Q ?_
  unfold bridge_Bridge_End
  obtain ⟨S, ob, hs1⟩ := brgA_iff.1 hs
  (try dsimp only); rw [HM.bind_apply, HM.ite_apply, if_pos (by simp)]
  refine ⟨_, rfl, some ⟨ob, 0, none⟩, by rw [add_own]; exact hs1.cell 1, ?_⟩
  refine bind_callN ?_
  refine outflow_Flow_End_calls (some ⟨ob, 0, none⟩) h _ ?_
  unfold outflow_Flow_End
  (try dsimp only); rw [HM.bind_apply, HM.ite_apply, if_pos (by simp)]
  obtain ⟨pb, fl, wt, hs2⟩ := outA_iff.1 (hs1.re [2, 0, 1])
  refine ⟨_, rfl, ?_⟩
  (try dsimp only); rw [HM.bind_apply, add_own]
  refine store1_cells hs2 (by simp) rfl fun h1 hs3 => ?_
  refine ⟨(), rfl, hq h1 (brgA_iff.2 ⟨S, ob, ?_⟩)⟩
  have : sat h1 (outA ob { o with on := false } :: cells b #[.slice S.a S.len S.cap, at0 ob] :: ownS encRu 5 S rs :: R) := outA_iff.2 ⟨pb, fl, wt, hs3⟩
  exact this.re [1, 2, 0]
theorem bans_spec {b : Nat} {rs : List RuleT} {o : OutS} {p : Pk} (hs : sat h (brgA b rs o :: R)) (hok : FlowOK o) {Q : Value → Heap → Prop}
    (hq : ∀ S h', sat h' (brgA b rs (ansF o p.1 p.2.2.2.2.1 p.2.2.2.2.2.2.2.1).1.1 :: pksA .u8 S (ansF o p.1 p.2.2.2.2.1 p.2.2.2.2.2.2.2.1).1.2 :: R) → Q (.tuple #[.slice S.a S.len S.cap, .int .u8 (ansF o p.1 p.2.2.2.2.1 p.2.2.2.2.2.2.2.1).2]) h') :
    HCalls Tryz.prog 18 #[at0 b, vPkK .u8 p] h Q := by
  refine bridge_Bridge_Answer_calls (some ⟨b, 0, none⟩) p h Q ?_
  unfold bridge_Bridge_Answer
  obtain ⟨S, ob, hs1⟩ := brgA_iff.1 hs
  refine new_cells hs1 fun x1 h1 hs2' => ?_
  have hs2 : sat h1 (cells x1 (encPkK .u8 p).toArray :: cells b #[.slice S.a S.len S.cap, at0 ob] :: ownS encRu 5 S rs :: outA ob o :: R) := hs2'
  (try dsimp only); rw [HM.ite_apply, if_neg (by simp)]
  refine ⟨_, rfl, some ⟨ob, 0, none⟩, by rw [add_own]; exact hs2.p1.cell 1, ?_⟩
  refine loadN_cells (ts := Pk_tK .u8) p hs2 rfl ?_
  refine bind_callN (oans_spec (p := p) (hs2.p3) hok fun S' h' hs3 => ⟨(S', _, ()), rfl, ?_⟩)
  refine hq S' h' (brgA_iff.2 ⟨S, ob, (hs3.re [2, 3, 4, 0, 1]).drop⟩)
end Go.Proofs.YtfhalebbcbgbdaaGreatDoor
namespace Go.Proofs.YtfhalebbcbgbdaaGreatDoor
open Go.Shelf Go.RowKit Go.Proofs
set_option linter.unusedVariables false
set_option linter.unusedSimpArgs false
section
variable {P : Program} {ρ : Ren}
set_option maxHeartbeats 1000000 in
set_option maxRecDepth 100000 in
theorem check_part (L : Lays.n240 P ρ) (X : Builder.X72 P ρ) {b n : Nat} {E : TypeId} {w : World} (h0 : w.cell? ⟨b, 0, none⟩ = some (.pointer none)) (hsh : w.shape? b = some (E, n)) (hn : 0 < n) (hl : liesAt P P.depth E (n / P.cellsOf E) 0 (ρ.t 72) 1 = true) (hfz : w.frozen? ⟨b, 0, none⟩ = false) :
    Calls P (ρ.f 240) #[.pointer (some ⟨b, 0, none⟩)] w fun e w' => e = .returned (.tuple #[]) ∧ w' = w.setCell ⟨b, 0, none⟩ (.pointer (some ⟨b, 0, none⟩)) := by
  obtain ⟨j, hj, hjs⟩ := Option.map_eq_some_iff.1 X.sizeBuilder
  have mixed := L.mixed
  have v72 := L.v72; have u72 := run_underlying L.t72; have z72 := L.z72; have a72 := L.a72; have t72 := L.t72
  have v70 := L.v70; have u70 := run_underlying L.t70; have z70 := L.z70; have a70 := L.a70; have t70 := L.t70
  have v9 := L.v9; have u9 := run_underlying L.t9; have z9 := L.z9; have a9 := L.a9; have t9 := L.t9
  have v4 := L.v4; have u4 := run_underlying L.t4; have z4 := L.z4; have a4 := L.a4; have t4 := L.t4
  have v164 := L.v164; have u164 := run_underlying L.t164; have z164 := L.z164; have a164 := L.a164; have t164 := L.t164
  go_enter L.f240, Body.n240_ntmps ρ
  go_wp2
  rw [Lib.run_to_unsafe w ⟨b, 0, none⟩ L.t70 L.t164 hj (by rw [hjs]; decide) hsh hn]
  simp only [Result.andThen]
  rw [Oper.upon_value]
  go_wp2
  rw [run_callFunc_extern L.f276 (by kernel_rfl) (by kernel_rfl) (by kernel_rfl) (e := Extern.AbiNoEscape.same) (by kernel_rfl), Lib.run_noEscape]
  simp only [Result.andThen]
  rw [Oper.upon_value]
  go_wp2
  rw [Lib.run_from_unsafe w ⟨b, 0, none⟩ L.t164 L.t70 hj hsh hl]
  simp only [Result.andThen]
  rw [Oper.upon_value]
  go_wp2
  go_end0
  exact ⟨rfl, rfl⟩
set_option maxHeartbeats 2000000 in
set_option maxRecDepth 100000 in
theorem text_part (L : Lays.n169 P ρ) (X : Builder.Extra P ρ) {B b g cap : Nat} {cur : Array Value} {l : List UInt8} {w : World} (h0 : l ≠ []) (hc : w.cell? ⟨b, 1, none⟩ = some (.slice (some ⟨g, 0, none⟩) l.length cap)) (hbg : B ≤ g)
    (hg : w.heap[g]? = some (.cells cur (ρ.t 5) (0, 0))) (hnc : l.length ≤ cap) (hcm : cap ≤ 9223372036854775807) (hcs : cur.size = cap) (hb : ∀ j (x : UInt8), l[j]? = some x → w.cell? ((⟨g, 0, none⟩ : Addr).add j) = some (.int .u8 x.toNat)) :
    Calls P (ρ.f 169) #[.pointer (some ⟨b, 0, none⟩)] w fun e w' => e = .returned (.string ⟨l.toArray⟩) ∧ Below B w w' := by
  have hl0 : l.length ≠ 0 := by simpa using h0
  have c1 : w.drew.cell? ⟨b, 1, none⟩ = some (.slice (some ⟨g, 0, none⟩) l.length cap) := hc
  have hSD : (Builtin.unsafeSliceData_ #[(ρ.t 37)] (ρ.t 127) #[.slice (some ⟨g, 0, none⟩) l.length cap]).run P w.drew = .ok (.pointer (some ⟨g, 0, none⟩)) w.drew :=
    Lib.run_unsafeSliceData_row _ _ _ _ _ _ (by omega)
  have hUS : (Builtin.unsafeString_ #[(ρ.t 127), (ρ.t 3)] (ρ.t 9) #[.pointer (some ⟨g, 0, none⟩), .int .i64 l.length]).run P w.drew = .ok (.string ⟨l.toArray⟩) (w.drew.freeze ⟨g, 0, none⟩ l.length) := by
    have hg' : w.drew.heap[g]? = some (.cells cur (ρ.t 5) (0, 0)) := hg
    exact Lib.run_unsafeString_row w.drew (ρ.t 127) (ρ.t 3) (ρ.t 9) (ρ.t 5) L.t127 X.cellsByte g cur.size (by simp [World.shape?, hg']) l h0 (by omega) (by omega) hb
  have mixed := L.mixed
  have v72 := L.v72; have u72 := run_underlying L.t72; have z72 := L.z72; have a72 := L.a72; have t72 := L.t72
  have v70 := L.v70; have u70 := run_underlying L.t70; have z70 := L.z70; have a70 := L.a70; have t70 := L.t70
  have v37 := L.v37; have u37 := run_underlying L.t37; have z37 := L.z37; have a37 := L.a37; have t37 := L.t37
  have v127 := L.v127; have u127 := run_underlying L.t127; have z127 := L.z127; have a127 := L.a127; have t127 := L.t127
  have v3 := L.v3; have u3 := run_underlying L.t3; have z3 := L.z3; have a3 := L.a3; have t3 := L.t3
  have v9 := L.v9; have u9 := run_underlying L.t9; have z9 := L.z9; have a9 := L.a9; have t9 := L.t9
  have v5 := X.v5; have u5 := run_underlying X.t5; have z5 := X.z5; have a5 := X.a5; have t5 := X.t5
  go_enter L.f169, Body.n169_ntmps ρ
  go_wp2
  go_region_o
  all_goals (go_wp2; go_ret; exact ⟨rfl, Lib.below_freeze (Below.drew (Below.refl B w)) (p := ⟨g, 0, none⟩) hbg _⟩)
end
end Go.Proofs.YtfhalebbcbgbdaaGreatDoor
namespace Go.Proofs.YtfhalebbcbgbdaaGreatDoor
open Go.H Go.Proofs Go.Lib
open Go.RowKit (Below)
set_option linter.unusedSimpArgs false
set_option linter.unusedVariables false
set_option maxRecDepth 100000
abbrev ptrW (b : Nat) : Value := .pointer (some ⟨b, 0, none⟩)
def wrA (b : Nat) (xs : List Int) (c : Int) : Asn := exA fun x : Value × Slc => star (pr (x.1 = .pointer none ∨ x.1 = ptrW b)) (star (blk b (.cells #[x.1, .slice x.2.a x.2.len x.2.cap, .int .u8 c] 201 (0, 0))) (bufA 5 x.2 xs))
variable {h h0 : Heap} {R : List Asn}
theorem wrA_iff {b : Nat} {xs : List Int} {c : Int} : sat h (wrA b xs c :: R) ↔ ∃ (p : Value) (s : Slc), (p = .pointer none ∨ p = ptrW b) ∧ sat h (blk b (.cells #[p, .slice s.a s.len s.cap, .int .u8 c] 201 (0, 0)) :: bufA 5 s xs :: R) := by
  unfold wrA
  rw [sat.ex_iff]
  constructor
  · rintro ⟨⟨p, s⟩, hs⟩
    rw [sat.star_iff, sat.pr_iff, sat.star_iff] at hs
    exact ⟨p, s, hs⟩
  · rintro ⟨p, s, hs⟩
    refine ⟨(p, s), ?_⟩
    rw [sat.star_iff, sat.pr_iff, sat.star_iff]
    exact hs
theorem wr_new {Q : Nat → Heap → Prop} (hs : sat h R) (hq : ∀ b h', sat h' (wrA b [] 0 :: R) → Q b h') : HM.new (.cells #[.pointer none, .slice none 0 0, .int .u8 0] 201) h Q :=
  hq _ _ (wrA_iff.2 ⟨.pointer none, ⟨none, 0, 0⟩, .inl rfl, (bufA_nil (T := 5) hs.push).p1⟩)
theorem wcheck_spec {b : Nat} {xs : List Int} {c : Int} (hs : sat h (wrA b xs c :: R)) {Q : Value → Heap → Prop}
    (hq : ∀ (s : Slc) h', sat h' (blk b (.cells #[ptrW b, .slice s.a s.len s.cap, .int .u8 c] 201 (0, 0)) :: bufA 5 s xs :: R) → Q (.tuple #[]) h') : HCalls Tryz.prog 143 #[ptrW b] h Q := fun w hw => by
  subst hw
  obtain ⟨p, s, hp, hs⟩ := wrA_iff.1 hs
  have hg := hs.get
  rcases hp with rfl | rfl
  · refine (check_part { joinL with } joinX.toX72 (b := b) (n := 3) (E := 201) (w := w) (by simp [World.cell?, hg]) (by simp [World.shape?, hg]) (by decide) (by kernel_rfl) (by simp [World.frozen?, hg])).mono ?_
    rintro e w' ⟨rfl, rfl⟩
    exact ⟨_, rfl, ⟨rfl, rfl, rfl⟩, hq s _ (blk_set hs 0 (ptrW b))⟩
  · refine (Any.Builder_copyCheck_used { joinL with } joinX.toX72 b w (by simp [World.cell?, hg])).mono ?_
    rintro e w' ⟨rfl, rfl⟩
    exact ⟨_, rfl, ⟨rfl, rfl, rfl⟩, hq s _ hs⟩
theorem wwrite_spec {b : Nat} {xs : List Int} {c : Int} {t : ByteArray} (hs : sat h (wrA b xs c :: R)) (hb : xs.length + t.size ≤ 140737488355328) {Q : Value → Heap → Prop}
    (hq : ∀ h', sat h' (wrA b (xs ++ intsS t) c :: R) → Q (.tuple #[.int .i64 ((t.size : Nat) : Int), .nilIface]) h') : HCalls Tryz.prog 100 #[ptrW b, .string t] h Q := by
  refine strings_Builder_WriteString_calls (some ⟨b, 0, none⟩) t h Q ?_
  unfold strings_Builder_WriteString
  refine bind_callN (wcheck_spec hs fun s h1 hs1 => ⟨(), rfl, ?_⟩)
  have hg := hs1.get
  refine ⟨_, rfl, s, by rw [add_own]; simp [cellH, hg], ?_⟩
  (try dsimp only); rw [HM.bind_apply]
  refine append_buf hs1.p1 hb fun s' h2 hs2 => ?_
  have hg2 := hs2.p1.get
  refine ⟨_, rfl, ?_⟩
  (try dsimp only); rw [HM.bind_apply, add_own]
  refine ⟨by simp [cellH, hg2], by simp [frozenH, hg2], rfl, ?_⟩
  exact hq _ (wrA_iff.2 ⟨ptrW b, s', .inr rfl, blk_set hs2.p1 1 (.slice s'.a s'.len s'.cap)⟩)
theorem wlen_spec {b : Nat} {xs : List Int} {c : Int} (hs : sat h (wrA b xs c :: R)) {Q : Value → Heap → Prop} (hq : Q (.int .i64 ((xs.length : Nat) : Int)) h) : HCalls Tryz.prog 87 #[ptrW b] h Q := by
  refine strings_Builder_Len_calls (some ⟨b, 0, none⟩) h Q ?_
  unfold strings_Builder_Len
  obtain ⟨p, s, hp, hs⟩ := wrA_iff.1 hs
  have hg := hs.get
  have hl : s.len = xs.length := by
    rcases bufA_cases hs.p1 with ⟨rfl, rfl, -⟩ | ⟨g, cur, hf, -⟩
    · rfl
    · exact hf.len
  refine ⟨_, rfl, s, by rw [add_own]; simp [cellH, hg], ?_⟩
  have := hq
  rw [← hl] at this
  exact this
theorem wcode {b : Nat} {xs : List Int} {c : Int} (hs : sat h (wrA b xs c :: R)) : cellH h ⟨b, 2, none⟩ = some (.int .u8 c) := by
  obtain ⟨p, s, hp, hs⟩ := wrA_iff.1 hs
  have hg := hs.get
  simp [cellH, hg]
def firstC (c d : Int) : Int := if c = 0 then d else c
theorem wfail_spec {b : Nat} {xs : List Int} {c d : Int} (hs : sat h (wrA b xs c :: R)) {Q : Value → Heap → Prop}
    (hq : ∀ h', sat h' (wrA b xs (firstC c d) :: R) → Q (.tuple #[]) h') : HCalls Tryz.prog 84 #[ptrW b, .int .u8 d] h Q := by
  refine packet_writer_fail_calls (some ⟨b, 0, none⟩) d h Q ?_
  unfold packet_writer_fail
  refine ⟨_, rfl, c, by rw [add_own]; exact wcode hs, ?_⟩
  (try dsimp only); rw [HM.bind_apply, HM.ite_apply]
  by_cases hc : c = 0
  · rw [if_pos (by simpa using hc)]
    obtain ⟨p, s, hp, hs1⟩ := wrA_iff.1 hs
    have hg := hs1.get
    refine ⟨_, rfl, ?_⟩
    (try dsimp only); rw [HM.bind_apply, add_own]
    refine ⟨by simp [cellH, hg], by simp [frozenH, hg], rfl, ?_⟩
    refine hq _ ?_
    rw [show firstC c d = d from if_pos hc]
    exact wrA_iff.2 ⟨p, s, hp, blk_set hs1 2 (.int .u8 d)⟩
  · rw [if_neg (by simpa using hc)]
    have := hq h
    rw [show firstC c d = c from if_neg hc] at this
    exact this hs
theorem wpart_spec {b : Nat} {xs : List Int} {c d : Int} {t : ByteArray} (hs : sat h (wrA b xs c :: R)) (hb : xs.length + t.size ≤ 140737488355328) {Q : Value → Heap → Prop}
    (hq : ∀ h', sat h' (wrA b (xs ++ intsS t) (firstC c d) :: R) → Q (.tuple #[]) h') : HCalls Tryz.prog 164 #[ptrW b, .string t, .int .u8 d] h Q := by
  refine packet_writer_part_calls (some ⟨b, 0, none⟩) t d h Q ?_
  unfold packet_writer_part
  refine bind_callN (wfail_spec hs fun h1 hs1 => ⟨(), rfl, ?_⟩)
  refine ⟨_, rfl, ?_⟩
  refine bind_callN (wwrite_spec hs1 hb fun h2 hs2 => ⟨(_, .nilIface, ()), rfl, ?_⟩)
  exact hq h2 hs2
theorem wtext_spec {b : Nat} {xs : List Int} {c : Int} {hB : Heap} (hs : sat h (wrA b xs c :: old hB :: R)) (hx : ∀ x ∈ xs, 0 ≤ x ∧ x < 256) (h0 : xs ≠ []) {Q : Value → Heap → Prop}
    (hq : ∀ h', (∀ (k : Nat) o, hB[k]? = some o → h'[k]? = some o) → Q (.string (bytesOfInts xs)) h') : HCalls Tryz.prog 90 #[ptrW b] h Q := fun w hw => by
  subst hw
  obtain ⟨p, s, hp, hs⟩ := wrA_iff.1 hs
  have hg := hs.get
  rcases bufA_cases hs.p1 with ⟨rfl, rfl, -⟩ | ⟨g, cur, hf, hs1⟩
  · exact absurd rfl h0
  have hgg := hs1.get
  have hle : hB.size ≤ g := fresh_old (hs1.re [0, 2, 1])
  have hll : (xs.map fun x : Int => UInt8.ofNat x.toNat).length = s.len := by rw [List.length_map, hf.len]
  refine (text_part (ρ := joinL_ren) { joinL with } joinX (B := hB.size) (b := b) (g := g) (cap := s.cap) (cur := cur) (l := xs.map fun x : Int => UInt8.ofNat x.toNat) (w := w) (by simpa using h0) ?_ hle hgg (by rw [hll]; exact hf.le) hf.cap hf.size ?_).mono ?_
  · rw [hll, ← hf.a]
    simp [World.cell?, hg]
  · intro j x hj
    have hfr := hf.front
    have hxj : (xs.map (Value.int .u8))[j]? = some (.int .u8 x.toNat) := by
      rw [List.getElem?_map] at hj ⊢
      cases hxs : xs[j]? with
      | none => rw [hxs] at hj; cases hj
      | some y =>
        rw [hxs] at hj
        simp only [Option.map_some, Option.some.injEq] at hj ⊢
        obtain ⟨h1, h2⟩ := hx y (List.mem_of_getElem? hxs)
        rw [← hj]
        simp only [UInt8.toNat_ofNat']
        congr 1
        omega
    rw [← hfr, List.getElem?_take] at hxj
    split at hxj
    · rw [add_own]
      have : w.cell? ⟨g, j, none⟩ = cur[j]? := by simp [World.cell?, hgg]
      rw [this]
      simpa using hxj
    · cases hxj
  rintro e w' ⟨rfl, hbel⟩
  have e1 : (⟨(xs.map fun x : Int => UInt8.ofNat x.toNat).toArray⟩ : ByteArray) = bytesOfInts xs := data_inj (by rw [ints_data])
  rw [e1]
  refine ⟨_, rfl, below_same hbel, hq _ fun k o hk => ?_⟩
  have hlt := (Array.getElem?_eq_some_iff.1 hk).1
  rw [hbel.block k hlt]
  exact (hs.re [2, 0, 1]).old_get hk
end Go.Proofs.YtfhalebbcbgbdaaGreatDoor
namespace Go.Proofs.YtfhalebbcbgbdaaGreatDoor
open Go.H Go.Proofs Go.Lib
set_option linter.unusedSimpArgs false
set_option linter.unusedVariables false
set_option maxRecDepth 100000
variable {h h0 : Heap} {R : List Asn}
def sizeV (n : Nat) : Nat := if n < 128 then 1 else if n < 16384 then 2 else if n < 2097152 then 3 else 4
theorem sizeV_pos (n : Nat) : 1 ≤ sizeV n ∧ sizeV n ≤ 4 := by unfold sizeV; split <;> (try split) <;> (try split) <;> omega
def vI (k n i : Nat) : Int := ((n / 128 ^ i % 128 + (if i + 1 < k then 128 else 0) : Nat) : Int)
def vLs (n : Nat) : List Int := (List.range (sizeV n)).map (vI (sizeV n) n)
def vB (n : Nat) : ByteArray := bytesOfInts (vLs n)
theorem vB_size (n : Nat) : (vB n).size = sizeV n := by unfold vB vLs; rw [ints_size, List.length_map, List.length_range]
theorem vsize_spec {n : Nat} (hn : n ≤ 268435455) {Q : Value → Heap → Prop} (hq : Q (.int .i64 (sizeV n)) h) : HCalls Tryz.prog 128 #[.int .i64 n] h Q := by
  refine varint_Size_calls n h Q ?_
  unfold varint_Size
  have w1 : IntKind.wrap .i64 (0 + 1) = 1 := by decide
  have w2 : IntKind.wrap .i64 (1 + 1) = 2 := by decide
  have w3 : IntKind.wrap .i64 (2 + 1) = 3 := by decide
  have w4 : IntKind.wrap .i64 (3 + 1) = 4 := by decide
  unfold sizeV at hq
  have a1 : ¬ ((n : Int) < 0) := by omega
  have a2 : ¬ (268435455 < (n : Int)) := by omega
  by_cases b1 : n < 128
  · rw [if_pos b1] at hq
    have c1 : ¬ (128 ≤ (n : Int)) := by omega
    have c2 : ¬ (16384 ≤ (n : Int)) := by omega
    have c3 : ¬ (2097152 ≤ (n : Int)) := by omega
    simp [HM.bind_apply, HM.ite_apply, HM.pure_apply, a1, a2, c1, c2, c3, w1]
    exact hq
  rw [if_neg b1] at hq
  have c1 : 128 ≤ (n : Int) := by omega
  by_cases b2 : n < 16384
  · rw [if_pos b2] at hq
    have c2 : ¬ (16384 ≤ (n : Int)) := by omega
    have c3 : ¬ (2097152 ≤ (n : Int)) := by omega
    simp [HM.bind_apply, HM.ite_apply, HM.pure_apply, a1, a2, c1, c2, c3, w1, w2]
    exact hq
  rw [if_neg b2] at hq
  have c2 : 16384 ≤ (n : Int) := by omega
  by_cases b3 : n < 2097152
  · rw [if_pos b3] at hq
    have c3 : ¬ (2097152 ≤ (n : Int)) := by omega
    simp [HM.bind_apply, HM.ite_apply, HM.pure_apply, a1, a2, c1, c2, c3, w1, w2, w3]
    exact hq
  rw [if_neg b3] at hq
  have c3 : 2097152 ≤ (n : Int) := by omega
  simp [HM.bind_apply, HM.ite_apply, HM.pure_apply, a1, a2, c1, c2, c3, w1, w2, w3, w4]
  exact hq
theorem and127 (m : Nat) (hm : m ≤ 268435455) : bitOp .and .i64 (m : Int) 127 = ((m % 128 : Nat) : Int) := by
  show IntKind.wrap .i64 (((BitVec.ofInt 64 (m : Int) &&& BitVec.ofInt 64 127).toNat : Nat) : Int) = _
  rw [BitVec.ofInt_natCast, show (127 : Int) = ((127 : Nat) : Int) from rfl, BitVec.ofInt_natCast, BitVec.toNat_and, BitVec.toNat_ofNat, BitVec.toNat_ofNat, Nat.mod_eq_of_lt (by omega), Nat.mod_eq_of_lt (by omega)]
  have := Nat.and_two_pow_sub_one_eq_mod m 7
  rw [show (127 : Nat) = 2 ^ 7 - 1 from rfl, this, wrap_id (by omega) (by omega)]
theorem or128 (m : Nat) (hm : m < 128) : bitOp .or .u8 (m : Int) 128 = ((m + 128 : Nat) : Int) := by
  show IntKind.wrap .u8 (((BitVec.ofInt 8 (m : Int) ||| BitVec.ofInt 8 128).toNat : Nat) : Int) = _
  rw [BitVec.ofInt_natCast, show (128 : Int) = ((128 : Nat) : Int) from rfl, BitVec.ofInt_natCast, BitVec.toNat_or, BitVec.toNat_ofNat, BitVec.toNat_ofNat, Nat.mod_eq_of_lt (by omega), Nat.mod_eq_of_lt (by omega)]
  have e := Nat.shiftLeft_add_eq_or_of_lt (i := 7) (b := m) (by omega) 1
  rw [Nat.shiftLeft_eq, Nat.or_comm] at e
  rw [show (128 : Nat) = 1 * 2 ^ 7 from rfl, ← e, wrap_u8]
  omega
theorem sh7 {n i : Nat} (hi : i ≤ 3) : Int.fdiv (n : Int) (2 ^ (min (Int.toNat (IntKind.wrap .i64 (7 * (i : Int)))) (IntKind.bits .i64))) = ((n / 128 ^ i : Nat) : Int) := by
  rw [wrap_id (by omega) (by omega)]
  have e1 : min (Int.toNat (7 * (i : Int))) (IntKind.bits .i64) = 7 * i := by
    show min _ 64 = _
    omega
  rw [e1]
  have e2 : ((2 : Int) ^ (7 * i)) = ((128 ^ i : Nat) : Int) := by
    rw [Int.natCast_pow, Int.pow_mul]
    rfl
  rw [e2, Int.fdiv_eq_ediv_of_nonneg _ (Int.natCast_nonneg _), ← Int.natCast_ediv]
theorem vput_spec (hs : sat h R) {n : Nat} (hn : n ≤ 268435455) {Q : Value → Heap → Prop} (hq : ∀ h', sat h' R → Q (.tuple #[.string (vB n), .int .u8 0]) h') : HCalls Tryz.prog 89 #[.int .i64 n] h Q := by
  refine varint_Put_calls n h Q ?_
  unfold varint_Put
  have hk := sizeV_pos n
  refine bind_call1 (vsize_spec hn ⟨_, rfl, ?_⟩)
  (try dsimp only); rw [HM.ite_apply, if_neg (by simp only [beq_iff_eq]; omega)]
  (try dsimp only); rw [HM.bind_apply]
  refine loop_for (sizeV n) (fun i x h' => x.2.1 = (i : Int) ∧ sat h' (ownS eU 1 x.1 ((List.range i).map (vI (sizeV n) n)) :: R))
    ⟨rfl, ownS_nil hs⟩ (fun i x h hi hJ => by rw [hJ.1]; exact decide_eq_decide.2 (by omega)) (fun x h hJ K hd => ?_) (fun i x h hlt hJ K hnx hd => ?_)
  · obtain ⟨hx, hs1⟩ := hJ
    refine hd _ _ ?_
    (try dsimp only); rw [HM.bind_apply]
    refine strOf_own hs1 ?_
    exact hq _ hs1.drop
  · obtain ⟨out, ci, ⟨⟩⟩ := x
    obtain ⟨hx, hs1⟩ := hJ
    simp only at hx hs1
    subst hx
    have hdl : n / 128 ^ i ≤ n := Nat.div_le_self _ _
    refine ⟨by (try dsimp only); rw [wrap_id (by omega) (by omega)]; omega, ?_⟩
    refine cut (fun z h' => h' = h ∧ z.1 = vI (sizeV n) n i) ?_ ?_
    · intro K2 hK2
      have hw : IntKind.wrap .i64 (((sizeV n : Nat) : Int) - 1) = ((sizeV n - 1 : Nat) : Int) := by rw [wrap_id (by omega) (by omega)]; omega
      (try dsimp only); rw [HM.ite_apply, hw, sh7 (by omega), and127 _ (by omega), wrap_u8, Nat.mod_eq_of_lt (by omega)]
      by_cases hl : i + 1 < sizeV n
      · rw [if_pos (by simp only [decide_eq_true_eq]; omega), or128 _ (by omega)]
        exact hK2 _ _ ⟨rfl, by unfold vI; rw [if_pos hl]⟩
      · rw [if_neg (by simp only [decide_eq_true_eq]; omega)]
        exact hK2 _ _ ⟨rfl, by unfold vI; rw [if_neg hl]; rfl⟩
    rintro ⟨z, ⟨⟩⟩ h2 ⟨rfl, hz⟩
    simp only at hz
    subst hz
    refine app_new (x := vI (sizeV n) n i) eU_len eU_cell rfl hs1 (by decide) (by decide) (by rw [List.length_map, List.length_range]; omega) fun out' h3 hs2 => ?_
    refine hnx _ _ ⟨by (try dsimp only); rw [wrap_id (by omega) (by omega)]; rfl, ?_⟩
    rw [List.range_succ, List.map_append]
    exact hs2
theorem div128 (D : Nat) (hD : D ≤ 268435455) : IntKind.wrap .i64 (Int.tdiv (D : Int) 128) = ((D / 128 : Nat) : Int) := by
  rw [Int.tdiv_eq_ediv_of_nonneg (Int.natCast_nonneg _), show (128 : Int) = ((128 : Nat) : Int) from rfl, ← Int.natCast_ediv, wrap_id (by omega) (by omega)]
theorem rvsize_spec {n : Nat} (hn : n ≤ 268435455) {Q : Value → Heap → Prop} (hq : Q (.int .i64 (sizeV n)) h) : HCalls Tryz.prog 140 #[.int .i64 n] h Q := by
  refine ref01_Size_calls n h Q ?_
  unfold ref01_Size
  refine cut (fun z h' => h' = h ∧ z.1 = false) ?_ ?_
  · intro K hK
    (try dsimp only); rw [HM.ite_apply, if_neg (by simp)]
    exact hK _ _ ⟨rfl, by simp; omega⟩
  rintro ⟨z, ⟨⟩⟩ h2 ⟨rfl, hz⟩
  simp only at hz
  subst hz
  (try dsimp only); rw [HM.ite_apply, if_neg (by decide)]
  (try dsimp only); rw [HM.bind_apply]
  refine loop_k (γ := Nat × Nat) (fun g x h' => h' = h2 ∧ x.1 = (g.1 : Int) ∧ x.2.1 = (g.2 : Int) ∧ 1 ≤ g.2 ∧ g.2 ≤ 4 ∧ g.1 ≤ 268435455 ∧ (∀ m, m < g.2 → 1 ≤ m → 128 ^ m ≤ n) ∧ g.1 = n / 128 ^ (g.2 - 1)) (fun g => g.1) (n, 1) ⟨rfl, rfl, rfl, by simp, by simp, hn, fun m h1 h2 => by simp only at h1; omega, by simp⟩ ?_
  rintro ⟨a, k⟩ ⟨x1, x2, ⟨⟩⟩ h3 ⟨rfl, hx1, hx2, k1, k4, ha, hm, hd⟩ K hnx hdn
  simp only at hx1 hx2 k1 k4 ha hm hd
  subst hx1 hx2
  (try dsimp only); rw [HM.ite_apply]
  by_cases hl : 127 < a
  · rw [if_pos (by simp only [decide_eq_true_eq]; omega)]
    refine ⟨by decide, ?_⟩
    have hk3 : k ≤ 3 := by
      refine Nat.le_of_lt_succ (Nat.lt_of_le_of_ne k4 fun e => ?_)
      have e3 : k - 1 = 3 := by omega
      rw [e3, show (128 : Nat) ^ 3 = 2097152 from rfl] at hd
      omega
    have e2 : IntKind.wrap .i64 (Int.tdiv (a : Int) 128) = ((a / 128 : Nat) : Int) := by
      rw [Int.tdiv_eq_ediv_of_nonneg (Int.natCast_nonneg _), show (128 : Int) = ((128 : Nat) : Int) from rfl, ← Int.natCast_ediv, wrap_id (by omega) (by omega)]
    refine hnx (a / 128, k + 1) _ _ (by simp only; omega) ⟨rfl, by simpa using e2, by (try dsimp only); rw [wrap_id (by omega) (by omega)]; rfl, by simp, by simp only; omega, by simp only; omega, ?_, ?_⟩
    · intro m hmk hm1
      rcases Nat.lt_or_ge m k with h | h
      · exact hm m h hm1
      · have : m = k := by simp only at hmk; omega
        subst this
        have h1 : 1 ≤ n / 128 ^ (m - 1) / 128 := by rw [← hd]; omega
        rw [Nat.div_div_eq_div_mul, ← Nat.pow_succ, show (m - 1).succ = m by omega] at h1
        have hp : 0 < 128 ^ m := Nat.pow_pos (by decide)
        have := (Nat.le_div_iff_mul_le hp).1 h1
        omega
    · simp only
      rw [hd, Nat.div_div_eq_div_mul, ← Nat.pow_succ, show (k - 1).succ = k + 1 - 1 by omega]
  · rw [if_neg (by simp only [decide_eq_true_eq]; omega)]
    refine hdn _ _ ?_
    have : sizeV n = k := by
      have a1 := hm 1; have a2 := hm 2; have a3 := hm 3
      have e : k = 1 ∨ k = 2 ∨ k = 3 ∨ k = 4 := by omega
      unfold sizeV
      rcases e with rfl | rfl | rfl | rfl
      · rw [if_pos (by simp at hd; omega)]
      · have := a1 (by decide) (by decide)
        rw [if_neg (by omega), if_pos (by simp at hd; omega)]
      · have := a2 (by decide) (by decide)
        rw [if_neg (by omega), if_neg (by omega), if_pos (by simp at hd; omega)]
      · have := a3 (by decide) (by decide)
        rw [if_neg (by omega), if_neg (by omega), if_neg (by omega)]
    rw [this] at hq
    exact hq
theorem rvput_spec (hs : sat h R) {n : Nat} (hn : n ≤ 268435455) {Q : Value → Heap → Prop} (hq : ∀ h', sat h' R → Q (.tuple #[.string (vB n), .int .i64 0]) h') : HCalls Tryz.prog 94 #[.int .i64 n] h Q := by
  refine ref01_Put_calls n h Q ?_
  unfold ref01_Put
  have hk := sizeV_pos n
  refine bind_call1 (rvsize_spec hn ⟨_, rfl, ?_⟩)
  (try dsimp only); rw [HM.ite_apply, if_neg (by simp only [beq_iff_eq]; omega)]
  (try dsimp only); rw [HM.bind_apply]
  refine loop_for (sizeV n) (fun i x h' => x.2.2.1 = (i : Int) ∧ x.2.1 = ((n / 128 ^ i : Nat) : Int) ∧ x.1 = bytesOfInts ((List.range i).map (vI (sizeV n) n)) ∧ sat h' R)
    ⟨rfl, by simp, rfl, hs⟩ (fun i x h hi hJ => by rw [hJ.1]; exact decide_eq_decide.2 (by omega)) (fun x h hJ K hd => ?_) (fun i x h hlt hJ K hnx hd => ?_)
  · obtain ⟨hx, hx2, hx3, hs1⟩ := hJ
    refine hd _ _ ?_
    (try dsimp only); rw [hx3]
    exact hq _ hs1
  · obtain ⟨t, m, ci, ⟨⟩⟩ := x
    obtain ⟨hx, hx2, hx3, hs1⟩ := hJ
    simp only at hx hx2 hx3
    subst hx hx2 hx3
    have hdl : n / 128 ^ i ≤ n := Nat.div_le_self _ _
    refine ⟨by decide, ?_⟩
    have e1 : Int.tmod (((n / 128 ^ i : Nat)) : Int) 128 = ((n / 128 ^ i % 128 : Nat) : Int) := by
      rw [Int.tmod_eq_emod_of_nonneg (Int.natCast_nonneg _), show (128 : Int) = ((128 : Nat) : Int) from rfl, ← Int.natCast_emod]
    refine cut (fun z h' => h' = h ∧ z.1 = vI (sizeV n) n i) ?_ ?_
    · intro K2 hK2
      have hw : IntKind.wrap .i64 (((sizeV n : Nat) : Int) - 1) = ((sizeV n - 1 : Nat) : Int) := by rw [wrap_id (by omega) (by omega)]; omega
      (try dsimp only); rw [HM.ite_apply, hw]
      by_cases hl : i + 1 < sizeV n
      · rw [if_pos (by simp only [decide_eq_true_eq]; omega)]
        refine hK2 _ _ ⟨rfl, ?_⟩
        (try dsimp only)
        unfold vI
        rw [e1, if_pos hl, wrap_id (by omega) (by omega)]
        rfl
      · rw [if_neg (by simp only [decide_eq_true_eq]; omega)]
        refine hK2 _ _ ⟨rfl, ?_⟩
        (try dsimp only)
        unfold vI
        rw [e1, if_neg hl]
        rfl
    rintro ⟨z, ⟨⟩⟩ h2 ⟨rfl, hz⟩
    simp only at hz
    subst hz
    have hvI : IntKind.wrap .u8 (vI (sizeV n) n i) = vI (sizeV n) n i := by
      unfold vI
      rw [wrap_u8, Nat.mod_eq_of_lt]
      split <;> omega
    (try dsimp only); rw [hvI]
    refine new_cells hs1 fun b h3 hs3 => ?_
    have hs4 : sat h3 (ownS eU 1 ⟨some ⟨b, 0, none⟩, 1, 1⟩ [vI (sizeV n) n i] :: R) := ownS_mk (o := 0) (cs := #[.int .u8 (vI (sizeV n) n i)]) ⟨rfl, Nat.le_refl _, rfl, by simp, by simp⟩ hs3
    (try dsimp only); rw [HM.bind_apply]
    refine strOf_own hs4 ?_
    refine ⟨?_, by decide, ?_⟩
    · rw [ints_size, ints_size, List.length_map, List.length_range]
      simp only [List.length_cons, List.length_nil]
      omega
    have e2 : IntKind.wrap .i64 (Int.tdiv (((n / 128 ^ i : Nat)) : Int) 128) = ((n / 128 ^ (i + 1) : Nat) : Int) := by
      rw [div128 _ (by omega), Nat.div_div_eq_div_mul, ← Nat.pow_succ]
    refine hnx _ _ ⟨by (try dsimp only); rw [wrap_id (by omega) (by omega)]; rfl, by (try dsimp only); exact e2, ?_, hs3.drop⟩
    (try dsimp only)
    rw [List.range_succ, List.map_append, ints_append]
    rfl
end Go.Proofs.YtfhalebbcbgbdaaGreatDoor
namespace Go.Proofs.YtfhalebbcbgbdaaGreatDoor
open Go.H Go.Proofs Go.Lib
set_option linter.unusedSimpArgs false
set_option linter.unusedVariables false
set_option maxRecDepth 100000
variable {h h0 : Heap} {R : List Asn}
def textC (s : ByteArray) : Int := if faultOf s ≠ none then 129 else if 65535 < s.size then 149 else 0
def textB (s : ByteArray) : ByteArray := if textC s = 0 then datB s else e0S
theorem tput_spec (hs : sat h (old h0 :: R)) (ht : U8 h0) {s : ByteArray} (hsz : s.size ≤ 9223372036854775800) {Q : Value → Heap → Prop} (hq : ∀ h', sat h' (old h0 :: R) → Q (.tuple #[.string (textB s), .int .u8 (textC s)]) h') :
    HCalls Tryz.prog 197 #[.string s] h Q := by
  refine text_Put_calls s h Q ?_
  unfold text_Put
  have mk : ∀ {o : Option Nat}, faultOf s = o → ∀ h1, sat h1 (old h0 :: R) → HM.ite o.isSome (HM.pure (ByteArray.mk #[], 129, ())) (HM.bind (HM.callN Tryz.prog [.one .str, .one (.int .u8)] 198 #[.string s]) fun x2 => HM.pure (x2.1, x2.2.1, ())) h1 (fun (x : ByteArray × Int × Unit) h' => Q (.tuple #[.string x.1, .int .u8 x.2.1]) h') := by
    intro o ho h1 hs1
    rw [HM.ite_apply]
    cases o with
    | some n =>
      rw [if_pos (by rfl)]
      have e : textC s = 129 := by unfold textC; rw [if_pos (by rw [ho]; simp)]
      have := hq h1 hs1
      unfold textB at this
      rw [e, if_neg (by decide)] at this
      exact this
    | none =>
      rw [if_neg (by simp)]
      by_cases hl : s.size ≤ 65535
      · have e : textC s = 0 := by unfold textC; rw [if_neg (by rw [ho]; simp), if_neg (by omega)]
        refine bind_callN (Data_spec hs1 hl fun h2 hs2 => ⟨(datB s, 0, ()), rfl, ?_⟩)
        have := hq h2 hs2
        unfold textB at this
        rw [e, if_pos rfl] at this
        exact this
      · have e : textC s = 149 := by unfold textC; rw [if_neg (by rw [ho]; simp), if_pos (by omega)]
        refine bind_callN ?_
        refine varint_Data_calls s h1 _ ?_
        unfold varint_Data
        (try dsimp only); rw [HM.ite_apply, if_pos (by simp only [decide_eq_true_eq]; omega)]
        refine ⟨(ByteArray.mk #[], 149, ()), rfl, ?_⟩
        have := hq h1 hs1
        unfold textB at this
        rw [e, if_neg (by decide)] at this
        exact this
  refine bind_callN (Fault_spec hs ht s (by omega) fun h1 hs1 => ?_)
  cases ho : faultOf s with
  | some n => exact ⟨(n, true, ()), rfl, mk ho h1 hs1⟩
  | none => exact ⟨(0, false, ()), rfl, mk ho h1 hs1⟩
theorem rtput_spec (hs : sat h R) {s : ByteArray} (hsz : s.size ≤ 9223372036854775800) {Q : Value → Heap → Prop} (hq : ∀ h', sat h' R → Q (.tuple #[.string (textB s), .int .i64 (textC s)]) h') :
    HCalls Tryz.prog 175 #[.string s] h Q := by
  refine ref02_Put_calls s h Q ?_
  unfold ref02_Put
  have mk : ∀ {o : Option Nat}, faultOf s = o → HM.ite o.isSome (HM.pure (ByteArray.mk #[], 129, ())) (HM.bind (HM.callN Tryz.prog [.one .str, .one (.int .i64)] 204 #[.string s]) fun x2 => HM.pure (x2.1, x2.2.1, ())) h (fun (x : ByteArray × Int × Unit) h' => Q (.tuple #[.string x.1, .int .i64 x.2.1]) h') := by
    intro o ho
    rw [HM.ite_apply]
    cases o with
    | some n =>
      rw [if_pos (by rfl)]
      have e : textC s = 129 := by unfold textC; rw [if_pos (by rw [ho]; simp)]
      have := hq h hs
      unfold textB at this
      rw [e, if_neg (by decide)] at this
      exact this
    | none =>
      rw [if_neg (by simp)]
      by_cases hl : s.size ≤ 65535
      · have e : textC s = 0 := by unfold textC; rw [if_neg (by rw [ho]; simp), if_neg (by omega)]
        refine bind_callN (rData_spec hs hl fun h2 hs2 => ⟨(datB s, 0, ()), rfl, ?_⟩)
        have := hq h2 hs2
        unfold textB at this
        rw [e, if_pos rfl] at this
        exact this
      · have e : textC s = 149 := by unfold textC; rw [if_neg (by rw [ho]; simp), if_pos (by omega)]
        refine bind_callN ?_
        refine ref01_Data_calls s h _ ?_
        unfold ref01_Data
        (try dsimp only); rw [HM.ite_apply, if_pos (by simp only [decide_eq_true_eq]; omega)]
        refine ⟨(ByteArray.mk #[], 149, ()), rfl, ?_⟩
        have := hq h hs
        unfold textB at this
        rw [e, if_neg (by decide)] at this
        exact this
  refine bind_callN (rFault_spec hs s hsz ?_)
  cases ho : faultOf s with
  | some n => exact ⟨(n, true, ()), rfl, mk ho⟩
  | none => exact ⟨(0, false, ()), rfl, mk ho⟩
theorem rin_spec {n : Int} {s : Slc} {xs : List Int} (hr : RowAt eI 1 h s xs) (hl : xs.length ≤ 1000) {Q : Value → Heap → Prop} (hq : Q (.bool (decide (n ∈ xs))) h) :
    HCalls Tryz.prog 221 #[.int .i64 n, .slice s.a s.len s.cap] h Q := by
  refine ref04_in_calls n s h Q ?_
  unfold ref04_in
  have hsl := hr.1
  (try dsimp only); rw [HM.bind_apply]
  refine loop_for xs.length (fun i x h' => h' = h ∧ x.1 = (i : Int) ∧ n ∉ xs.take i) ⟨rfl, rfl, by simp⟩ (fun i x h1 hi hJ => by rw [hJ.2.1, hsl]; exact decide_eq_decide.2 (by omega)) (fun x h1 hJ K hd => ?_) (fun i x h1 hlt hJ K hnx hd => ?_)
  · obtain ⟨rfl, hx, hn⟩ := hJ
    rw [List.take_length] at hn
    refine hd _ _ ?_
    have := hq
    rw [decide_eq_false hn] at this
    exact this
  · obtain ⟨ci, ⟨⟩⟩ := x
    obtain ⟨rfl, hx, hn⟩ := hJ
    simp only at hx
    subst hx
    have hy := List.getElem?_eq_getElem hlt
    have htk : xs.take (i + 1) = xs.take i ++ [xs[i]] := by rw [List.take_add_one, hy]; rfl
    have hmem := List.getElem_mem hlt
    generalize xs[i] = y at hy htk hmem
    (try dsimp only); rw [HM.bind_apply]
    refine idx_row hr hy fun a ha => ?_
    refine ⟨y, by simpa [Go.H.add_zero] using ha 0 _ rfl, ?_⟩
    (try dsimp only); rw [HM.ite_apply]
    by_cases e : y = n
    · subst e
      rw [if_pos (by simp)]
      refine hd _ _ ?_
      have := hq
      rw [decide_eq_true hmem] at this
      exact this
    · rw [if_neg (by simpa using e)]
      refine hnx _ _ ⟨rfl, by (try dsimp only); rw [wrap_id (by omega) (by omega)]; rfl, ?_⟩
      rw [htk, List.mem_append]
      rintro (hh | hh)
      · exact hn hh
      · exact e (List.mem_singleton.1 hh).symm
theorem kind38 {Q : Value → Heap → Prop} (hq : Q (.int .i64 7) h) : HCalls Tryz.prog 199 #[.int .i64 38] h Q := by
  refine prop_KindOf_calls 38 h Q ?_
  unfold prop_KindOf
  simp [HM.bind_apply, HM.ite_apply, HM.pure_apply]
  exact hq
end Go.Proofs.YtfhalebbcbgbdaaGreatDoor
namespace Go.Proofs.YtfhalebbcbgbdaaGreatDoor
open Go.H Go.Proofs Go.Lib
open Go.RowKit (Below)
set_option linter.unusedSimpArgs false
set_option linter.unusedVariables false
set_option synthInstance.maxSize 100000
set_option synthInstance.maxHeartbeats 400000
set_option maxRecDepth 100000
abbrev ptrB (b : Nat) : Value := .pointer (some ⟨b, 0, none⟩)
def bldA (b : Nat) (xs : List Int) : Asn := exA fun x : Value × Slc => star (pr (x.1 = .pointer none ∨ x.1 = ptrB b)) (star (blk b (.cells #[x.1, .slice x.2.a x.2.len x.2.cap] 199 (0, 0))) (bufA 5 x.2 xs))
variable {h h0 : Heap} {R : List Asn}
theorem bldA_iff {b : Nat} {xs : List Int} : sat h (bldA b xs :: R) ↔ ∃ (p : Value) (s : Slc), (p = .pointer none ∨ p = ptrB b) ∧ sat h (blk b (.cells #[p, .slice s.a s.len s.cap] 199 (0, 0)) :: bufA 5 s xs :: R) := by
  unfold bldA
  rw [sat.ex_iff]
  constructor
  · rintro ⟨⟨p, s⟩, hs⟩
    rw [sat.star_iff, sat.pr_iff, sat.star_iff] at hs
    exact ⟨p, s, hs⟩
  · rintro ⟨p, s, hs⟩
    refine ⟨(p, s), ?_⟩
    rw [sat.star_iff, sat.pr_iff, sat.star_iff]
    exact hs
theorem copyCheck_spec {b : Nat} {xs : List Int} (hs : sat h (bldA b xs :: R)) {Q : Value → Heap → Prop}
    (hq : ∀ (s : Slc) h', sat h' (blk b (.cells #[ptrB b, .slice s.a s.len s.cap] 199 (0, 0)) :: bufA 5 s xs :: R) → Q (.tuple #[]) h') : HCalls Tryz.prog 143 #[ptrB b] h Q := fun w hw => by
  subst hw
  obtain ⟨p, s, hp, hs⟩ := bldA_iff.1 hs
  have hg := hs.get
  rcases hp with rfl | rfl
  · refine (Any.Builder_copyCheck_fresh { joinL with } joinX.toX72 b w (by simp [World.cell?, hg]) (by simp [World.shape?, hg]; rfl) (by simp [World.frozen?, hg])).mono ?_
    rintro e w' ⟨rfl, rfl⟩
    exact ⟨_, rfl, ⟨rfl, rfl, rfl⟩, hq s _ (blk_set hs 0 (ptrB b))⟩
  · refine (Any.Builder_copyCheck_used { joinL with } joinX.toX72 b w (by simp [World.cell?, hg])).mono ?_
    rintro e w' ⟨rfl, rfl⟩
    exact ⟨_, rfl, ⟨rfl, rfl, rfl⟩, hq s _ hs⟩
theorem Write_spec {b : Nat} {xs : List Int} {t : ByteArray} (hs : sat h (bldA b xs :: R)) (hb : xs.length + t.size ≤ 140737488355328) {Q : Value → Heap → Prop}
    (hq : ∀ h', sat h' (bldA b (xs ++ intsS t) :: R) → Q (.tuple #[.int .i64 ((t.size : Nat) : Int), .nilIface]) h') : HCalls Tryz.prog 100 #[ptrB b, .string t] h Q := by
  refine strings_Builder_WriteString_calls (some ⟨b, 0, none⟩) t h Q ?_
  unfold strings_Builder_WriteString
  refine bind_callN (copyCheck_spec hs fun s h1 hs1 => ⟨(), rfl, ?_⟩)
  have hg := hs1.get
  refine ⟨_, rfl, s, by rw [add_own]; simp [cellH, hg], ?_⟩
  (try dsimp only); rw [HM.bind_apply]
  refine append_buf hs1.p1 hb fun s' h2 hs2 => ?_
  have hg2 := hs2.p1.get
  refine ⟨_, rfl, ?_⟩
  (try dsimp only); rw [HM.bind_apply, add_own]
  refine ⟨by simp [cellH, hg2], by simp [frozenH, hg2], rfl, ?_⟩
  exact hq _ (bldA_iff.2 ⟨ptrB b, s', .inr rfl, blk_set hs2.p1 1 (.slice s'.a s'.len s'.cap)⟩)
theorem String_spec {b : Nat} {xs : List Int} {hB : Heap} (hs : sat h (bldA b xs :: old hB :: R)) (hbB : hB.size ≤ b) (hx : ∀ x ∈ xs, 0 ≤ x ∧ x < 256) {Q : Value → Heap → Prop}
    (hq : ∀ h', (∀ (k : Nat) o, hB[k]? = some o → h'[k]? = some o) → Q (.string (bytesOfInts xs)) h') : HCalls Tryz.prog 90 #[ptrB b] h Q := fun w hw => by
  subst hw
  obtain ⟨p, s, hp, hs⟩ := bldA_iff.1 hs
  have hg := hs.get
  have hcells : byteCells (xs.map fun x : Int => UInt8.ofNat x.toNat) = xs.map (Value.int .u8) := by
    unfold byteCells
    rw [List.map_map]
    refine List.map_congr_left fun x hxm => ?_
    obtain ⟨h1, h2⟩ := hx x hxm
    simp only [Function.comp_apply, UInt8.toNat_ofNat']
    congr 1
    omega
  have hat : BuilderAt 199 5 hB.size b p (byteCells (xs.map fun x : Int => UInt8.ofNat x.toNat)) w := by
    rw [hcells]
    rcases bufA_cases hs.p1 with ⟨rfl, rfl, -⟩ | ⟨g, cur, hf, hs1⟩
    · exact ⟨hbB, _, hg, ⟨rfl, .inl ⟨rfl, rfl⟩⟩, by simp [Value.ownBlock]⟩
    · have hgg := hs1.get
      have hle : hB.size ≤ g := fresh_old (hs1.re [0, 2, 1])
      refine ⟨hbB, _, hg, ⟨by simp, .inr ⟨g, s.cap, cur, by rw [hf.a, hf.len]; simp, hle, hgg, by rw [List.length_map, ← hf.len]; exact hf.le, hf.cap, by rw [hf.size, Nat.mul_one], ?_⟩⟩, ?_⟩
      · rw [List.length_map, Nat.mul_one, ← hf.len]
        exact hf.front
      · rw [hf.a]
        simp only [Value.ownBlock, ne_eq, Option.some.injEq]
        rintro rfl
        rw [hg] at hgg
        cases hgg
  have hisb : IsBuilder 199 5 hB.size b (byteCells (xs.map fun x : Int => UInt8.ofNat x.toNat)) w := by
    rcases hp with rfl | rfl
    · exact .inl hat
    · exact .inr hat
  have hBw : hB.size ≤ w.heap.size := Nat.le_trans hbB (Nat.le_of_lt hs.lt)
  refine (Any.Builder_String_any (ρ := joinL_ren) { joinL with } joinX hB.size b (xs.map fun x : Int => UInt8.ofNat x.toNat) w hisb hBw).mono ?_
  rintro e w' ⟨rfl, hbel⟩
  have e1 : (⟨(xs.map fun x : Int => UInt8.ofNat x.toNat).toArray⟩ : ByteArray) = bytesOfInts xs := data_inj (by rw [ints_data])
  rw [e1]
  refine ⟨_, rfl, below_same hbel, hq _ fun k o hk => ?_⟩
  have hlt := (Array.getElem?_eq_some_iff.1 hk).1
  rw [hbel.block k hlt]
  exact (hs.re [2, 0, 1]).old_get hk
end Go.Proofs.YtfhalebbcbgbdaaGreatDoor
namespace Go.Proofs.YtfhalebbcbgbdaaGreatDoor
open Go.H Go.Proofs Go.Lib
set_option linter.unusedSimpArgs false
set_option linter.unusedVariables false
set_option maxRecDepth 100000
variable {h h0 : Heap} {R : List Asn}
def tagX (t : ByteArray) : ByteArray := vB 38 ++ (datB tagS ++ datB t)
def propC (t : ByteArray) : Int := if t = e0S then 0 else textC t
def propB (t : ByteArray) : ByteArray := if t = e0S then vB 0 else if textC t = 0 then vB (tagX t).size ++ tagX t else e0S
theorem textC_tag : textC tagS = 0 := by decide
theorem textB_tag : textB tagS = datB tagS := by unfold textB; rw [if_pos textC_tag]
theorem textC_size {t : ByteArray} (h : textC t = 0) : t.size ≤ 65535 := by
  unfold textC at h
  split at h
  · cases h
  · split at h
    · cases h
    · omega
theorem datB_size (t : ByteArray) : (datB t).size = t.size + 2 := by
  unfold datB
  rw [ByteArray.size_append, fixB_size]
  omega
theorem tagX_size (t : ByteArray) : (tagX t).size = t.size + 8 := by
  unfold tagX
  rw [ByteArray.size_append, ByteArray.size_append, datB_size, datB_size, vB_size]
  show sizeV 38 + (3 + 2 + (t.size + 2)) = _
  have : sizeV 38 = 1 := by decide
  omega
theorem has_none (hs : sat h R) {a : Option Addr} {c : Nat} {Q : Value → Heap → Prop} (hq : ∀ h', sat h' R → Q (.bool false) h') : HCalls Tryz.prog 200 #[.slice a 0 c, .int .i64 38] h Q := by
  refine prop_has_calls ⟨a, 0, c⟩ 38 h Q ?_
  unfold prop_has
  refine bind_callN ?_
  refine prop_Find_calls ⟨a, 0, c⟩ 38 h _ ?_
  unfold prop_Find
  refine new_cells hs fun x1 h1 hs1 => ?_
  refine new_cells hs1 fun x2 h2 hs2 => ?_
  refine bind_call1 ?_
  refine slices_IndexFunc_Property_calls ⟨a, 0, c⟩ _ h2 _ ?_
  unfold slices_IndexFunc_Property
  (try dsimp only); rw [HM.bind_apply]
  refine loop_for 0 (fun i x h' => h' = h2 ∧ x.1 = (i : Int)) ⟨rfl, rfl⟩ (fun i x h1 hi hJ => by rw [hJ.2]; exact decide_eq_decide.2 (by omega)) (fun x h1 hJ K hd => ?_) (fun i x h1 hlt => absurd hlt (by omega))
  obtain ⟨rfl, hx⟩ := hJ
  refine hd _ _ ⟨-1, rfl, ?_⟩
  (try dsimp only); rw [HM.ite_apply, if_pos (by rfl)]
  refine storeN_all' hs2 rfl rfl fun h3 hs3 => ?_
  refine loadN_cells (ts := [.int .i64, .int .i64, .str, .str]) (0, 0, ByteArray.mk #[], ByteArray.mk #[], ()) hs3 rfl ?_
  refine ⟨((0, 0, ByteArray.mk #[], ByteArray.mk #[], ()), false, ()), rfl, ?_⟩
  refine new_cells hs3 fun x4 h4 hs4 => ?_
  (try dsimp only); rw [HM.bind_apply]
  refine storeN_all' hs4 rfl rfl fun h5 hs5 => ?_
  (try dsimp only); rw [HM.bind_apply, HM.ite_apply, if_neg (by simp)]
  exact hq _ hs5.drop.drop.drop
theorem pval_spec (hs : sat h (old h0 :: R)) (ht : U8 h0) {n : Int} {t : ByteArray} (hsz : t.size ≤ 9223372036854775000) {Q : Value → Heap → Prop}
    (hq : ∀ h', sat h' (old h0 :: R) → Q (.tuple #[.string (datB tagS ++ textB t), .int .u8 (textC t)]) h') :
    HCalls Tryz.prog 201 #[.agg #[.int .i64 38, .int .i64 n, .string tagS, .string t]] h Q := by
  refine prop_Property_value_calls (38, n, tagS, t, ()) h Q ?_
  unfold prop_Property_value
  refine new_cells hs fun x1 h1 hs1' => ?_
  have hs1 : sat h1 (cells x1 (encPr (38, n, tagS, t)).toArray :: old h0 :: R) := hs1'
  refine ⟨38, by rw [add_own]; exact hs1.cell 0, ?_⟩
  refine bind_call1 (kind38 ⟨7, rfl, ?_⟩)
  (try dsimp only); rw [HM.ite_apply, if_neg (by decide), HM.ite_apply, if_neg (by decide), HM.ite_apply, if_neg (by decide), HM.ite_apply, if_pos (by decide)]
  refine ⟨tagS, by rw [add_own]; exact hs1.cell 2, ?_⟩
  refine bind_callN (tput_spec hs1.p1 ht (by decide) fun h2 hs2 => ⟨(textB tagS, textC tagS, ()), rfl, ?_⟩)
  (try dsimp only); rw [textC_tag, textB_tag, HM.ite_apply, if_neg (by decide)]
  refine ⟨t, by rw [add_own]; exact hs2.p1.cell 3, ?_⟩
  refine bind_callN (tput_spec hs2 ht (by omega) fun h3 hs3 => ⟨(textB t, textC t, ()), rfl, ?_⟩)
  refine ⟨?_, hq h3 (hs3.p1).drop⟩
  have : (textB t).size ≤ t.size + 2 := by
    unfold textB
    split
    · rw [datB_size]; exact Nat.le_refl _
    · show 0 ≤ _; omega
  rw [datB_size]
  show 3 + 2 + (textB t).size ≤ _
  omega
theorem blen_spec {b : Nat} {xs : List Int} (hs : sat h (bldA b xs :: R)) {Q : Value → Heap → Prop} (hq : Q (.int .i64 ((xs.length : Nat) : Int)) h) : HCalls Tryz.prog 87 #[ptrB b] h Q := by
  refine strings_Builder_Len_calls (some ⟨b, 0, none⟩) h Q ?_
  unfold strings_Builder_Len
  obtain ⟨p, s, hp, hs⟩ := bldA_iff.1 hs
  have hg := hs.get
  have hl : s.len = xs.length := by
    rcases bufA_cases hs.p1 with ⟨rfl, rfl, -⟩ | ⟨g, cur, hf, -⟩
    · rfl
    · exact hf.len
  refine ⟨_, rfl, s, by rw [add_own]; simp [cellH, hg], ?_⟩
  have := hq
  rw [← hl] at this
  exact this
theorem bld_new {Q : Nat → Heap → Prop} (hq : sat (h.push (.cells #[.pointer none, .slice none 0 0] 199)) (bldA h.size [] :: old h :: []) → Q h.size (h.push (.cells #[.pointer none, .slice none 0 0] 199))) : HM.new (.cells #[.pointer none, .slice none 0 0] 199) h Q :=
  hq (bldA_iff.2 ⟨.pointer none, ⟨none, 0, 0⟩, .inl rfl, ((bufA_nil (T := 5) (sat_old h).push).p1)⟩)
theorem intsS_byte (t : ByteArray) : ∀ x ∈ intsS t, 0 ≤ x ∧ x < 256 := by
  intro x hx
  unfold intsS at hx
  obtain ⟨b, -, rfl⟩ := List.mem_map.1 hx
  have := b.toNat_lt
  omega
theorem ints_intsS (t : ByteArray) : bytesOfInts (intsS t) = t := by
  refine data_inj ?_
  rw [ints_data]
  unfold intsS
  rw [List.map_map]
  conv => rhs; rw [← List.map_id t.data.toList]
  refine List.map_congr_left fun b _ => ?_
  simp
theorem U8.up (ht : U8 h0) (hs : sat h (old h0 :: R)) : U8 h := ⟨fun c hc => hs.old_cell (ht.1 c hc), fun i hi => ⟨hs.old_cell (ht.2 i hi).1, hs.old_cell (ht.2 i hi).2⟩⟩
theorem pput_spec (hs : sat h (old h0 :: R)) (ht : U8 h0) {t : ByteArray} (hsz : t.size ≤ 9223372036854775000) {s : Slc} (hr : RowAt encPr 4 h s (tagP t)) {Q : Value → Heap → Prop}
    (hq : ∀ h', sat h' (old h0 :: R) → Q (.tuple #[.string (propB t), .int .u8 (propC t)]) h') :
    HCalls Tryz.prog 165 #[.slice s.a s.len s.cap] h Q := by
  refine prop_Put_calls s h Q ?_
  unfold prop_Put
  have hsl := hr.1
  have hl1 : (tagP t).length ≤ 1 := by unfold tagP; split <;> simp
  (try dsimp only); rw [HM.ite_apply, if_neg (by simp only [decide_eq_true_eq]; omega)]
  (try dsimp only); rw [HM.bind_apply]
  refine bld_new fun hb0 => ?_
  generalize h.push (.cells #[.pointer none, .slice none 0 0] 199) = h2 at hb0 ⊢
  generalize hbb : h.size = b at hb0 ⊢
  have fin : ∀ (x : ByteArray) (h3 : Heap), x.size ≤ 70000 → propC t = 0 → propB t = vB x.size ++ x → sat h3 (bldA b (intsS x) :: old h :: []) →
      (HM.bind (HM.call1 Tryz.prog (.one (.int .i64)) 87 #[.pointer (some ⟨b, 0, none⟩)]) fun x17 =>
        HM.bind (HM.callN Tryz.prog [.one .str, .one (.int .u8)] 89 #[.int .i64 x17]) fun x18 =>
        HM.ite (!(x18.2.1 == 0)) (HM.pure (ByteArray.mk #[], 149, ())) (
        HM.bind (HM.call1 Tryz.prog (.one .str) 90 #[.pointer (some ⟨b, 0, none⟩)]) fun x19 =>
        HM.req (ByteArray.size x18.1 + ByteArray.size x19 ≤ 9223372036854775807) <|
        HM.pure (x18.1 ++ x19, 0, ()))) h3 (fun (r : ByteArray × Int × Unit) h' => Q (.tuple #[.string r.1, .int .u8 r.2.1]) h') := by
    intro x h3 hx hc hB hs3
    refine bind_call1 (blen_spec hs3 ⟨_, rfl, ?_⟩)
    (try dsimp only); rw [intsS_len]
    refine bind_callN (vput_spec hs3 (n := x.size) (by omega) fun h4 hs4 => ⟨(vB x.size, 0, ()), rfl, ?_⟩)
    (try dsimp only); rw [HM.ite_apply, if_neg (by decide)]
    refine bind_call1 (String_spec hs4 (by omega) (intsS_byte x) fun h5 hk => ⟨_, rfl, ?_⟩)
    (try dsimp only); rw [ints_intsS]
    refine ⟨?_, ?_⟩
    · have := sizeV_pos x.size
      rw [vB_size]
      omega
    have := hq h5 (hs.grow hk)
    rw [hc, hB] at this
    exact this
  by_cases hte : t = e0S
  · have hnil : tagP t = [] := by unfold tagP; rw [if_pos hte]
    rw [hnil] at hr hsl
    (try dsimp only); rw [HM.bind_apply]
    refine loop_for 0 (fun i x h' => h' = h2 ∧ x.1 = (i : Int)) ⟨rfl, rfl⟩ (fun i x h1 hi hJ => by rw [hJ.2, hsl]; exact decide_eq_decide.2 (by simp)) (fun x h1 hJ K hd => ?_) (fun i x h1 hlt => absurd hlt (by omega))
    obtain ⟨rfl, hx⟩ := hJ
    refine hd _ _ ?_
    refine fin e0S _ (by decide) (by unfold propC; rw [if_pos hte]) ?_ hb0
    unfold propB
    rw [if_pos hte]
    rfl
  · have hone : tagP t = [(38, 0, tagS, t)] := by unfold tagP; rw [if_neg hte]
    rw [hone] at hr hsl
    have hp0 : propC t = textC t := by unfold propC; rw [if_neg hte]
    (try dsimp only); rw [HM.bind_apply]
    refine loop_for 1 (fun i x h' => x.1 = (i : Int) ∧ if i = 0 then h' = h2 else textC t = 0 ∧ sat h' (bldA b (intsS (tagX t)) :: old h :: [])) ⟨rfl, by rw [if_pos rfl]⟩ (fun i x h1 hi hJ => by rw [hJ.1, hsl]; exact decide_eq_decide.2 (by simp; omega)) (fun x h1 hJ K hd => ?_) (fun i x h1 hlt hJ K hnx hd => ?_)
    · obtain ⟨hx, hJ⟩ := hJ
      rw [if_neg (by decide)] at hJ
      refine hd _ _ ?_
      have hz := textC_size hJ.1
      refine fin (tagX t) _ (by rw [tagX_size]; omega) (by rw [hp0]; exact hJ.1) ?_ hJ.2
      unfold propB
      rw [if_neg hte, if_pos hJ.1]
    · have hi0 : i = 0 := by omega
      subst hi0
      obtain ⟨ci, ⟨⟩⟩ := x
      obtain ⟨hx, hJ⟩ := hJ
      rw [if_pos rfl] at hJ
      simp only at hx
      subst hx hJ
      (try dsimp only); rw [HM.bind_apply]
      refine idx_row (i := 0) (hr.old hb0.p1) (x := (38, 0, tagS, t)) rfl fun a ha => ?_
      refine loadN_of (ts := [.int .i64, .int .i64, .str, .str]) ((38, 0, tagS, t, ()) : Int × Int × ByteArray × ByteArray × Unit) ha ?_
      refine new_cells hb0 fun x6 h3 hs3 => ?_
      (try dsimp only); rw [HM.bind_apply]
      refine storeN_all' hs3 rfl rfl fun h4 hs4' => ?_
      have hs4 : sat h4 (cells x6 (encPr (38, 0, tagS, t)).toArray :: bldA b [] :: old h :: []) := hs4'
      clear hs4' hs3
      refine ⟨38, by rw [add_own]; exact hs4.cell 0, ?_⟩
      refine bind_call1 (kind38 ⟨7, rfl, ?_⟩)
      (try dsimp only); rw [HM.ite_apply, if_neg (by decide)]
      (try dsimp only); rw [HM.bind_apply]
      refine ⟨0, 0, s.cap, rfl, ⟨rfl, by omega⟩, rfl, ?_⟩
      refine ⟨38, by rw [add_own]; exact hs4.cell 0, ?_⟩
      refine bind_call1 (has_none hs4 fun h5 hs5 => ⟨false, rfl, ?_⟩)
      (try dsimp only); rw [HM.ite_apply, if_neg (by decide)]
      refine loadN_cells (ts := [.int .i64, .int .i64, .str, .str]) ((38, 0, tagS, t, ()) : Int × Int × ByteArray × ByteArray × Unit) hs5 rfl ?_
      refine bind_callN (pval_spec hs5.p2 (ht.up hs) (by omega) fun h6 hs6' => ⟨(datB tagS ++ textB t, textC t, ()), rfl, ?_⟩)
      have hs6 : sat h6 (cells x6 (encPr (38, 0, tagS, t)).toArray :: bldA b [] :: old h :: []) := hs6'.re [1, 2, 0]
      clear hs6' hs5 hs4
      (try dsimp only); rw [HM.ite_apply]
      by_cases hc : textC t = 0
      · rw [if_neg (by rw [hc]; decide)]
        have htb : textB t = datB t := by unfold textB; rw [if_pos hc]
        have hz := textC_size hc
        refine ⟨38, by rw [add_own]; exact hs6.cell 0, ?_⟩
        refine bind_callN (vput_spec hs6 (n := 38) (by decide) fun h7 hs7 => ⟨(vB 38, 0, ()), rfl, ?_⟩)
        (try dsimp only); rw [htb]
        have hsz2 : (vB 38 ++ (datB tagS ++ datB t)).size = t.size + 8 := tagX_size t
        refine ⟨?_, ?_⟩
        · rw [← ByteArray.size_append, hsz2]; omega
        refine bind_callN (Write_spec (t := tagX t) hs7.p1 (by rw [tagX_size]; simp only [List.length_nil]; omega) fun h8 hs8 => ⟨(_, .nilIface, ()), rfl, ?_⟩)
        refine hnx _ _ ⟨by decide, ?_⟩
        rw [if_neg (by decide)]
        rw [List.nil_append] at hs8
        exact ⟨hc, hs8.p1.drop.re [0, 1] |> fun hh => hs8.re [0, 2, 1] |> fun h2 => (hs8.p1.drop.re [0, 1])⟩
      · rw [if_pos (by simp [hc])]
        refine hd _ _ ?_
        have := hq h6 (hs.grow fun k o ho => (hs6.re [2, 0, 1]).old_get ho)
        rw [hp0] at this
        unfold propB at this
        rw [if_neg hte, if_neg hc] at this
        exact this
end Go.Proofs.YtfhalebbcbgbdaaGreatDoor
namespace Go.Proofs.YtfhalebbcbgbdaaGreatDoor
set_option linter.unusedSimpArgs false
open Go.H Go.Proofs
set_option linter.unusedVariables false
set_option synthInstance.maxSize 100000
set_option synthInstance.maxHeartbeats 400000
theorem eI_len (x : Int) : (eI x).length = 1 := rfl
theorem eI_cell (x : Int) : ∀ v ∈ eI x, v.oneCell' = true := by intro v hv; simp at hv; subst hv; rfl
end Go.Proofs.YtfhalebbcbgbdaaGreatDoor
namespace Go.Proofs.YtfhalebbcbgbdaaGreatDoor
open Go.H Go.Proofs Go.Lib
set_option linter.unusedSimpArgs false
set_option linter.unusedVariables false
set_option maxRecDepth 100000
variable {h h0 : Heap} {R : List Asn}
theorem row_cells {b n : Nat} {xs : List Int} {cs : Array Value} (hc : cs = (xs.flatMap eI).toArray) (hn : n = xs.length) (hs : sat h (cells b cs :: R)) : RowAt eI 1 h ⟨some ⟨b, 0, none⟩, n, n⟩ xs := by
  subst hc hn
  have : sat h (ownS eI 1 ⟨some ⟨b, 0, none⟩, xs.length, xs.length⟩ xs :: R) := by
    refine ownS_mk (o := 0) ⟨by simp, Nat.le_refl _, rfl, by simp [flat_len eI_len], ?_⟩ hs
    simp only [Nat.zero_mul, List.drop_zero, List.toList_toArray]
    rw [List.take_of_length_le (by rw [flat_len eI_len]; exact Nat.le_refl _)]
  exact this.own_row eI_len
theorem rkind38 (hs : sat h R) {Q : Value → Heap → Prop} (hq : ∀ h', sat h' R → Q (.int .i64 7) h') : HCalls Tryz.prog 205 #[.int .i64 38] h Q := by
  refine ref04_KindOf_calls 38 h Q ?_
  unfold ref04_KindOf
  refine new_cells hs fun x1 h1 hs1 => ?_
  refine bind_call1 (rin_spec (s := ⟨some ⟨x1, 0, none⟩, 8, 8⟩) (row_cells (xs := [1, 23, 25, 36, 37, 40, 41, 42]) rfl rfl hs1) (by decide) ⟨false, rfl, ?_⟩)
  refine new_cells hs1 fun x2 h2 hs2 => ?_
  refine bind_call1 (rin_spec (s := ⟨some ⟨x2, 0, none⟩, 4, 4⟩) (row_cells (xs := [19, 33, 34, 35]) rfl rfl hs2) (by decide) ⟨false, rfl, ?_⟩)
  refine new_cells hs2 fun x3 h3 hs3 => ?_
  refine bind_call1 (rin_spec (s := ⟨some ⟨x3, 0, none⟩, 4, 4⟩) (row_cells (xs := [2, 17, 24, 39]) rfl rfl hs3) (by decide) ⟨false, rfl, ?_⟩)
  refine new_cells hs3 fun x4 h4 hs4 => ?_
  refine bind_call1 (rin_spec (s := ⟨some ⟨x4, 0, none⟩, 2, 2⟩) (row_cells (xs := [9, 22]) rfl rfl hs4) (by decide) ⟨false, rfl, ?_⟩)
  refine new_cells hs4 fun x5 h5 hs5 => ?_
  refine bind_call1 (rin_spec (s := ⟨some ⟨x5, 0, none⟩, 7, 7⟩) (row_cells (xs := [3, 8, 18, 21, 26, 28, 31]) rfl rfl hs5) (by decide) ⟨false, rfl, ?_⟩)
  exact hq h5 hs5.drop.drop.drop.drop.drop
def valB (t : ByteArray) : ByteArray := if textC t = 0 then datB tagS ++ textB t else e0S
theorem e0_append (x : ByteArray) : e0S ++ x = x := data_inj (by simp [ByteArray.data_append])
theorem rval_spec (hs : sat h R) {n : Int} {t : ByteArray} (hsz : t.size ≤ 9223372036854775000) {Q : Value → Heap → Prop}
    (hq : ∀ h', sat h' R → Q (.tuple #[.string (valB t), .int .i64 (textC t)]) h') :
    HCalls Tryz.prog 207 #[.agg #[.int .i64 38, .int .i64 n, .string tagS, .string t]] h Q := by
  refine ref04_value_calls (38, n, tagS, t, ()) h Q ?_
  unfold ref04_value
  refine new_cells hs fun x1 h1 hs1' => ?_
  have hs1 : sat h1 (cells x1 (encPr (38, n, tagS, t)).toArray :: R) := hs1'
  refine ⟨38, by rw [add_own]; exact hs1.cell 0, ?_⟩
  refine bind_call1 (rkind38 hs1 fun h2 hs2 => ⟨7, rfl, ?_⟩)
  (try dsimp only); rw [HM.ite_apply, if_neg (by decide), HM.ite_apply, if_neg (by decide), HM.ite_apply, if_neg (by decide), HM.ite_apply, if_pos (by decide)]
  refine ⟨tagS, by rw [add_own]; exact hs2.cell 2, ?_⟩
  refine bind_callN (rtput_spec hs2 (by decide) fun h3 hs3 => ⟨(textB tagS, textC tagS, ()), rfl, ?_⟩)
  (try dsimp only); rw [textC_tag, textB_tag, HM.ite_apply, if_neg (by decide)]
  refine ⟨t, by rw [add_own]; exact hs3.cell 3, ?_⟩
  refine bind_callN (rtput_spec hs3 (by omega) fun h4 hs4 => ⟨(textB t, textC t, ()), rfl, ?_⟩)
  have h9 := hq h4 hs4.drop
  unfold valB at h9
  (try dsimp only); rw [HM.ite_apply]
  by_cases hc : textC t = 0
  · rw [if_neg (by rw [hc]; decide)]
    rw [if_pos hc, hc] at h9
    refine ⟨?_, h9⟩
    have : (textB t).size ≤ t.size + 2 := by
      unfold textB
      rw [if_pos hc, datB_size]
      exact Nat.le_refl _
    rw [datB_size]
    show 3 + 2 + (textB t).size ≤ _
    omega
  · rw [if_pos (by simp [hc])]
    rw [if_neg hc] at h9
    exact h9
theorem rpput_spec (hs : sat h R) {t : ByteArray} (hsz : t.size ≤ 9223372036854775000) {s : Slc} (hr : ∀ {h' : Heap}, sat h' R → RowAt encPr 4 h' s (tagP t)) {Q : Value → Heap → Prop}
    (hq : ∀ h', sat h' R → Q (.tuple #[.string (propB t), .int .i64 (propC t)]) h') :
    HCalls Tryz.prog 173 #[.slice s.a s.len s.cap] h Q := by
  refine ref04_Put_calls s h Q ?_
  unfold ref04_Put
  have hsl := (hr hs).1
  have hl1 : (tagP t).length ≤ 1 := by unfold tagP; split <;> simp
  (try dsimp only); rw [HM.ite_apply, if_neg (by simp only [decide_eq_true_eq]; omega)]
  have fin : ∀ (x : ByteArray) (h3 : Heap), x.size ≤ 70000 → propC t = 0 → propB t = vB x.size ++ x → sat h3 R →
      (HM.bind (HM.callN Tryz.prog [.one .str, .one (.int .i64)] 94 #[.int .i64 ((ByteArray.size x : Nat) : Int)]) fun x15 =>
        HM.ite (!(x15.2.1 == 0)) (HM.pure (ByteArray.mk #[], 149, ())) (
        HM.req (ByteArray.size x15.1 + ByteArray.size x ≤ 9223372036854775807) <|
        HM.pure (x15.1 ++ x, 0, ()))) h3 (fun (r : ByteArray × Int × Unit) h' => Q (.tuple #[.string r.1, .int .i64 r.2.1]) h') := by
    intro x h3 hx hc hB hs3
    refine bind_callN (rvput_spec hs3 (n := x.size) (by omega) fun h4 hs4 => ⟨(vB x.size, 0, ()), rfl, ?_⟩)
    (try dsimp only); rw [HM.ite_apply, if_neg (by decide)]
    refine ⟨?_, ?_⟩
    · have := sizeV_pos x.size
      rw [vB_size]
      omega
    have := hq h4 hs4
    rw [hc, hB] at this
    exact this
  by_cases hte : t = e0S
  · have hnil : tagP t = [] := by unfold tagP; rw [if_pos hte]
    rw [hnil] at hsl
    (try dsimp only); rw [HM.bind_apply]
    refine loop_for 0 (fun i x h' => h' = h ∧ x.1 = e0S ∧ x.2.1 = (i : Int)) ⟨rfl, rfl, rfl⟩ (fun i x h1 hi hJ => by rw [hJ.2.2, hsl]; exact decide_eq_decide.2 (by simp)) (fun x h1 hJ K hd => ?_) (fun i x h1 hlt => absurd hlt (by omega))
    obtain ⟨rfl, hx0, hx⟩ := hJ
    refine hd _ _ ?_
    (try dsimp only); rw [hx0]
    refine fin e0S _ (by decide) (by unfold propC; rw [if_pos hte]) ?_ hs
    unfold propB
    rw [if_pos hte]
    rfl
  · have hone : tagP t = [(38, 0, tagS, t)] := by unfold tagP; rw [if_neg hte]
    rw [hone] at hr hsl
    have hp0 : propC t = textC t := by unfold propC; rw [if_neg hte]
    (try dsimp only); rw [HM.bind_apply]
    refine loop_for 1 (fun i x h' => x.2.1 = (i : Int) ∧ sat h' R ∧ if i = 0 then x.1 = e0S else textC t = 0 ∧ x.1 = tagX t) ⟨rfl, hs, by rw [if_pos rfl]⟩ (fun i x h1 hi hJ => by rw [hJ.1, hsl]; exact decide_eq_decide.2 (by simp; omega)) (fun x h1 hJ K hd => ?_) (fun i x h1 hlt hJ K hnx hd => ?_)
    · obtain ⟨hx, hs1, hJ⟩ := hJ
      rw [if_neg (by decide)] at hJ
      refine hd _ _ ?_
      have hz := textC_size hJ.1
      (try dsimp only); rw [hJ.2]
      refine fin (tagX t) _ (by rw [tagX_size]; omega) (by rw [hp0]; exact hJ.1) ?_ hs1
      unfold propB
      rw [if_neg hte, if_pos hJ.1]
    · have hi0 : i = 0 := by omega
      subst hi0
      obtain ⟨x0, ci, ⟨⟩⟩ := x
      obtain ⟨hx, hs1, hJ⟩ := hJ
      rw [if_pos rfl] at hJ
      simp only at hx hJ
      subst hx hJ
      (try dsimp only); rw [HM.bind_apply]
      refine idx_row (i := 0) (hr hs1) (x := (38, 0, tagS, t)) rfl fun a ha => ?_
      refine ⟨38, ha 0 _ rfl, ?_⟩
      refine bind_call1 (rkind38 hs1 fun h2 hs2 => ⟨7, rfl, ?_⟩)
      (try dsimp only); rw [HM.ite_apply, if_neg (by decide)]
      (try dsimp only); rw [HM.bind_apply]
      refine idx_row (i := 0) (hr hs2) (x := (38, 0, tagS, t)) rfl fun a ha => ?_
      refine ⟨38, ha 0 _ rfl, ?_⟩
      refine bind_call1 ?_
      refine ref04_twice_calls s _ 38 h2 _ ?_
      unfold ref04_twice
      (try dsimp only); rw [HM.ite_apply, if_pos (by decide)]
      refine ⟨false, rfl, ?_⟩
      (try dsimp only); rw [HM.ite_apply, if_neg (by decide)]
      (try dsimp only); rw [HM.bind_apply]
      refine idx_row (i := 0) (hr hs2) (x := (38, 0, tagS, t)) rfl fun a ha => ?_
      refine loadN_of (ts := [.int .i64, .int .i64, .str, .str]) ((38, 0, tagS, t, ()) : Int × Int × ByteArray × ByteArray × Unit) ha ?_
      refine bind_callN (rval_spec hs2 (by omega) fun h3 hs3 => ⟨(valB t, textC t, ()), rfl, ?_⟩)
      (try dsimp only); rw [HM.ite_apply]
      by_cases hc : textC t = 0
      · rw [if_neg (by rw [hc]; decide)]
        have htb : textB t = datB t := by unfold textB; rw [if_pos hc]
        have hz := textC_size hc
        (try dsimp only); rw [HM.bind_apply]
        refine idx_row (i := 0) (hr hs3) (x := (38, 0, tagS, t)) rfl fun a ha => ?_
        refine ⟨38, ha 0 _ rfl, ?_⟩
        refine bind_callN (rvput_spec hs3 (n := 38) (by decide) fun h4 hs4 => ⟨(vB 38, 0, ()), rfl, ?_⟩)
        have hsz2 : (vB 38 ++ (datB tagS ++ datB t)).size = t.size + 8 := tagX_size t
        have ee : e0S ++ vB 38 ++ valB t = tagX t := by
          rw [e0_append]
          unfold valB
          rw [if_pos hc, htb]
          rfl
        (try dsimp only)
        refine ⟨?_, ?_, ?_⟩
        · rw [← ByteArray.size_append, e0_append, vB_size]
          decide
        · rw [← ByteArray.size_append, ee, tagX_size]
          omega
        · exact hnx _ _ ⟨by (try dsimp only); decide, hs4, by rw [if_neg (by decide)]; exact ⟨hc, ee⟩⟩
      · rw [if_pos (by simp [hc])]
        refine hd _ _ ?_
        have := hq h3 hs3
        rw [hp0] at this
        unfold propB at this
        rw [if_neg hte, if_neg hc] at this
        exact this
end Go.Proofs.YtfhalebbcbgbdaaGreatDoor
namespace Go.Proofs.YtfhalebbcbgbdaaGreatDoor
open Go.H Go.Proofs
set_option linter.unusedSimpArgs false
set_option linter.unusedVariables false
set_option synthInstance.maxSize 100000
set_option synthInstance.maxHeartbeats 400000
theorem Index_spec {h : Heap} {s : Slc} {xs : List Int} {x : Int} (hx : RowAt eI 1 h s xs) (hb : xs.length ≤ 4611686018427387904) {Q : Value → Heap → Prop}
    (hno : x ∉ xs → Q (.int .i64 (-1)) h) (hyes : x ∈ xs → ∀ i : Nat, xs[i]? = some x → Q (.int .i64 i) h) :
    HCalls Tryz.prog 220 #[.slice s.a s.len s.cap, .int .i64 x] h Q := by
  refine slices_Index_calls s x h Q ?_
  unfold slices_Index
  simp
  have h1 := hx.1
  refine loop_gx (γ := Nat) (fun i c h' => h' = h ∧ c.1 = (i : Int) ∧ i ≤ xs.length ∧ x ∉ xs.take i) (fun i => xs.length - i) 0 ⟨rfl, rfl, Nat.zero_le _, by simp⟩ ?_
  rintro i ⟨c, ⟨⟩⟩ h' ⟨rfl, hc, hi, hn⟩
  simp only at hc
  subst hc
  have next : IntKind.wrap .i64 ((i : Int) + 1) = ((i + 1 : Nat) : Int) := by rw [wrap_id (by omega) (by omega)]; rfl
  simp
  by_cases hlt : i < xs.length
  · rw [if_pos (by omega)]
    refine idx_row hx (List.getElem?_eq_getElem hlt) fun a ha => ?_
    have c0 : cellH h' a = some (.int .i64 xs[i]) := by simpa [Go.H.add_zero] using ha 0 _ rfl
    simp [c0]
    by_cases he : x = xs[i]
    · rw [if_pos he]
      exact hyes (he ▸ List.getElem_mem hlt) i (by rw [he]; exact List.getElem?_eq_getElem hlt)
    · rw [if_neg he]
      refine .mk (i + 1) (by omega) ⟨rfl, next, by omega, fun hm => ?_⟩
      rw [List.take_succ_eq_append_getElem hlt, List.mem_append] at hm
      rcases hm with hm | hm
      · exact hn hm
      · exact he (List.mem_singleton.1 hm)
  · rw [if_neg (by omega)]
    rw [List.take_of_length_le (by omega)] at hn
    exact hno hn
end Go.Proofs.YtfhalebbcbgbdaaGreatDoor
namespace Go.Proofs.YtfhalebbcbgbdaaGreatDoor
open Go.H Go.Proofs Go.Lib
set_option linter.unusedSimpArgs false
set_option linter.unusedVariables false
set_option maxRecDepth 100000
variable {h h0 : Heap} {R : List Asn}
theorem first0 (c : Int) : firstC c 0 = c := by unfold firstC; split <;> simp_all
theorem textB_size (t : ByteArray) : (textB t).size ≤ t.size + 2 := by
  unfold textB
  split
  · rw [datB_size]; exact Nat.le_refl _
  · show 0 ≤ _; omega
theorem propB_size (t : ByteArray) : (propB t).size ≤ t.size + 12 := by
  unfold propB
  split
  · rw [vB_size]; have := sizeV_pos 0; omega
  · split
    · rw [ByteArray.size_append, vB_size, tagX_size]
      have := sizeV_pos (t.size + 8)
      omega
    · show 0 ≤ _; omega
theorem wtxt_spec {b : Nat} {xs : List Int} {c : Int} {t : ByteArray} (hs : sat h (wrA b xs c :: old h0 :: R)) (ht : U8 h0) (hb : xs.length + t.size ≤ 1000000000) {Q : Value → Heap → Prop}
    (hq : ∀ h', sat h' (wrA b (xs ++ intsS (textB t)) (firstC c (textC t)) :: old h0 :: R) → Q (.tuple #[]) h') : HCalls Tryz.prog 161 #[ptrW b, .string t] h Q := by
  refine packet_writer_text_calls (some ⟨b, 0, none⟩) t h Q ?_
  unfold packet_writer_text
  refine bind_callN (tput_spec hs.p1 ht (by omega) fun h1 hs1 => ⟨(textB t, textC t, ()), rfl, ?_⟩)
  have := textB_size t
  refine bind_callN (wpart_spec (t := textB t) hs1.p1 (by omega) fun h2 hs2 => ⟨(), rfl, ?_⟩)
  exact hq h2 hs2
theorem wid_spec {b : Nat} {xs : List Int} {c : Int} {id : Nat} (hs : sat h (wrA b xs c :: R)) (h1 : 1 ≤ id ∧ id ≤ 65535) (hb : xs.length ≤ 1000000000) {Q : Value → Heap → Prop}
    (hq : ∀ h', sat h' (wrA b (xs ++ intsS (fixB 2 id)) c :: R) → Q (.tuple #[]) h') : HCalls Tryz.prog 124 #[ptrW b, .int .i64 id] h Q := by
  refine packet_writer_id_calls (some ⟨b, 0, none⟩) id h Q ?_
  unfold packet_writer_id
  refine cut (fun z h' => h' = h ∧ z.1 = false) ?_ ?_
  · intro K hK
    (try dsimp only); rw [HM.ite_apply, if_neg (by simp; omega)]
    exact hK _ _ ⟨rfl, by simp; omega⟩
  rintro ⟨z, ⟨⟩⟩ h2 ⟨rfl, hz⟩
  simp only at hz
  subst hz
  (try dsimp only); rw [HM.ite_apply, if_neg (by decide)]
  refine bind_callN ?_
  refine packet_writer_two_calls (some ⟨b, 0, none⟩) id h2 _ ?_
  unfold packet_writer_two
  refine bind_callN (Fixed_spec (w := 2) hs (.inr (.inl rfl)) (by simpa using Nat.lt_succ_of_le h1.2) fun h3 hs3 => ⟨(fixB 2 id, 0, ()), rfl, ?_⟩)
  refine bind_callN (wpart_spec (d := 0) hs3 (by rw [fixB_size]; omega) fun h4 hs4 => ⟨(), rfl, (), rfl, ?_⟩)
  rw [first0] at hs4
  exact hq h4 hs4
theorem allowed3 (hs : sat h R) {Q : Value → Heap → Prop} (hq : ∀ h', sat h' R → Q (.bool true) h') : HCalls Tryz.prog 168 #[.int .i64 3, .int .i64 38] h Q := by
  refine packet_Allowed_calls 3 38 h Q ?_
  unfold packet_Allowed
  refine cut (fun z h' => ∃ x : Nat, z.1 = ⟨some ⟨x, 0, none⟩, 8, 8⟩ ∧ sat h' (cells x #[.int .i64 1, .int .i64 2, .int .i64 3, .int .i64 8, .int .i64 9, .int .i64 11, .int .i64 35, .int .i64 38] :: R)) ?_ ?_
  · intro K hK
    simp only [HM.bind_apply, HM.ite_apply]
    simp
    refine new_cells hs fun x h1 hs1 => ?_
    exact hK _ _ ⟨x, rfl, hs1⟩
  rintro ⟨z, ⟨⟩⟩ h2 ⟨x, hz, hs2⟩
  simp only at hz
  subst hz
  refine bind_call1 ?_
  refine slices_Contains_calls ⟨some ⟨x, 0, none⟩, 8, 8⟩ 38 h2 _ ?_
  unfold slices_Contains
  refine bind_call1 (Index_spec (s := ⟨some ⟨x, 0, none⟩, 8, 8⟩) (x := 38) (row_cells (xs := [1, 2, 3, 8, 9, 11, 35, 38]) rfl rfl hs2) (by decide) (fun hn => absurd hn (by decide)) (fun _ i _ => ⟨i, rfl, ?_⟩))
  refine ⟨true, by simp, ?_⟩
  exact hq h2 hs2.drop
theorem wprops_spec {b : Nat} {xs : List Int} {c : Int} {t : ByteArray} {s : Slc} (hs : sat h (wrA b xs c :: old h0 :: R)) (ht : U8 h0) (hr : RowAt encPr 4 h0 s (tagP t)) (hb : xs.length + t.size ≤ 1000000000) {Q : Value → Heap → Prop}
    (hq : ∀ h', sat h' (wrA b (xs ++ intsS (propB t)) (firstC c (propC t)) :: old h0 :: R) → Q (.tuple #[]) h') : HCalls Tryz.prog 122 #[ptrW b, .int .i64 3, .slice s.a s.len s.cap] h Q := by
  refine packet_writer_props_calls (some ⟨b, 0, none⟩) 3 s h Q ?_
  unfold packet_writer_props
  refine new_cells hs fun x1 h1 hs1 => ?_
  have hsl := hr.1
  have hpz := propB_size t
  refine bind_callN (pput_spec (hs1.re [2, 0, 1]) ht (by omega) (hr.old (hs1.re [2, 0, 1])) fun h2 hs2 => ⟨(propB t, propC t, ()), rfl, ?_⟩)
  refine bind_callN (wpart_spec (t := propB t) (hs2.re [2, 0, 1]) (by omega) fun h3 hs3 => ⟨(), rfl, ?_⟩)
  refine bind_call1 ?_
  refine slices_ContainsFunc_calls s _ h3 _ ?_
  unfold slices_ContainsFunc
  have hs4 : sat h3 (cells x1 #[.int .i64 3] :: wrA b (xs ++ intsS (propB t)) (firstC c (propC t)) :: old h0 :: R) := hs3.re [2, 0, 1]
  clear hs3 hs2 hs1 hs
  refine bind_call1 ?_
  refine slices_IndexFunc_Property_calls s _ h3 _ ?_
  unfold slices_IndexFunc_Property
  (try dsimp only); rw [HM.bind_apply]
  refine loop_for (tagP t).length (fun i x h' => x.1 = (i : Int) ∧ sat h' (cells x1 #[.int .i64 3] :: wrA b (xs ++ intsS (propB t)) (firstC c (propC t)) :: old h0 :: R)) ⟨rfl, hs4⟩ (fun i x h1 hi hJ => by rw [hJ.1, hsl]; exact decide_eq_decide.2 (by omega)) (fun x h1 hJ K hd => ?_) (fun i x h1 hlt hJ K hnx hd => ?_)
  · obtain ⟨hx, hs5⟩ := hJ
    refine hd _ _ ⟨-1, rfl, false, rfl, ?_⟩
    (try dsimp only); rw [HM.bind_apply, HM.ite_apply, if_neg (by decide)]
    exact hq h1 hs5.drop
  · obtain ⟨ci, ⟨⟩⟩ := x
    obtain ⟨hx, hs5⟩ := hJ
    simp only at hx
    subst hx
    have hte : ¬ t = e0S := fun e => by unfold tagP at hlt; rw [if_pos e] at hlt; exact absurd hlt (by simp)
    have hone : tagP t = [(38, 0, tagS, t)] := by unfold tagP; rw [if_neg hte]
    have hi0 : i = 0 := by rw [hone] at hlt; simpa using hlt
    subst hi0
    (try dsimp only); rw [HM.bind_apply]
    refine idx_row (i := 0) (hr.old hs5.p2) (x := (38, 0, tagS, t)) (by rw [hone]; rfl) fun a ha => ?_
    refine loadN_of (ts := [.int .i64, .int .i64, .str, .str]) ((38, 0, tagS, t, ()) : Int × Int × ByteArray × ByteArray × Unit) ha ?_
    refine ⟨_, _, _, rfl, Tryz.call167, ?_⟩
    refine packet_writer_props_f1_calls (38, 0, tagS, t, ()) ⟨x1, 0, none⟩ h1 _ ?_
    unfold packet_writer_props_f1
    refine new_cells hs5 fun x6 h6 hs6 => ?_
    refine ⟨3, hs6.p1.cell 0, 38, by rw [add_own]; exact hs6.cell 0, ?_⟩
    refine bind_call1 (allowed3 hs6 fun h7 hs7 => ⟨true, rfl, false, rfl, ?_⟩)
    (try dsimp only); rw [HM.ite_apply, if_neg (by decide)]
    exact hnx _ _ ⟨by (try dsimp only); decide, hs7.drop⟩
end Go.Proofs.YtfhalebbcbgbdaaGreatDoor
namespace Go.Proofs.YtfhalebbcbgbdaaGreatDoor
open Go.H Go.Proofs Go.Lib
set_option linter.unusedSimpArgs false
set_option linter.unusedVariables false
set_option maxRecDepth 100000
variable {h h0 : Heap} {R : List Asn}
structure PubOK (o : PkO) (t : ByteArray) : Prop where
  kind : o.kind = 3
  props : o.props = tagP t
  qos : o.qos = 0 ∨ o.qos = 1 ∨ o.qos = 2
  dup : o.dup = true → o.qos ≠ 0
  id : o.qos ≠ 0 → 1 ≤ o.id ∧ o.id ≤ 65535
  top : o.topic.size ≤ 100000000
  pay : o.payload.size ≤ 100000000
  tag : t.size ≤ 100000000
def idB (o : PkO) : List Int := if o.qos = 0 then [] else intsS (fixB 2 o.id.toNat)
def bodyB (o : PkO) (t : ByteArray) : List Int := intsS (textB o.topic) ++ idB o ++ intsS (propB t) ++ intsS o.payload
def bodyC (o : PkO) (t : ByteArray) : Int := firstC (textC o.topic) (propC t)
theorem firstC_0 (c : Int) : firstC 0 c = c := by unfold firstC; rw [if_pos rfl]
theorem idB_len (o : PkO) : (idB o).length ≤ 2 := by
  unfold idB
  split
  · simp
  · rw [intsS_len, fixB_size]; exact Nat.le_refl _
theorem bodyB_len {o : PkO} {t : ByteArray} (k : PubOK o t) : (bodyB o t).length ≤ 400000000 := by
  unfold bodyB
  simp only [List.length_append, intsS_len]
  have h1 := textB_size o.topic
  have h2 := propB_size t
  have h3 := idB_len o
  have := k.top; have := k.pay; have := k.tag
  omega
theorem wpub_spec {b : Nat} {o : PkO} {t : ByteArray} {c p : Slc} (hs : sat h (wrA b [] 0 :: old h0 :: R)) (ht : U8 h0) (hk : PubOK o t) (hr : RowAt encPr 4 h0 p (tagP t)) {Q : Value → Heap → Prop}
    (hq : ∀ h', sat h' (wrA b (bodyB o t) (bodyC o t) :: old h0 :: R) → Q (.tuple #[]) h') : HCalls Tryz.prog 123 #[ptrW b, vPkK .u8 (pkT o c p)] h Q := by
  refine packet_writer_publish_calls (some ⟨b, 0, none⟩) (pkT o c p) h Q ?_
  unfold packet_writer_publish
  have h1 := textB_size o.topic
  have h2 := propB_size t
  have h3 := idB_len o
  have g1 := hk.top; have g2 := hk.pay; have g3 := hk.tag
  refine new_cells hs fun x1 hh1 hs1' => ?_
  have hs1 : sat hh1 (cells x1 (encPkK .u8 (pkT o c p)).toArray :: wrA b [] 0 :: old h0 :: R) := hs1'
  clear hs1' hs
  refine ⟨o.topic, by rw [add_own]; exact hs1.cell 5, ?_⟩
  refine bind_callN (wtxt_spec (hs1.re [1, 2, 0]) ht (by simp only [List.length_nil]; omega) fun hh2 hs2' => ⟨(), rfl, ?_⟩)
  rw [List.nil_append, firstC_0] at hs2'
  have hs2 : sat hh2 (cells x1 (encPkK .u8 (pkT o c p)).toArray :: wrA b (intsS (textB o.topic)) (textC o.topic) :: old h0 :: R) := hs2'.re [2, 0, 1]
  clear hs2' hs1
  refine ⟨o.qos, by rw [add_own]; exact hs2.cell 3, ?_⟩
  refine Go.H.cut (fun z h' => sat h' (cells x1 (encPkK .u8 (pkT o c p)).toArray :: wrA b (intsS (textB o.topic) ++ idB o) (textC o.topic) :: old h0 :: R)) ?_ ?_
  · intro K hK
    unfold idB at hK
    (try dsimp only); rw [HM.ite_apply]
    by_cases hq0 : o.qos = 0
    · rw [if_neg (by simp [hq0])]
      rw [if_pos hq0, List.append_nil] at hK
      exact hK _ _ hs2
    · rw [if_pos (by have := hk.qos; simp; omega)]
      rw [if_neg hq0] at hK
      obtain ⟨i1, i2⟩ := hk.id hq0
      have hid : o.id = ((o.id.toNat : Nat) : Int) := by omega
      refine ⟨o.id, by rw [add_own]; exact hs2.cell 4, ?_⟩
      rw [hid]
      refine bind_callN (wid_spec (hs2.re [1, 2, 0]) (by omega) (by rw [intsS_len]; omega) fun hh3 hs3 => ⟨(), rfl, ?_⟩)
      exact hK _ _ (hs3.re [2, 0, 1])
  rintro ⟨⟩ hh3 hs3
  refine ⟨p, by rw [add_own]; exact hs3.cell 9, ?_⟩
  refine bind_callN (wprops_spec (hs3.re [1, 2, 0]) ht hr (by simp only [List.length_append, intsS_len]; omega) fun hh4 hs4' => ⟨(), rfl, ?_⟩)
  have hs4 : sat hh4 (cells x1 (encPkK .u8 (pkT o c p)).toArray :: wrA b (intsS (textB o.topic) ++ idB o ++ intsS (propB t)) (bodyC o t) :: old h0 :: R) := hs4'.re [2, 0, 1]
  clear hs4' hs3
  refine ⟨o.payload, by rw [add_own]; exact hs4.cell 6, ?_⟩
  refine bind_callN (wpart_spec (d := 0) (hs4.re [1, 2, 0]) (by simp only [List.length_append, intsS_len]; omega) fun hh5 hs5 => ⟨(), rfl, ?_⟩)
  rw [first0] at hs5
  exact hq hh5 (hs5.re [2, 0, 1]).drop
theorem wbody_spec {b : Nat} {o : PkO} {t : ByteArray} {c p : Slc} (hs : sat h (wrA b [] 0 :: old h0 :: R)) (ht : U8 h0) (hk : PubOK o t) (hr : RowAt encPr 4 h0 p (tagP t)) {Q : Value → Heap → Prop}
    (hq : ∀ h', sat h' (wrA b (bodyB o t) (bodyC o t) :: old h0 :: R) → Q (.tuple #[]) h') : HCalls Tryz.prog 86 #[ptrW b, vPkK .u8 (pkT o c p)] h Q := by
  refine packet_writer_body_calls (some ⟨b, 0, none⟩) (pkT o c p) h Q ?_
  unfold packet_writer_body
  refine new_cells hs fun x1 hh1 hs1' => ?_
  have hs1 : sat hh1 (cells x1 (encPkK .u8 (pkT o c p)).toArray :: wrA b [] 0 :: old h0 :: R) := hs1'
  clear hs1' hs
  refine ⟨o.kind, by rw [add_own]; exact hs1.cell 0, ?_⟩
  rw [hk.kind]
  simp only [HM.bind_apply, HM.ite_apply]
  rw [if_neg (by decide), if_neg (by decide), if_pos (by decide)]
  simp only [HM.pure_apply, Sum.elim_inl, Sum.elim_inr]
  refine loadN_cells (ts := Pk_tK .u8) (pkT o c p) hs1 rfl ?_
  refine bind_callN (wpub_spec (c := c) (p := p) (hs1.re [1, 2, 0]) ht hk hr fun hh2 hs2 => ⟨(), rfl, ?_⟩)
  exact hq hh2 (hs2.re [2, 0, 1]).drop
def flagN (o : PkO) : Nat := (if o.dup = true then 8 else 0) + 2 * o.qos.toNat + (if o.retain = true then 1 else 0)
def putC (o : PkO) (t : ByteArray) : Int := if bodyC o t ≠ 0 then bodyC o t else if 65536 < (bodyB o t).length then 149 else 0
def putB (o : PkO) (t : ByteArray) : ByteArray := if putC o t = 0 then fixB 1 (48 + flagN o) ++ vB (bodyB o t).length ++ bytesOfInts (bodyB o t) else e0S
theorem bodyB_byte (o : PkO) (t : ByteArray) : ∀ x ∈ bodyB o t, 0 ≤ x ∧ x < 256 := by
  intro x hx
  unfold bodyB at hx
  simp only [List.mem_append] at hx
  rcases hx with ((hx | hx) | hx) | hx
  · exact intsS_byte _ x hx
  · unfold idB at hx
    split at hx
    · simp at hx
    · exact intsS_byte _ x hx
  · exact intsS_byte _ x hx
  · exact intsS_byte _ x hx
theorem bodyB_ne {o : PkO} {t : ByteArray} (h : bodyC o t = 0) : bodyB o t ≠ [] := by
  intro e
  have h1 : textC o.topic = 0 := by
    unfold bodyC firstC at h
    split at h
    · assumption
    · exact absurd h (by assumption)
  have h2 : 2 ≤ (intsS (textB o.topic)).length := by
    rw [intsS_len]
    unfold textB
    rw [if_pos h1, datB_size]
    omega
  have h3 := congrArg List.length e
  unfold bodyB at h3
  simp only [List.length_append, List.length_nil] at h3
  omega
theorem flags3 {Q : Value → Heap → Prop} (hq : Q (.int .i64 0) h) : HCalls Tryz.prog 82 #[.int .i64 3] h Q := by
  refine packet_Kind_flags_calls 3 h _ ?_
  unfold packet_Kind_flags
  simp only [HM.bind_apply, HM.ite_apply]
  rw [if_neg (by decide), if_neg (by decide)]
  simp only [HM.pure_apply]
  rw [if_neg (by decide)]
  exact hq
set_option maxHeartbeats 1000000 in
theorem put_spec {o : PkO} {t : ByteArray} {c p : Slc} (hs : sat h (old h0 :: R)) (ht : U8 h0) (hk : PubOK o t) (hr : RowAt encPr 4 h p (tagP t)) {Q : Value → Heap → Prop}
    (hq : ∀ h', sat h' (old h0 :: R) → Q (.tuple #[.string (putB o t), .int .u8 (putC o t)]) h') : HCalls Tryz.prog 50 #[vPkK .u8 (pkT o c p)] h Q := by
  refine packet_Put_calls (pkT o c p) h Q ?_
  unfold packet_Put
  have hU := ht.up hs
  refine new_cells (sat_old h) fun x1 h1 hs1' => ?_
  have hs1 : sat h1 (cells x1 (encPkK .u8 (pkT o c p)).toArray :: old h :: []) := hs1'
  clear hs1'
  have back : ∀ {h' : Heap} {A : List Asn}, sat h' (old h :: A) → sat h' (old h0 :: R) := fun hh => hs.grow fun k o ho => hh.old_get ho
  refine ⟨o.kind, by rw [add_own]; exact hs1.cell 0, ?_⟩
  (try dsimp only); rw [hk.kind]
  refine bind_call1 (flags3 ⟨0, rfl, ?_⟩)
  refine wr_new hs1 fun b h2 hs2 => ?_
  refine Go.H.cut (fun z h' => h' = h2 ∧ z.1 = false) ?_ ?_
  · intro K hK
    refine ⟨3, by rw [add_own]; exact (hs2.p1.cell 0).trans (by show some (Value.int .i64 o.kind) = _; rw [hk.kind]; rfl), ?_⟩
    (try dsimp only); rw [HM.ite_apply, if_neg (by decide)]
    refine ⟨3, by rw [add_own]; exact (hs2.p1.cell 0).trans (by show some (Value.int .i64 o.kind) = _; rw [hk.kind]; rfl), ?_⟩
    exact hK _ _ ⟨rfl, rfl⟩
  rintro ⟨z, ⟨⟩⟩ h3 ⟨rfl, hz⟩
  simp only at hz
  subst hz
  (try dsimp only); rw [HM.ite_apply, if_neg (by decide)]
  refine ⟨3, by rw [add_own]; exact (hs2.p1.cell 0).trans (by show some (Value.int .i64 o.kind) = _; rw [hk.kind]; rfl), ?_⟩
  have c1 : ∀ {h' : Heap} {A : List Asn}, sat h' (cells x1 (encPkK .u8 (pkT o c p)).toArray :: A) → cellH h' ⟨x1, 1, none⟩ = some (.bool o.dup) := fun hh => hh.cell 1
  have c2 : ∀ {h' : Heap} {A : List Asn}, sat h' (cells x1 (encPkK .u8 (pkT o c p)).toArray :: A) → cellH h' ⟨x1, 2, none⟩ = some (.bool o.retain) := fun hh => hh.cell 2
  have c3 : ∀ {h' : Heap} {A : List Asn}, sat h' (cells x1 (encPkK .u8 (pkT o c p)).toArray :: A) → cellH h' ⟨x1, 3, none⟩ = some (.int .i64 o.qos) := fun hh => hh.cell 3
  have hqr : 0 ≤ o.qos ∧ o.qos ≤ 2 := by have := hk.qos; omega
  refine Go.H.cut (fun z h' => z.1 = (flagN o : Int) ∧ h' = h3) ?_ ?_
  · intro K hK
    (try dsimp only); rw [HM.ite_apply, if_pos (by decide)]
    refine ⟨o.qos, by rw [add_own]; exact c3 hs2.p1, ?_⟩
    refine bind_callN ?_
    refine packet_writer_qos_calls (some ⟨b, 0, none⟩) o.qos h3 _ ?_
    unfold packet_writer_qos
    refine Go.H.cut (fun z h' => h' = h3 ∧ z.1 = false) ?_ ?_
    · intro K2 hK2
      (try dsimp only); rw [HM.ite_apply, if_neg (by simp; omega)]
      exact hK2 _ _ ⟨rfl, by simp; omega⟩
    rintro ⟨z, ⟨⟩⟩ h4 ⟨rfl, hz⟩
    simp only at hz
    subst hz
    (try dsimp only); rw [HM.bind_apply, HM.ite_apply, if_neg (by decide)]
    refine ⟨(), rfl, ?_⟩
    refine Go.H.cut (fun z h' => h' = h4 ∧ z.1 = false) ?_ ?_
    · intro K2 hK2
      refine ⟨o.dup, by rw [add_own]; exact c1 hs2.p1, ?_⟩
      (try dsimp only); rw [HM.ite_apply]
      cases hd : o.dup with
      | false => rw [if_neg (by decide)]; exact hK2 _ _ ⟨rfl, rfl⟩
      | true =>
        rw [if_pos rfl]
        refine ⟨o.qos, by rw [add_own]; exact c3 hs2.p1, hK2 _ _ ⟨rfl, ?_⟩⟩
        simpa using hk.dup hd
    rintro ⟨z, ⟨⟩⟩ h5 ⟨rfl, hz⟩
    simp only at hz
    subst hz
    (try dsimp only); rw [HM.bind_apply, HM.ite_apply, if_neg (by decide)]
    refine ⟨o.dup, by rw [add_own]; exact c1 hs2.p1, o.qos, by rw [add_own]; exact c3 hs2.p1, by decide, o.retain, by rw [add_own]; exact c2 hs2.p1, ?_⟩
    have bit : ∀ (v : Bool) (n : Int) (Q' : Value → Heap → Prop), Q' (.int .i64 (if v = true then n else 0)) h5 → HCalls Tryz.prog 85 #[.bool v, .int .i64 n] h5 Q' := fun v n Q' hQ' => by
      refine packet_bit_calls v n h5 Q' ?_
      unfold packet_bit
      rw [HM.ite_apply]
      cases v with
      | false => exact hQ'
      | true => exact hQ'
    refine bind_call1 (bit _ _ _ ⟨_, rfl, ?_⟩)
    refine ⟨o.retain, by rw [add_own]; exact c2 hs2.p1, rfl, o.qos, by rw [add_own]; exact c3 hs2.p1, rfl, ?_⟩
    refine bind_call1 (bit _ _ _ ⟨_, rfl, ?_⟩)
    refine ⟨o.qos, by rw [add_own]; exact c3 hs2.p1, rfl, ?_⟩
    refine hK _ _ ⟨?_, rfl⟩
    (try dsimp only)
    unfold flagN
    rcases hk.qos with e | e | e <;> rw [e] <;> cases o.dup <;> cases o.retain <;> decide
  rintro ⟨z, ⟨⟩⟩ h4 ⟨hz, rfl⟩
  simp only at hz
  subst hz
  refine loadN_cells (ts := Pk_tK .u8) (pkT o c p) hs2.p1 rfl ?_
  refine bind_callN (wbody_spec (h0 := h) (c := c) (p := p) (hs2.re [0, 2, 1]) hU hk hr fun h5 hs5 => ⟨(), rfl, ?_⟩)
  have hput : ∀ {h' : Heap} {A : List Asn}, sat h' (old h :: A) → Q (.tuple #[.string (putB o t), .int .u8 (putC o t)]) h' := fun hh => hq _ (back hh)
  refine ⟨_, rfl, bodyC o t, by rw [add_own]; exact wcode hs5, ?_⟩
  (try dsimp only); rw [HM.ite_apply]
  by_cases hc : bodyC o t = 0
  case neg =>
    rw [if_pos (by simp [hc])]
    refine ⟨_, rfl, bodyC o t, by rw [add_own]; exact wcode hs5, ?_⟩
    have := hput hs5.p1
    have e : putC o t = bodyC o t := by unfold putC; rw [if_pos hc]
    unfold putB at this
    rw [e, if_neg hc] at this
    exact this
  rw [if_neg (by simp [hc])]
  refine ⟨_, rfl, ?_⟩
  refine bind_call1 (wlen_spec hs5 ⟨_, rfl, ?_⟩)
  (try dsimp only); rw [HM.ite_apply]
  by_cases hl : 65536 < (bodyB o t).length
  · rw [if_pos (by simp only [decide_eq_true_eq]; omega)]
    have := hput hs5.p1
    have e : putC o t = 149 := by unfold putC; rw [if_neg (by simp [hc]), if_pos hl]
    unfold putB at this
    rw [e, if_neg (by decide)] at this
    exact this
  rw [if_neg (by simp only [decide_eq_true_eq]; omega)]
  have hfl : flagN o ≤ 13 := by
    unfold flagN
    have := hk.qos
    split <;> split <;> omega
  have e0 : putC o t = 0 := by unfold putC; rw [if_neg (by simp [hc]), if_neg hl]
  have hne := bodyB_ne hc
  generalize hL : bodyB o t = L at hs5 hl hne
  have hLb : ∀ x ∈ L, 0 ≤ x ∧ x < 256 := by rw [← hL]; exact bodyB_byte o t
  have c0 : ∀ {h' : Heap}, sat h' (wrA b L (bodyC o t) :: old h :: cells x1 (encPkK .u8 (pkT o c p)).toArray :: []) → cellH h' ⟨x1, 0, none⟩ = some (.int .i64 3) := fun hh => (hh.p2.cell 0).trans (by show some (Value.int .i64 o.kind) = _; rw [hk.kind])
  refine ⟨3, by rw [add_own]; exact c0 hs5, by decide, ?_⟩
  have hb1 : IntKind.wrap .i64 (IntKind.wrap .i64 (3 * 2 ^ (min (Int.toNat 4) (IntKind.bits .i64))) + (flagN o : Int)) = ((48 + flagN o : Nat) : Int) := by
    rw [show IntKind.wrap .i64 (3 * 2 ^ (min (Int.toNat 4) (IntKind.bits .i64))) = 48 by decide, wrap_id (by omega) (by omega)]
    omega
  (try dsimp only); rw [hb1]
  refine bind_callN (Fixed_spec (w := 1) hs5 (.inl rfl) (by omega) fun h6 hs6 => ⟨(fixB 1 (48 + flagN o), 0, ()), rfl, ?_⟩)
  refine ⟨_, rfl, ?_⟩
  refine bind_call1 (wlen_spec hs6 ⟨_, rfl, ?_⟩)
  refine bind_callN (vput_spec hs6 (n := L.length) (by omega) fun h7 hs7 => ⟨(vB L.length, 0, ()), rfl, ?_⟩)
  have hv := sizeV_pos L.length
  (try dsimp only)
  refine ⟨by rw [fixB_size, vB_size]; omega, _, rfl, ?_⟩
  refine bind_call1 (wtext_spec hs7 hLb hne fun h8 hk8 => ⟨_, rfl, ?_⟩)
  (try dsimp only)
  refine ⟨by rw [ByteArray.size_append, fixB_size, vB_size, ints_size]; omega, ?_⟩
  have := hq h8 (hs.grow hk8)
  unfold putB at this
  rw [e0, if_pos rfl, hL] at this
  exact this
end Go.Proofs.YtfhalebbcbgbdaaGreatDoor
namespace Go.Proofs.YtfhalebbcbgbdaaGreatDoor
open Go.H Go.Proofs
set_option linter.unusedSimpArgs false
set_option linter.unusedVariables false
set_option maxRecDepth 100000
variable {h h0 : Heap} {R : List Asn}
abbrev msg1 (m : MsT) : MsT := (m.1, m.2.1, 1, m.2.2.2.1, m.2.2.2.2)
abbrev tryP (m : MsT) (r : Bool) : PkO := ⟨3, false, r, 1, 1, m.1, m.2.1, 0, tagP m.2.2.2.2, [], false⟩
noncomputable def bsendF (o : OutS) (m : MsT) : (OutS × List PkO) × Int := if putC (tryP m false) m.2.2.2.2 ≠ 0 then ((o, []), putC (tryP m false) m.2.2.2.2) else sendF o (msg1 m)
theorem tryP_ok {m : MsT} {r : Bool} (h1 : m.1.size ≤ 100000000) (h2 : m.2.1.size ≤ 100000000) (h3 : m.2.2.2.2.size ≤ 100000000) : PubOK (tryP m r) m.2.2.2.2 :=
  ⟨rfl, rfl, .inr (.inl rfl), fun e => absurd e (by simp), fun _ => ⟨by simp, by simp⟩, h1, h2, h3⟩
theorem bsend_spec {b : Nat} {rs : List RuleT} {o : OutS} {m : MsT} (hs : sat h (brgA b rs o :: old h0 :: R)) (ht : U8 h0) (hok : FlowOK o) (z1 : m.1.size ≤ 100000000) (z2 : m.2.1.size ≤ 100000000) (z3 : m.2.2.2.2.size ≤ 100000000) {Q : Value → Heap → Prop}
    (hq : ∀ S h', sat h' (brgA b rs (bsendF o m).1.1 :: pksA .u8 S (bsendF o m).1.2 :: old h0 :: R) → Q (.tuple #[.slice S.a S.len S.cap, .int .u8 (bsendF o m).2]) h') :
    HCalls Tryz.prog 23 #[at0 b, vMs m] h Q := by
  refine bridge_Bridge_Send_calls (some ⟨b, 0, none⟩) (toU m) h Q ?_
  unfold bridge_Bridge_Send
  refine new_cells hs fun x1 h1 hs1' => ?_
  have hs1 : sat h1 (cells x1 (encM m).toArray :: brgA b rs o :: old h0 :: R) := hs1'
  (try dsimp only); rw [HM.ite_apply, if_neg (by simp)]
  (try dsimp only); rw [HM.bind_apply, add_own]
  refine store1_cells hs1 (by simp) rfl fun h2 hs2' => ?_
  have hs2 : sat h2 (cells x1 (encM (msg1 m)).toArray :: brgA b rs o :: old h0 :: R) := hs2'
  clear hs2' hs1 hs1' hs
  refine ⟨m.1, by rw [add_own]; exact hs2.cell 0, m.2.1, by rw [add_own]; exact hs2.cell 1, ?_⟩
  refine new_cells hs2 fun x4 h3 hs3' => ?_
  (try dsimp only); rw [HM.bind_apply]
  refine storeN_all' hs3' rfl rfl fun h4 hs4' => ?_
  have hs4 : sat h4 (cells x4 (encPkK .u8 (pkT (tryP m false) ⟨none, 0, 0⟩ ⟨none, 0, 0⟩)).toArray :: cells x1 (encM (msg1 m)).toArray :: brgA b rs o :: old h0 :: R) := hs4'
  clear hs4' hs3' hs2
  refine ⟨m.2.2.2.2, by rw [add_own]; exact hs4.p1.cell 4, ?_⟩
  refine Go.H.cut (fun z h' => ∃ p : Slc, sat h' (cells x4 (encPkK .u8 (pkT (tryP m false) ⟨none, 0, 0⟩ p)).toArray :: ownS encPr 4 p (tagP m.2.2.2.2) :: cells x1 (encM (msg1 m)).toArray :: brgA b rs o :: old h0 :: R)) ?_ ?_
  · intro K hK
    (try dsimp only); rw [HM.ite_apply]
    by_cases hte : m.2.2.2.2 = ByteArray.mk #[]
    · rw [if_neg (by simp [hte])]
      refine hK _ _ ⟨⟨none, 0, 0⟩, ?_⟩
      have e : tagP m.2.2.2.2 = [] := if_pos hte
      rw [e]
      exact (ownS_nil hs4).p1
    · rw [if_pos (by simp [hte])]
      refine ⟨m.2.2.2.2, by rw [add_own]; exact hs4.p1.cell 4, ?_⟩
      refine new_cells hs4 fun x8 h5 hs5 => ?_
      (try dsimp only); rw [HM.bind_apply, add_own]
      refine store1_cells hs5.p1 (by simp) rfl fun h6 hs6 => ?_
      refine hK _ _ ⟨⟨some ⟨x8, 0, none⟩, 1, 1⟩, ?_⟩
      have e : tagP m.2.2.2.2 = [(38, 0, tagS, m.2.2.2.2)] := if_neg hte
      rw [e]
      have h7 := ownS_mk (enc := encPr) (size := 4) (s := ⟨some ⟨x8, 0, none⟩, 1, 1⟩) (xs := [(38, 0, tagS, m.2.2.2.2)]) (o := 0) (cs := (encPr (38, 0, tagS, m.2.2.2.2)).toArray) ⟨rfl, Nat.le_refl _, rfl, by simp, by simp⟩ hs6.p1
      exact h7.p1
  rintro ⟨⟩ h5 ⟨p, hs5⟩
  refine loadN_cells (ts := Pk_tK .u8) (pkT (tryP m false) ⟨none, 0, 0⟩ p) hs5 rfl ?_
  refine bind_callN (put_spec (o := tryP m false) (c := ⟨none, 0, 0⟩) (p := p) (hs5.re [4, 0, 1, 2, 3]) ht (tryP_ok z1 z2 z3) (hs5.p1.own_row ePr_len) fun h6 hs6' => ⟨(putB (tryP m false) m.2.2.2.2, putC (tryP m false) m.2.2.2.2, ()), rfl, ?_⟩)
  have hs6 : sat h6 (cells x1 (encM (msg1 m)).toArray :: brgA b rs o :: old h0 :: R) := (hs6'.re [1, 2, 3, 4, 0]).drop.drop
  clear hs6' hs5
  (try dsimp only); rw [HM.ite_apply]
  by_cases hc : putC (tryP m false) m.2.2.2.2 = 0
  case neg =>
    rw [if_pos (by simp [hc])]
    have := hq ⟨none, 0, 0⟩ h6
    have e : bsendF o m = ((o, []), putC (tryP m false) m.2.2.2.2) := if_pos hc
    rw [e] at this
    exact this ((pks_nil hs6.drop).p1)
  rw [if_neg (by simp [hc])]
  have e : bsendF o m = sendF o (msg1 m) := if_neg (by simp [hc])
  rw [e] at hq
  obtain ⟨S, ob, hs7⟩ := brgA_iff.1 hs6.p1
  refine ⟨_, rfl, some ⟨ob, 0, none⟩, by rw [add_own]; exact hs7.cell 1, ?_⟩
  refine loadN_cells (ts := [.str, .str, .int .i64, .bool, .str]) (toU (msg1 m)) hs7.p3 rfl ?_
  refine bind_callN (osend_spec (m := msg1 m) (hs7.re [2, 0, 1, 3, 4]) hok fun S' h' hs8 => ⟨(S', _, ()), rfl, ?_⟩)
  refine hq S' h' (brgA_iff.2 ⟨S, ob, (hs8.re [4, 2, 3, 0, 1]).drop⟩)
end Go.Proofs.YtfhalebbcbgbdaaGreatDoor
namespace Go.Proofs.YtfhalebbcbgbdaaGreatDoor
open Go.H Go.Proofs
set_option linter.unusedSimpArgs false
set_option linter.unusedVariables false
set_option maxRecDepth 100000
variable {h h0 : Heap} {R : List Asn}
def leftF (o : OutS) : List MsT := o.flights.map (·.2.1) ++ o.waiting
theorem bleft_spec {b : Nat} {rs : List RuleT} {o : OutS} (hs : sat h (brgA b rs o :: R)) (hok : FlowOK o) {Q : Value → Heap → Prop}
    (hq : ∀ (S : Slc) h', sat h' (ownS encM 5 S (leftF o) :: brgA b rs o :: R) → Q (.slice S.a S.len S.cap) h') : HCalls Tryz.prog 26 #[at0 b] h Q := by
  refine bridge_Bridge_Left_calls (some ⟨b, 0, none⟩) h Q ?_
  unfold bridge_Bridge_Left
  have hf64 := hok.f64
  have hwl := hok.wl
  obtain ⟨S, ob, hs1⟩ := brgA_iff.1 hs
  (try dsimp only); rw [HM.ite_apply, if_neg (by simp)]
  refine ⟨_, rfl, some ⟨ob, 0, none⟩, by rw [add_own]; exact hs1.cell 1, ?_⟩
  refine bind_call1 (oflights_spec (hs1.re [2, 0, 1]) (by omega) fun fl h1 hs2 => ⟨fl, rfl, ?_⟩)
  have hfl : fl.len = o.flights.length := hs2.own_len
  refine Go.H.cut (fun z h' => sat h' (ownS encM 5 z.1 (o.flights.map (·.2.1)) :: outA ob o :: cells b #[.slice S.a S.len S.cap, at0 ob] :: ownS encRu 5 S rs :: R)) ?_ ?_
  · intro K hK
    refine loop_for o.flights.length (fun i x h' => x.2.1 = (i : Int) ∧ sat h' (ownS encM 5 x.1 ((o.flights.take i).map (·.2.1)) :: ownS encF 7 fl o.flights :: outA ob o :: cells b #[.slice S.a S.len S.cap, at0 ob] :: ownS encRu 5 S rs :: R))
      ⟨rfl, by simpa using ownS_nil hs2⟩ (fun i x h hi hJ => by rw [hJ.1, hfl]; exact decide_eq_decide.2 (by omega)) (fun x h hJ K1 hd => ?_) (fun i x h hlt hJ K1 hnx hd => ?_)
    · obtain ⟨hx, hs3⟩ := hJ
      rw [List.take_length] at hs3
      exact hd _ _ (hK _ _ hs3.p1.drop)
    · obtain ⟨out, ci, ⟨⟩⟩ := x
      obtain ⟨hx, hs3⟩ := hJ
      simp only at hx hs3
      subst hx
      have hy := List.getElem?_eq_getElem hlt
      have htk : (o.flights.take (i + 1)).map (·.2.1) = (o.flights.take i).map (·.2.1) ++ [o.flights[i].2.1] := by rw [List.take_add_one, hy, List.map_append]; rfl
      have hbl : ((o.flights.take i).map (·.2.1)).length ≤ 64 := by rw [List.length_map, List.length_take]; omega
      generalize o.flights[i] = f at hy htk
      (try dsimp only); rw [HM.bind_apply]
      refine idx_row (hs3.p1.own_row eF_len) hy fun a ha => ?_
      refine loadN_of (ts := [.int .i64, .str, .str, .int .i64, .bool, .str, .bool]) (toFU f) ha ?_
      refine new_cells hs3 fun x8 h4 hs4 => ?_
      (try dsimp only); rw [HM.bind_apply]
      refine storeN_all' hs4 rfl rfl fun h5 hs5' => ?_
      have hs5 : sat h5 (cells x8 (encF f).toArray :: ownS encM 5 out ((o.flights.take i).map (·.2.1)) :: ownS encF 7 fl o.flights :: outA ob o :: cells b #[.slice S.a S.len S.cap, at0 ob] :: ownS encRu 5 S rs :: R) := hs5'
      refine loadN_of (ts := [.str, .str, .int .i64, .bool, .str]) (toU f.2.1) (fun j v hv => ?_) ?_
      · rw [add_own, Addr.add_at, hs5.cell]
        match j, hv with
        | 0, hv => exact hv
        | 1, hv => exact hv
        | 2, hv => exact hv
        | 3, hv => exact hv
        | 4, hv => exact hv
        | n + 5, hv => exact absurd hv (by show ¬ (encM f.2.1)[n + 5]? = some v; simp)
      refine app_new (x := f.2.1) eMs_len eMs_cell rfl hs5.p1 (by decide) (by decide) (by omega) fun out' h6 hs6 => ?_
      refine hnx _ _ ⟨by (try dsimp only); rw [wrap_id (by omega) (by omega)]; rfl, ?_⟩
      rw [htk]
      exact hs6.p1.drop
  rintro ⟨out, ⟨⟩⟩ h2 hs3
  refine ⟨_, rfl, some ⟨ob, 0, none⟩, by rw [add_own]; exact hs3.p2.cell 1, ?_⟩
  refine bind_call1 (owaiting_spec (hs3.re [1, 0, 2, 3]) (by omega) fun wt h3 hs4 => ⟨wt, rfl, ?_⟩)
  have hwt : wt.len = o.waiting.length := hs4.own_len
  have hsrc := own_srcs eMs_len hs4
  (try dsimp only); rw [HM.bind_apply]
  refine append_own (ys := o.waiting) eMs_len eMs_cell rfl hs4.p2 hwt.symm hsrc (by decide) (by decide) (by rw [List.length_map, hwt]; omega) fun out' h5 hs5 => ?_
  refine hq out' h5 ?_
  have h6 : sat h5 (brgA b rs o :: ownS encM 5 out' (leftF o) :: ownS encM 5 wt o.waiting :: R) := brgA_iff.2 ⟨S, ob, hs5.re [3, 4, 2, 0, 1]⟩
  exact (h6.re [2, 1, 0]).drop
end Go.Proofs.YtfhalebbcbgbdaaGreatDoor
namespace Go.Proofs.YtfhalebbcbgbdaaGreatDoor
open Go.H Go.Proofs
set_option linter.unusedSimpArgs false
set_option linter.unusedVariables false
set_option maxRecDepth 100000
variable {h h0 : Heap} {L L' L1 L2 R : List Asn} {Q : Value → Heap → Prop}
theorem wakes23_w (ht : TP h0) (hq : At (old h0 :: L') (Q (.bool true))) (hx : Has L (old h0) L' := by repeat (first | with_reducible exact Go.H.has0 | apply Go.H.hasS)) : FW Tryz.prog 10 #[] L Q :=
  fun h hs => wakes23_spec (hx.s hs) ht fun h' hs' => hq h' hs'
theorem brgNew_w {s : Slc} {rs : List RuleT} (ht : TP h0) (hz : ∀ r ∈ rs, szR r) (hl : rs.length ≤ 16) (hbad : codeRs rs ≠ 0 → At (ownS encRu 5 s rs :: old h0 :: L2) (Q (.tuple #[.pointer none, .int .u8 (codeRs rs)])))
    (hok : codeRs rs = 0 → ∀ b, At (brgA b rs freshO :: ownS encRu 5 s rs :: old h0 :: L2) (Q (.tuple #[at0 b, .int .u8 0]))) (hx : Has L (ownS encRu 5 s rs) L1 := by repeat (first | with_reducible exact Go.H.has0 | apply Go.H.hasS)) (hy : Has L1 (old h0) L2 := by repeat (first | with_reducible exact Go.H.has0 | apply Go.H.hasS)) :
    FW Tryz.prog 12 #[.slice s.a s.len s.cap] L Q :=
  fun h hs => brgNew_spec ((hx.then hy).s hs) ht hz hl (fun hc h' hs' => hbad hc h' hs') (fun hc h' b hs' => hok hc b h' hs')
theorem bbegin_w {b : Nat} {rs : List RuleT} {o : OutS} (hok : FlowOK o) (hq : ∀ S : Slc, At (brgA b rs (beginF o 64).1 :: pksA .u8 S (beginF o 64).2 :: L') (Q (.slice S.a S.len S.cap))) (hx : Has L (brgA b rs o) L' := by repeat (first | with_reducible exact Go.H.has0 | apply Go.H.hasS)) :
    FW Tryz.prog 20 #[at0 b] L Q := fun h hs => bbegin_spec (hx.s hs) hok fun S h' hs' => hq S h' hs'
theorem bend_w {b : Nat} {rs : List RuleT} {o : OutS} (hq : At (brgA b rs { o with on := false } :: L') (Q (.tuple #[]))) (hx : Has L (brgA b rs o) L' := by repeat (first | with_reducible exact Go.H.has0 | apply Go.H.hasS)) :
    FW Tryz.prog 22 #[at0 b] L Q := fun h hs => bend_spec (hx.s hs) fun h' hs' => hq h' hs'
theorem bans_w {b : Nat} {rs : List RuleT} {o : OutS} {p : Pk} (hok : FlowOK o)
    (hq : ∀ S : Slc, At (brgA b rs (ansF o p.1 p.2.2.2.2.1 p.2.2.2.2.2.2.2.1).1.1 :: pksA .u8 S (ansF o p.1 p.2.2.2.2.1 p.2.2.2.2.2.2.2.1).1.2 :: L') (Q (.tuple #[.slice S.a S.len S.cap, .int .u8 (ansF o p.1 p.2.2.2.2.1 p.2.2.2.2.2.2.2.1).2])))
    (hx : Has L (brgA b rs o) L' := by repeat (first | with_reducible exact Go.H.has0 | apply Go.H.hasS)) : FW Tryz.prog 18 #[at0 b, vPkK .u8 p] L Q := fun h hs => bans_spec (hx.s hs) hok fun S h' hs' => hq S h' hs'
theorem bsend_w {b : Nat} {rs : List RuleT} {o : OutS} {m : MsT} (ht : U8 h0) (hok : FlowOK o) (z1 : m.1.size ≤ 100000000) (z2 : m.2.1.size ≤ 100000000) (z3 : m.2.2.2.2.size ≤ 100000000)
    (hq : ∀ S : Slc, At (brgA b rs (bsendF o m).1.1 :: pksA .u8 S (bsendF o m).1.2 :: old h0 :: L2) (Q (.tuple #[.slice S.a S.len S.cap, .int .u8 (bsendF o m).2])))
    (hx : Has L (brgA b rs o) L1 := by repeat (first | with_reducible exact Go.H.has0 | apply Go.H.hasS)) (hy : Has L1 (old h0) L2 := by repeat (first | with_reducible exact Go.H.has0 | apply Go.H.hasS)) :
    FW Tryz.prog 23 #[at0 b, vMs m] L Q := fun h hs => bsend_spec ((hx.then hy).s hs) ht hok z1 z2 z3 fun S h' hs' => hq S h' hs'
theorem bleft_w {b : Nat} {rs : List RuleT} {o : OutS} (hok : FlowOK o) (hq : ∀ S : Slc, At (ownS encM 5 S (leftF o) :: brgA b rs o :: L') (Q (.slice S.a S.len S.cap))) (hx : Has L (brgA b rs o) L' := by repeat (first | with_reducible exact Go.H.has0 | apply Go.H.hasS)) :
    FW Tryz.prog 26 #[at0 b] L Q := fun h hs => bleft_spec (hx.s hs) hok fun S h' hs' => hq S h' hs'
end Go.Proofs.YtfhalebbcbgbdaaGreatDoor
namespace Go.Proofs.YtfhalebbcbgbdaaGreatDoor
set_option linter.unusedSimpArgs false
open Go.H Go.Proofs
set_option linter.unusedVariables false
set_option synthInstance.maxSize 100000
set_option synthInstance.maxHeartbeats 400000
theorem sortI_perm (l : List Int) : (sortI l).Perm l := List.mergeSort_perm l _
theorem sortI_sorted (l : List Int) : (sortI l).Pairwise (· ≤ ·) := by
  have := List.pairwise_mergeSort (le := fun x y : Int => decide (x ≤ y)) (fun a b c h1 h2 => by simp only [decide_eq_true_eq] at *; omega) (fun a b => by simp only [Bool.or_eq_true, decide_eq_true_eq]; omega) l
  exact this.imp fun h => by simpa using h
theorem sorted_eq {l l' : List Int} (hp : l.Perm l') (h : l.Pairwise (· ≤ ·)) (h' : l'.Pairwise (· ≤ ·)) : l = l' :=
  List.Perm.eq_of_pairwise (le := fun a b => a ≤ b) (fun a b _ _ h1 h2 => Int.le_antisymm h1 h2) h h' hp
theorem sortI_mem {l : List Int} {k : Int} : k ∈ sortI l ↔ k ∈ l := (sortI_perm l).mem_iff
theorem sortI_len (l : List Int) : (sortI l).length = l.length := (sortI_perm l).length_eq
theorem ins_sorted {l a b : List Int} {k : Int} (hl : sortI l = a ++ b) (ha : ∀ x ∈ a, x ≤ k) (hb : ∀ x ∈ b, k ≤ x) : a ++ k :: b = sortI (l ++ [k]) := by
  have hs := sortI_sorted l
  rw [hl, List.pairwise_append] at hs
  refine sorted_eq ?_ ?_ (sortI_sorted _)
  · refine List.Perm.trans ?_ (sortI_perm _).symm
    refine List.perm_middle.trans ?_
    rw [← hl]
    exact ((sortI_perm l).cons k).trans (List.perm_append_singleton k l).symm
  · rw [List.pairwise_append]
    refine ⟨hs.1, ?_, fun x hx y hy => ?_⟩
    · rw [List.pairwise_cons]; exact ⟨hb, hs.2.1⟩
    · rcases List.mem_cons.1 hy with rfl | hy
      · exact ha x hx
      · exact hs.2.2 x hx y hy
theorem del_sorted {l : List Int} (hn : l.Nodup) (k : Int) : (sortI l).filter (fun x => !(x == k)) = sortI (l.erase k) := by
  refine sorted_eq ?_ ((sortI_sorted l).filter _) (sortI_sorted _)
  refine ((sortI_perm l).filter _).trans (List.Perm.trans ?_ (sortI_perm _).symm)
  rw [hn.erase_eq_filter]
  refine List.Perm.of_eq (List.filter_congr fun x _ => ?_)
  rfl
theorem reach_soon (used : List Int) (t : Int) (h0 : 0 ≤ t) (h1 : t ≤ 65535) (hd : used.Nodup) (h2 : used.length < 65535) : ∃ n u, n ≤ used.length ∧ Reach used n t u := by
  have key : ∀ (j : Nat), ∀ t, 0 ≤ t → t ≤ 65535 → (∃ n u, n < j ∧ Reach used n t u) ∨ ∀ i, i < j → ((t + i) % 65535 + 1) ∈ used := by
    intro j
    induction j with
    | zero => intro t _ _; exact .inr (fun i hi => by omega)
    | succ j ih =>
      intro t ht0 ht1
      by_cases hm : nxt t ∈ used
      · have hr := nxt_range ht0
        rcases ih (nxt t) (by omega) (by omega) with ⟨n, u, hn, hu⟩ | hall
        · exact .inl ⟨n + 1, u, by omega, .on hm hu⟩
        · refine .inr fun i hi => ?_
          cases i with
          | zero => simpa [nxt] using hm
          | succ i =>
            have := hall i (by omega)
            have e : ((nxt t + (i : Int)) % 65535 + 1) = ((t + ((i + 1 : Nat) : Int)) % 65535 + 1) := by unfold nxt; omega
            rw [e] at this
            exact this
      · exact .inl ⟨0, nxt t, by omega, .here hm⟩
  rcases key (used.length + 1) t h0 h1 with ⟨n, u, hn, hu⟩ | hall
  · exact ⟨n, u, by omega, hu⟩
  · exfalso
    have hsub : ∀ x ∈ ((List.range (used.length + 1)).map fun (i : Nat) => ((t + (i : Int)) % 65535 + 1)), x ∈ used := by
      intro x hx
      obtain ⟨i, hi, rfl⟩ := List.mem_map.1 hx
      exact hall i (List.mem_range.1 hi)
    have hnd : ((List.range (used.length + 1)).map fun (i : Nat) => ((t + (i : Int)) % 65535 + 1)).Nodup := by
      refine List.pairwise_map.2 (List.Pairwise.imp_of_mem ?_ List.pairwise_lt_range)
      intro a b ha hb hab
      have := List.mem_range.1 ha
      have := List.mem_range.1 hb
      omega
    have := len_sub _ _ hnd hsub
    simp at this
    omega
def rpoA (b : Nat) (s : PoolS) : Asn := exA fun sl : Slc => star (cells b #[.int .i64 s.most, .int .i64 s.taken, .slice sl.a sl.len sl.cap]) (ownS eI 1 sl (sortI s.used))
theorem rpoA_iff {h : Heap} {b : Nat} {s : PoolS} {R : List Asn} : sat h (rpoA b s :: R) ↔
    ∃ sl : Slc, sat h (cells b #[.int .i64 s.most, .int .i64 s.taken, .slice sl.a sl.len sl.cap] :: ownS eI 1 sl (sortI s.used) :: R) := by
  unfold rpoA
  rw [sat.ex_iff]
  constructor
  · rintro ⟨sl, hs⟩
    rw [sat.star_iff] at hs
    exact ⟨sl, hs⟩
  · rintro ⟨sl, hs⟩
    exact ⟨sl, by rw [sat.star_iff]; exact hs⟩
theorem rpNew_spec {h : Heap} {R : List Asn} (hs : sat h R) (most : Int) {Q : Value → Heap → Prop}
    (hq : ∀ b h', sat h' (rpoA b ⟨max 1 (min most 64), 0, []⟩ :: R) → Q (at0 b) h') : HCalls Tryz.prog 71 #[.int .i64 most] h Q := by
  refine ref13_New_calls most h Q ?_
  unfold ref13_New
  have fin : ∀ n : Int, n = max 1 (min most 64) → HM.new (.cells #[.int .i64 n, .int .i64 0, .slice none 0 0] 194) h fun b h' => Q (at0 b) h' := by
    rintro n rfl
    refine new_cells hs fun b h2 hs2 => ?_
    have e : sortI ([] : List Int) = [] := by simp [sortI]
    exact hq b h2 (rpoA_iff.2 ⟨⟨none, 0, 0⟩, by rw [e]; exact (ownS_nil hs2).p1⟩)
  by_cases h1 : most < 1
  · simp [h1]
    exact fin 1 (by omega)
  · by_cases h2 : 64 < most
    · simp [h1, h2]
      exact fin 64 (by omega)
    · simp [h1, h2]
      exact fin most (by omega)
theorem rpIn_spec {h : Heap} {R : List Asn} {b : Nat} {s : PoolS} {k : Int} (hs : sat h (rpoA b s :: R)) (hl : s.used.length ≤ 64) {Q : Value → Heap → Prop}
    (hq : Q (.bool (decide (k ∈ s.used))) h) : HCalls Tryz.prog 118 #[at0 b, .int .i64 k] h Q := by
  refine ref13_In_calls _ k h Q ?_
  obtain ⟨sl, hs⟩ := rpoA_iff.1 hs
  have c2 : cellH h ⟨b, 2, none⟩ = some (.slice sl.a sl.len sl.cap) := hs.cell 2
  have hrow := hs.p1.own_row eI_len
  have hlen := hs.p1.own_len
  rw [sortI_len] at hlen
  unfold ref13_In
  simp
  refine loop_gh (γ := Nat) (fun i c h' => h' = h ∧ c.1 = (i : Int) ∧ i ≤ s.used.length ∧ k ∉ (sortI s.used).take i) (fun i => s.used.length - i) 0 ⟨rfl, rfl, Nat.zero_le _, by simp⟩ ?_
  rintro i ⟨c, ⟨⟩⟩ h' ⟨rfl, hc, hi, hn⟩
  simp only at hc
  subst hc
  simp [c2]
  have next : IntKind.wrap .i64 ((i : Int) + 1) = ((i + 1 : Nat) : Int) := by rw [wrap_id (by omega) (by omega)]; rfl
  by_cases hlt : i < s.used.length
  · rw [if_pos (by omega)]
    have hlt' : i < (sortI s.used).length := by rw [sortI_len]; exact hlt
    refine idx_row hrow (List.getElem?_eq_getElem hlt') fun a ha => ?_
    have c0 : cellH h' a = some (.int .i64 (sortI s.used)[i]) := by simpa [Go.H.add_zero] using ha 0 _ rfl
    simp [c0]
    by_cases hk : (sortI s.used)[i] = k
    · have hm : k ∈ s.used := sortI_mem.1 (hk ▸ List.getElem_mem hlt')
      simp [hk]
      simpa [hm] using hq
    · simp [hk]
      refine ⟨i + 1, by omega, next, by omega, fun hm => ?_⟩
      rw [List.take_succ_eq_append_getElem hlt', List.mem_append] at hm
      rcases hm with hm | hm
      · exact hn hm
      · exact hk (List.mem_singleton.1 hm).symm
  · rw [if_neg (by omega)]
    rw [List.take_of_length_le (by rw [sortI_len]; omega)] at hn
    have hm : k ∉ s.used := fun hx => hn (sortI_mem.2 hx)
    simpa [hm] using hq
theorem rpPut_spec {h : Heap} {R : List Asn} {b : Nat} {s : PoolS} {k : Int} (hs : sat h (rpoA b s :: R)) (hl : s.used.length ≤ 64) {Q : Value → Heap → Prop}
    (hq : ∀ h', sat h' (rpoA b ⟨s.most, s.taken, s.used ++ [k]⟩ :: R) → Q (.tuple #[]) h') : HCalls Tryz.prog 119 #[at0 b, .int .i64 k] h Q := by
  refine ref13_put_calls _ k h Q ?_
  obtain ⟨sl, hs⟩ := rpoA_iff.1 hs
  have hsort := sortI_sorted s.used
  have hLn := sortI_len s.used
  unfold ref13_put
  simp
  refine loop_gx (γ := Nat × List Int × List Int) (fun g c h' => c.2.2.1 = (g.1 : Int) ∧ g.1 ≤ s.used.length ∧ (sortI s.used).take g.1 = g.2.1 ++ g.2.2 ∧ (∀ x ∈ g.2.1, x ≤ k) ∧ (∀ x ∈ g.2.2, k ≤ x) ∧
      (c.1 = false → g.2.2 = []) ∧ (c.1 = true → ∃ y ∈ g.2.2, k < y) ∧
      sat h' (ownS eI 1 c.2.1 (if c.1 = true then g.2.1 ++ k :: g.2.2 else g.2.1) :: cells b #[.int .i64 s.most, .int .i64 s.taken, .slice sl.a sl.len sl.cap] :: ownS eI 1 sl (sortI s.used) :: R))
    (fun g => s.used.length - g.1) (0, [], []) ⟨rfl, Nat.zero_le _, rfl, by simp, by simp, by simp, by simp, ownS_nil hs⟩ ?_
  rintro ⟨i, a, bb⟩ ⟨done, out, c, ⟨⟩⟩ h1 ⟨hc, hi, ht, ha, hb, hd0, hd1, hs1⟩
  simp only at hc hi ht ha hb hd0 hd1 hs1
  subst hc
  have c2 : cellH h1 ⟨b, 2, none⟩ = some (.slice sl.a sl.len sl.cap) := hs1.p1.cell 2
  have hlen := hs1.p2.own_len
  rw [hLn] at hlen
  have next : IntKind.wrap .i64 ((i : Int) + 1) = ((i + 1 : Nat) : Int) := by rw [wrap_id (by omega) (by omega)]; rfl
  simp [c2]
  by_cases hlt : i < s.used.length
  · rw [if_pos (by omega)]
    have hlt' : i < (sortI s.used).length := by rw [hLn]; exact hlt
    have htk := List.take_succ_eq_append_getElem hlt'
    generalize hx : (sortI s.used)[i] = x at htk
    have hgx : (sortI s.used)[i]? = some x := by rw [← hx]; exact List.getElem?_eq_getElem hlt'
    have hle : ∀ y ∈ (sortI s.used).take i, y ≤ x := by
      have e := List.take_append_drop i (sortI s.used)
      rw [← e, List.pairwise_append] at hsort
      intro y hy
      refine hsort.2.2 y hy x ?_
      rw [List.drop_eq_getElem_cons hlt', hx]
      exact List.mem_cons_self ..
    have hal : a.length + bb.length = i := by
      have := congrArg List.length ht
      simp at this
      omega
    have hrow : ∀ {h2 : Heap} {A : Asn} {R' : List Asn}, sat h2 (A :: cells b #[.int .i64 s.most, .int .i64 s.taken, .slice sl.a sl.len sl.cap] :: ownS eI 1 sl (sortI s.used) :: R') → cellH h2 ⟨b, 2, none⟩ = some (.slice sl.a sl.len sl.cap) ∧ RowAt eI 1 h2 sl (sortI s.used) :=
      fun hs' => ⟨hs'.p1.cell 2, hs'.p2.own_row eI_len⟩
    have hx0 : ∀ {h2 : Heap} {a : Addr}, (∀ j v, (eI x)[j]? = some v → cellH h2 (a.add j) = some v) → cellH h2 a = some (.int .i64 x) := fun ha' => by simpa [Go.H.add_zero] using ha' 0 _ rfl
    have hlen9 : ∀ l : List Int, l.length ≤ 70 → (l.length + 1) * 8 ≤ 140737488355328 := fun l hl' => by omega
    cases done with
    | true =>
      simp at hs1 ⊢
      refine idx_row (hrow hs1).2 hgx fun ad had => ?_
      simp [hx0 had]
      refine app_new (x := x) eI_len eI_cell rfl hs1 (by omega) (by omega) (hlen9 _ (by simp; omega)) fun out2 h2 hs2 => ?_
      obtain ⟨y, hy1, hy2⟩ := hd1 rfl
      have hky : k ≤ x := by have := hle y (by rw [ht]; exact List.mem_append_right _ hy1); omega
      refine .mk (i + 1, a, bb ++ [x]) (by simp; omega) ⟨next, by simp; omega, by simp [htk, ht], ha, ?_, by simp, fun _ => ⟨y, by simp [hy1], hy2⟩, by simpa using hs2⟩
      intro z hz
      rcases List.mem_append.1 hz with hz | hz
      · exact hb z hz
      · rw [List.mem_singleton.1 hz]; exact hky
    | false =>
      simp at hs1 ⊢
      refine idx_row (hrow hs1).2 hgx fun ad had => ?_
      simp [hx0 had]
      by_cases hkx : k < x
      · simp [hkx]
        refine app_new (x := k) eI_len eI_cell rfl hs1 (by omega) (by omega) (hlen9 _ (by omega)) fun out1 h2 hs2 => ?_
        simp [(hrow hs2).1]
        refine idx_row (hrow hs2).2 hgx fun ad2 had2 => ?_
        simp [hx0 had2]
        refine app_new (x := x) eI_len eI_cell rfl hs2 (by omega) (by omega) (hlen9 _ (by simp; omega)) fun out2 h3 hs3 => ?_
        have hbb : bb = [] := hd0 rfl
        subst hbb
        refine .mk (i + 1, a, [x]) (by simp; omega) ⟨next, by simp; omega, by simpa [htk] using ht, ha, ?_, by simp, fun _ => ⟨x, by simp, hkx⟩, by simpa using hs3⟩
        intro z hz
        rw [List.mem_singleton.1 hz]; omega
      · simp [hkx]
        have hbb : bb = [] := hd0 rfl
        subst hbb
        simp [c2]
        refine idx_row (hrow hs1).2 hgx fun ad2 had2 => ?_
        simp [hx0 had2]
        refine app_new (x := x) eI_len eI_cell rfl hs1 (by omega) (by omega) (hlen9 _ (by omega)) fun out2 h3 hs3 => ?_
        refine .mk (i + 1, a ++ [x], []) (by simp; omega) ⟨next, by simp; omega, by simpa [htk] using ht, ?_, by simp, by simp, by simp, by simpa using hs3⟩
        intro z hz
        rcases List.mem_append.1 hz with hz | hz
        · exact ha z hz
        · rw [List.mem_singleton.1 hz]; omega
  · rw [if_neg (by omega)]
    have hie : i = s.used.length := by omega
    subst hie
    rw [List.take_of_length_le (by omega)] at ht
    have fin : ∀ (h2 : Heap) (out2 : Slc), sat h2 (ownS eI 1 out2 (sortI (s.used ++ [k])) :: cells b #[.int .i64 s.most, .int .i64 s.taken, .slice sl.a sl.len sl.cap] :: ownS eI 1 sl (sortI s.used) :: R) →
        HM.store1 ⟨b, 2, none⟩ (.slice out2.a out2.len out2.cap) h2 fun _ h' => Q (.tuple #[]) h' := by
      intro h2 out2 hs2
      refine store1_cells hs2.p1 (by simp) rfl fun h3 hs3 => hq h3 (rpoA_iff.2 ⟨out2, ?_⟩)
      exact hs3.p2.drop
    have hins := ins_sorted ht ha hb
    cases done with
    | true =>
      simp at hs1 ⊢
      rw [hins] at hs1
      exact fin _ _ hs1
    | false =>
      simp at hs1 ⊢
      have hbb : bb = [] := hd0 rfl
      subst hbb
      refine app_new (x := k) eI_len eI_cell rfl hs1 (by omega) (by omega) (by simp at ht; rw [← ht, hLn]; omega) fun out1 h2 hs2 => ?_
      rw [hins] at hs2
      exact fin _ _ hs2
theorem rpLen {h : Heap} {R : List Asn} {b : Nat} {s : PoolS} (hs : sat h (rpoA b s :: R)) : ∃ sl : Slc, sl.len = s.used.length ∧ cellH h ⟨b, 0, none⟩ = some (.int .i64 s.most) ∧ cellH h ⟨b, 1, none⟩ = some (.int .i64 s.taken) ∧
    cellH h ⟨b, 2, none⟩ = some (.slice sl.a sl.len sl.cap) ∧ RowAt eI 1 h sl (sortI s.used) := by
  obtain ⟨sl, hs⟩ := rpoA_iff.1 hs
  refine ⟨sl, ?_, hs.cell 0, hs.cell 1, hs.cell 2, hs.p1.own_row eI_len⟩
  rw [hs.p1.own_len, sortI_len]
theorem rpFree_spec {h : Heap} {R : List Asn} {b : Nat} {s : PoolS} {k : Int} (hs : sat h (rpoA b s :: R)) (hok : s.ok) {Q : Value → Heap → Prop}
    (hq : ∀ h', sat h' (rpoA b ⟨s.most, s.taken, s.used.erase k⟩ :: R) → Q (.bool (decide (k ∈ s.used))) h') : HCalls Tryz.prog 79 #[at0 b, .int .i64 k] h Q := by
  refine ref13_Free_calls _ _ h Q ?_
  have hl : s.used.length ≤ 64 := by have := hok.len; have := hok.most64; omega
  obtain ⟨sl, hs⟩ := rpoA_iff.1 hs
  have hLn := sortI_len s.used
  unfold ref13_Free
  simp
  refine loop_gx (γ := Nat) (fun i c h' => c.2.1 = (i : Int) ∧ i ≤ s.used.length ∧
      sat h' (ownS eI 1 c.1 (((sortI s.used).take i).filter fun x => !(x == k)) :: cells b #[.int .i64 s.most, .int .i64 s.taken, .slice sl.a sl.len sl.cap] :: ownS eI 1 sl (sortI s.used) :: R))
    (fun i => s.used.length - i) 0 ⟨rfl, Nat.zero_le _, ownS_nil hs⟩ ?_
  rintro i ⟨out, c, ⟨⟩⟩ h1 ⟨hc, hi, hs1⟩
  simp only at hc hs1
  subst hc
  have c2 : cellH h1 ⟨b, 2, none⟩ = some (.slice sl.a sl.len sl.cap) := hs1.p1.cell 2
  have hlen := hs1.p2.own_len
  rw [hLn] at hlen
  have hrow := hs1.p2.own_row eI_len
  have next : IntKind.wrap .i64 ((i : Int) + 1) = ((i + 1 : Nat) : Int) := by rw [wrap_id (by omega) (by omega)]; rfl
  simp [c2]
  by_cases hlt : i < s.used.length
  · rw [if_pos (by omega)]
    have hlt' : i < (sortI s.used).length := by rw [hLn]; exact hlt
    have htk := List.take_succ_eq_append_getElem hlt'
    generalize hx : (sortI s.used)[i] = x at htk
    have hgx : (sortI s.used)[i]? = some x := by rw [← hx]; exact List.getElem?_eq_getElem hlt'
    refine idx_row hrow hgx fun ad had => ?_
    have e0 : cellH h1 ad = some (.int .i64 x) := by simpa [Go.H.add_zero] using had 0 _ rfl
    simp [e0]
    by_cases hkx : x = k
    · simp [hkx]
      refine .mk (i + 1) (by omega) ⟨next, by omega, ?_⟩
      rw [htk]
      simpa [hkx] using hs1
    · simp [hkx, c2]
      refine idx_row hrow hgx fun ad2 had2 => ?_
      have e1 : cellH h1 ad2 = some (.int .i64 x) := by simpa [Go.H.add_zero] using had2 0 _ rfl
      simp [e1]
      refine app_new (x := x) eI_len eI_cell rfl hs1 (by omega) (by omega) ?_ fun out2 h2 hs2 => ?_
      · have := List.length_filter_le (fun x => !(x == k)) ((sortI s.used).take i)
        have := List.length_take_le i (sortI s.used)
        omega
      refine .mk (i + 1) (by omega) ⟨next, by omega, ?_⟩
      rw [htk]
      simpa [hkx] using hs2
  · rw [if_neg (by omega)]
    rw [List.take_of_length_le (by omega), del_sorted hok.nodup] at hs1
    have hol := hs1.own_len
    rw [sortI_len] at hol
    refine store1_cells hs1.p1 (by simp) rfl fun h3 hs3 => ?_
    have := hq h3 (rpoA_iff.2 ⟨out, hs3.p2.drop⟩)
    have e : decide (out.len < sl.len) = decide (k ∈ s.used) := by
      rw [hol, hlen, List.length_erase]
      by_cases hm : k ∈ s.used
      · have := List.length_pos_of_mem hm
        simp [hm]; omega
      · simp [hm]
    rw [e]
    exact this
theorem rpTake_spec {h : Heap} {R : List Asn} {b : Nat} {s : PoolS} (hs : sat h (rpoA b s :: R)) (hok : s.ok) {Q : Value → Heap → Prop}
    (hfull : (s.used.length : Int) = s.most → Q (.tuple #[.int .i64 0, .int .i64 147]) h)
    (hgood : (s.used.length : Int) ≠ s.most → ∀ n u, Reach s.used n s.taken u → ∀ h', sat h' (rpoA b ⟨s.most, u, s.used ++ [u]⟩ :: R) → Q (.tuple #[.int .i64 u, .int .i64 0]) h') :
    HCalls Tryz.prog 80 #[at0 b] h Q := by
  refine ref13_Take_calls _ h Q ?_
  obtain ⟨sl, hsl, c0, c1, c2, -⟩ := rpLen hs
  have hl := hok.len
  have hm := hok.most64
  unfold ref13_Take
  simp [c2, c0]
  by_cases h4 : (s.used.length : Int) = s.most
  · rw [if_pos (by omega)]
    exact hfull h4
  rw [if_neg (by omega)]
  simp [c1]
  obtain ⟨n, u, hn, hu⟩ := reach_soon s.used s.taken hok.taken0 hok.taken1 hok.nodup (by omega)
  have hur := hu.range hok.taken0
  refine loop_gx (γ := Nat × Int) (fun g c h' => h' = h ∧ c.1 = g.2 ∧ 0 ≤ g.2 ∧ g.2 ≤ 65535 ∧ 0 ≤ c.2.1 ∧ c.2.1 + g.1 ≤ 64 ∧ Reach s.used g.1 g.2 u) (fun g => g.1) (n, s.taken)
    ⟨rfl, rfl, hok.taken0, hok.taken1, by simp, by simp; omega, hu⟩ ?_
  rintro ⟨n', t⟩ ⟨cid, cj, ⟨⟩⟩ h1 ⟨rfl, hc, ht0, ht1, hj0, hj1, hr⟩
  simp only at hc ht0 ht1 hj0 hj1 hr
  subst hc
  have hnx : (if 65535 < IntKind.wrap .i64 (cid + 1) then (1 : Int) else IntKind.wrap .i64 (cid + 1)) = nxt cid := by
    rw [wrap_id (by omega) (by omega)]; unfold nxt; split <;> omega
  have hnr := nxt_range ht0
  have step : ∀ Q' : Value → Heap → Prop, (nxt cid ∈ s.used → Q' (.bool true) h1) → (nxt cid ∉ s.used → Q' (.bool false) h1) → HCalls Tryz.prog 118 #[at0 b, .int .i64 (nxt cid)] h1 Q' := by
    intro Q' q1 q2
    refine rpIn_spec hs (by omega) ?_
    by_cases hin : nxt cid ∈ s.used
    · simpa [hin] using q1 hin
    · simpa [hin] using q2 hin
  have fin : nxt cid ∉ s.used → HM.store1 ⟨b, 1, none⟩ (.int .i64 (nxt cid)) h1 fun _ h2 => HCalls Tryz.prog 119 #[at0 b, .int .i64 (nxt cid)] h2 (KTup.un [] fun _ h3 => Q (.tuple #[.int .i64 (nxt cid), .int .i64 0]) h3) := by
    intro hin
    have hu2 : u = nxt cid := hr.det (.here hin)
    subst hu2
    obtain ⟨sl', hs'⟩ := rpoA_iff.1 hs
    refine store1_cells hs' (by simp) rfl fun h2 hs2 => ?_
    have hs3 : sat h2 (rpoA b ⟨s.most, nxt cid, s.used⟩ :: R) := rpoA_iff.2 ⟨sl', hs2⟩
    refine rpPut_spec hs3 (show s.used.length ≤ 64 by omega) fun h3 hs4 => ?_
    simp
    exact hgood h4 n _ hu h3 hs4
  have nextj : IntKind.wrap .i64 (cj + 1) = cj + 1 := wrap_id (by omega) (by omega)
  have hcj : cj ≤ 64 := by omega
  simp [hcj]
  have w1 : IntKind.wrap .i64 (cid + 1) = cid + 1 := wrap_id (by omega) (by omega)
  rw [w1, nextj]
  have fin1 : ∀ m : Int, m = nxt cid → HCalls Tryz.prog 118 #[at0 b, .int .i64 m] h1 ((Kind.one Tag.bool).un fun b_1 h' =>
      if b_1 = true then Go.H.Next (fun (g : Nat × Int) (c : Int × Int × Unit) h' => h' = h1 ∧ c.1 = g.2 ∧ 0 ≤ g.2 ∧ g.2 ≤ 65535 ∧ 0 ≤ c.2.1 ∧ c.2.1 + g.1 ≤ 64 ∧ Reach s.used g.1 g.2 u) (fun g => g.1) (n', cid) (m, cj + 1, ()) h'
      else HM.store1 ⟨b, 1, none⟩ (.int .i64 m) h' fun b_2 h' => HCalls Tryz.prog 119 #[at0 b, .int .i64 m] h' (KTup.un [] fun _ h3 => Q (.tuple #[.int .i64 m, .int .i64 0]) h3)) := by
    rintro m rfl
    refine step _ (fun hin => ?_) (fun hin => ?_)
    · simp
      cases hr with
      | here hx => exact absurd hin hx
      | on hm' hr' => exact .mk (_, nxt cid) (Nat.lt_succ_self _) ⟨rfl, rfl, by simp; omega, by simp; omega, by simp; omega, by simp at hj1 ⊢; omega, hr'⟩
    · simp
      exact fin hin
  by_cases h65 : 65535 < cid + 1
  · rw [if_pos h65]
    exact fin1 1 (by unfold nxt; omega)
  · rw [if_neg h65]
    exact fin1 (cid + 1) (by unfold nxt; omega)
end Go.Proofs.YtfhalebbcbgbdaaGreatDoor
namespace Go.Proofs.YtfhalebbcbgbdaaGreatDoor
open Go.H Go.Proofs
set_option linter.unusedSimpArgs false
set_option linter.unusedVariables false
set_option maxRecDepth 100000
variable {h : Heap} {R : List Asn}
theorem size_pos {s : ByteArray} (hs : ¬ s = ByteArray.mk #[]) : 0 < s.size := by
  refine Nat.pos_of_ne_zero fun e => hs ?_
  have : s.data.size = 0 := e
  have : s.data = #[] := Array.eq_empty_of_size_eq_zero this
  cases s
  simp_all
def routA (b : Nat) (o : OutS) : Asn := exA fun x : Nat × Slc × Slc =>
  star (cells b #[at0 x.1, .int .i64 o.most, .bool o.on, .slice x.2.1.a x.2.1.len x.2.1.cap, .slice x.2.2.a x.2.2.len x.2.2.cap])
    (star (rpoA x.1 o.pool) (star (ownS encF 7 x.2.1 o.flights) (ownS encM 5 x.2.2 o.waiting)))
theorem routA_iff {h : Heap} {b : Nat} {o : OutS} {R : List Asn} : sat h (routA b o :: R) ↔ ∃ (pb : Nat) (fl wt : Slc),
    sat h (cells b #[at0 pb, .int .i64 o.most, .bool o.on, .slice fl.a fl.len fl.cap, .slice wt.a wt.len wt.cap] :: rpoA pb o.pool :: ownS encF 7 fl o.flights :: ownS encM 5 wt o.waiting :: R) := by
  unfold routA
  rw [sat.ex_iff]
  constructor
  · rintro ⟨⟨pb, fl, wt⟩, hs⟩
    rw [sat.star_iff] at hs
    exact ⟨pb, fl, wt, (sat.star_iff.1 (sat.star_iff.1 hs.p1).p1).re [3, 2, 0, 1]⟩
  · rintro ⟨pb, fl, wt, hs⟩
    refine ⟨⟨pb, fl, wt⟩, ?_⟩
    rw [sat.star_iff]
    exact (sat.star_iff.2 ((sat.star_iff.2 (hs.re [2, 3, 0, 1])).re [2, 0, 1])).p1
theorem rbound_of {n : Int} (hs : sat h R) {Q : Value → Heap → Prop} (hq : ∀ h', sat h' R → Q (.int .i64 (max 1 (min n 64))) h') : HCalls Tryz.prog 47 #[.int .i64 n] h Q := by
  refine ref14_bound_calls n h Q ?_
  unfold ref14_bound
  refine bind_call1 (rpNew_spec hs n fun b h1 hs1 => ⟨_, rfl, ?_⟩)
  obtain ⟨sl, hs2⟩ := rpoA_iff.1 hs1
  exact ⟨_, rfl, _, by rw [add_own]; exact hs2.cell 0, hq _ hs1.drop⟩
theorem rfNew_spec (hs : sat h R) (most : Int) {Q : Value → Heap → Prop}
    (hq : ∀ b h', sat h' (routA b ⟨⟨64, 0, []⟩, max 1 (min most 64), false, [], []⟩ :: R) → Q (at0 b) h') : HCalls Tryz.prog 40 #[.int .i64 most] h Q := by
  refine ref14_New_calls most h Q ?_
  unfold ref14_New
  refine bind_call1 (rpNew_spec hs 64 fun pb h1 hs1 => ⟨_, rfl, ?_⟩)
  refine bind_call1 (rbound_of hs1 fun h2 hs2 => ⟨_, rfl, ?_⟩)
  refine new_cells hs2 fun b h3 hs3 => ?_
  exact hq b h3 (routA_iff.2 ⟨pb, ⟨none, 0, 0⟩, ⟨none, 0, 0⟩, (ownS_nil (ownS_nil hs3)).re [2, 3, 0, 1]⟩)
theorem rpub_of {m : MsT} {id : Int} {dup : Bool} (hs : sat h R) {Q : Value → Heap → Prop} (hq : ∀ c p h', sat h' (pkB .i64 (c, p, pubO m id dup) :: R) → Q (vPkK .i64 (pkT (pubO m id dup) c p)) h') :
    HCalls Tryz.prog 48 #[vMs m, .int .i64 id, .bool dup] h Q := by
  refine ref14_Publish_calls (toU m) id dup h Q ?_
  unfold ref14_Publish
  refine new_cells hs fun x1 h1 hs1 => ?_
  refine new_cells hs1 fun x2 h2 hs2 => ?_
  refine ⟨m.2.2.1, by rw [add_own]; exact hs2.p1.cell 2, m.2.2.2.1, by rw [add_own]; exact hs2.p1.cell 3, m.1, by rw [add_own]; exact hs2.p1.cell 0, m.2.1, by rw [add_own]; exact hs2.p1.cell 1, ?_⟩
  refine new_cells hs2 fun x7 h3 hs3' => ?_
  (try dsimp only); rw [HM.bind_apply]
  refine storeN_all' hs3' rfl rfl fun h4 hs4 => ?_
  refine ⟨m.2.2.2.2, by rw [add_own]; exact hs4.p2.cell 4, ?_⟩
  refine cut (fun z h' => ∃ p : Slc, sat h' (cells x7 (encPkK .i64 (pkT (pubO m id dup) ⟨none, 0, 0⟩ p)).toArray :: cells x2 (encPkK .i64 Pk_z).toArray :: pkB .i64 (⟨none, 0, 0⟩, p, pubO m id dup) :: R)) ?_ ?_
  · intro K hK
    (try dsimp only); rw [HM.ite_apply]
    by_cases ht : m.2.2.2.2 = ByteArray.mk #[]
    · rw [if_neg (by rw [ht]; decide)]
      refine hK _ _ ⟨⟨none, 0, 0⟩, ?_⟩
      have := pkB_none (k := .i64) (o := pubO m id dup) rfl (by simp [pubO, tagP, ht]) hs4
      exact (this.re [1, 2, 0, 3]).p3.drop
    · rw [if_pos (by simpa using size_pos ht)]
      refine ⟨m.2.2.2.2, by rw [add_own]; exact hs4.p2.cell 4, ?_⟩
      refine new_cells hs4 fun x11 h5 hs5 => ?_
      (try dsimp only); rw [HM.bind_apply, add_own]
      refine store1_cells hs5.p1 (by simp) rfl fun h6 hs6 => ?_
      refine hK _ _ ⟨⟨some ⟨x11, 0, none⟩, 1, 1⟩, ?_⟩
      have hp : (pubO m id dup).props = [(38, 0, tagS, m.2.2.2.2)] := by simp [pubO, tagP, ht]
      have h7 : sat h6 (ownS encPr 4 ⟨some ⟨x11, 0, none⟩, 1, 1⟩ (pubO m id dup).props :: cells x7 (encPkK .i64 (pkT (pubO m id dup) ⟨none, 0, 0⟩ ⟨some ⟨x11, 0, none⟩, 1, 1⟩)).toArray :: cells x2 (encPkK .i64 Pk_z).toArray :: R) := by
        rw [hp]
        exact ownS_mk (o := 0) (cs := (encPr (38, 0, tagS, m.2.2.2.2)).toArray) ⟨rfl, Nat.le_refl _, rfl, by simp, by simp⟩ (hs6.re [1, 0, 2, 3]).p3.drop
      have h8 : sat h6 (ownS (eKd .i64) 1 ⟨none, 0, 0⟩ (pubO m id dup).codes :: ownS encPr 4 ⟨some ⟨x11, 0, none⟩, 1, 1⟩ (pubO m id dup).props :: cells x7 (encPkK .i64 (pkT (pubO m id dup) ⟨none, 0, 0⟩ ⟨some ⟨x11, 0, none⟩, 1, 1⟩)).toArray :: cells x2 (encPkK .i64 Pk_z).toArray :: R) := ownS_nil h7
      exact ((pkB_iff (t := (⟨none, 0, 0⟩, ⟨some ⟨x11, 0, none⟩, 1, 1⟩, pubO m id dup))).2 h8).re [1, 2, 0]
  rintro ⟨⟩ h5 ⟨p, hs5⟩
  refine loadN_cells (ts := Pk_tK .i64) (pkT (pubO m id dup) ⟨none, 0, 0⟩ p) hs5 rfl ?_
  (try dsimp only); rw [HM.bind_apply]
  refine storeN_all' hs5.p1 rfl rfl fun h6 hs6 => ?_
  refine loadN_cells (ts := Pk_tK .i64) (pkT (pubO m id dup) ⟨none, 0, 0⟩ p) hs6 rfl ?_
  exact hq _ _ h6 hs6.drop.drop
theorem push_via {s : Slc} {os : List PkO} {t : Slc × Slc × PkO} (hs : sat h (pksA .i64 s os :: pkB .i64 t :: R)) {T T1 T2 : TypeId} {zs : Array Value} (hz : zs.size = 26) {zero : Array Value} (hz2 : zero.size = 26) (hb : os.length ≤ 20000) {β : Type} {f : Slc → HM β} {Q : β → Heap → Prop}
    (hq : ∀ s' h', sat h' (pksA .i64 s' (os ++ [t.2.2]) :: R) → f s' h' Q) :
    (HM.bind (HM.new (.cells zs T)) fun x => HM.bind (HM.storeN ⟨x, 0, none⟩ (encPkK .i64 (pkF t))) fun _ => HM.bind (HM.loadN (Pk_tK .i64) ⟨x, 0, none⟩) fun y =>
      HM.bind (HM.new (.cells (encPkK .i64 y).toArray T1)) fun b => HM.bind (HM.append T2 26 328 zero s 1 (srcSlc 26 ⟨some ⟨b, 0, none⟩, 1, 1⟩)) f) h Q := by
  refine new_cells hs fun x h1 hs1 => ?_
  (try dsimp only); rw [HM.bind_apply]
  refine storeN_all hs1 (by rw [hz]; rfl) (ePkK_cell .i64 _) fun h2 hs2 => ?_
  refine loadN_cells (ts := Pk_tK .i64) (pkF t) hs2 rfl ?_
  refine pks_push (t := t) hs2.drop hz2 (by decide) (by omega) fun s' h3 hs3 => ?_
  exact hq s' h3 hs3
set_option maxHeartbeats 4000000 in
theorem rgoOn_spec {b : Nat} {o : OutS} {ps : List PkO} {s : Slc} (hs : sat h (routA b o :: pksA .i64 s ps :: R)) (hok : FlowOK o) (hps : ps.length ≤ 10000) {Q : Value → Heap → Prop}
    (hq : ∀ h' S, sat h' (routA b (goOnF o).1 :: pksA .i64 S (ps ++ (goOnF o).2) :: R) → Q (.slice S.a S.len S.cap) h') :
    HCalls Tryz.prog 45 #[at0 b, .slice s.a s.len s.cap] h Q := by
  refine ref14_goOn_calls (some ⟨b, 0, none⟩) s h Q ?_
  unfold ref14_goOn
  obtain ⟨pb0, fl0, wt0, hs00⟩ := routA_iff.1 hs
  refine ⟨_, rfl, o.on, by rw [add_own]; exact hs00.cell 2, ?_⟩
  (try dsimp only); rw [HM.ite_apply]
  cases hon : o.on with
  | false =>
    rw [if_pos (by rfl)]
    refine hq h s ?_
    have e : goOnF o = (o, []) := by unfold goOnF; rw [if_neg (by simp [hon])]
    rw [e, List.append_nil]
    exact hs
  | true =>
  rw [if_neg (by simp)]
  clear hs00 pb0 fl0 wt0
  (try dsimp only); rw [HM.bind_apply]
  refine loop_k (γ := OutS × List PkO) (fun g c h' => FlowOK g.1 ∧ g.1.on = true ∧ g.2.length + g.1.waiting.length ≤ 10300 ∧ (goOnF g.1).1 = (goOnF o).1 ∧ g.2 ++ (goOnF g.1).2 = ps ++ (goOnF o).2 ∧ sat h' (routA b g.1 :: pksA .i64 c.1 g.2 :: R)) (fun g => g.1.waiting.length) (o, ps)
    ⟨hok, hon, by have := hok.wl; simp only; omega, rfl, rfl, hs⟩ ?_
  clear hs hps hok hon
  rintro ⟨o1, os⟩ ⟨out, ⟨⟩⟩ h1 ⟨hok, hon, hps, he1, he2, hs0⟩ K hnx hd
  simp only at hok hps he1 he2 hs0 hon
  obtain ⟨pb, fl, wt, hs1⟩ := routA_iff.1 hs0
  have hwl : wt.len = o1.waiting.length := (hs1.p3).own_len
  have hfl : fl.len = o1.flights.length := (hs1.p2).own_len
  have hgo : goOnF o1 = goF o1 o1.waiting := by unfold goOnF; rw [if_pos hon]
  rw [hgo] at he1 he2
  refine ⟨_, rfl, wt, by rw [add_own]; exact hs1.cell 4, ?_⟩
  (try dsimp only); rw [HM.ite_apply]
  cases hwait : o1.waiting with
  | nil =>
    rw [if_neg (by rw [hwl, hwait]; simp)]
    have e : goF o1 o1.waiting = (o1, []) := by
      rw [hwait]
      show ({ o1 with waiting := [] }, []) = _
      rw [← hwait]
    rw [e] at he1 he2
    rw [List.append_nil] at he2
    refine hd (.inl (out, ())) _ (hq h1 out ?_)
    rw [← he1, ← he2]
    exact hs0
  | cons m w =>
  rw [if_pos (by rw [hwl, hwait]; simp)]
  have hwl1 := hok.wl
  have hmq := hok.wq m (by rw [hwait]; exact List.mem_cons_self ..)
  have hwq : ∀ x ∈ w, 0 ≤ x.2.2.1 ∧ x.2.2.1 ≤ 2 := fun x hx => hok.wq x (by rw [hwait]; exact List.mem_cons_of_mem _ hx)
  rw [hwait] at hps hs1 hwl hwl1
  rw [hwait, goF_cons] at he1 he2
  have hf64 := hok.f64
  have hm64 := hok.m64
  refine cut (fun z h' => match z with
    | .inl c => ∃ g : OutS × List PkO, g.1.waiting.length < o1.waiting.length ∧ FlowOK g.1 ∧ g.1.on = true ∧ g.2.length + g.1.waiting.length ≤ 10300 ∧ (goOnF g.1).1 = (goOnF o).1 ∧ g.2 ++ (goOnF g.1).2 = ps ++ (goOnF o).2 ∧ sat h' (routA b g.1 :: pksA .i64 c.1 g.2 :: R)
    | .inr (.inr (.inr c)) => sat h' (routA b (goOnF o).1 :: pksA .i64 c.1 (ps ++ (goOnF o).2) :: R)
    | _ => False) (fun K1 hK1 => ?_) (fun z h2 hz => ?_)
  rotate_left
  · match z, hz with
    | .inl (c, ()), ⟨g, g1, g2⟩ => exact hnx g _ _ g1 g2
    | .inr (.inr (.inr (c, ()))), hz => exact hd (.inr (c, ())) _ (hq h2 c hz)
  refine ⟨_, rfl, wt, by rw [add_own]; exact hs1.cell 4, ?_⟩
  (try dsimp only); rw [HM.bind_apply]
  refine idx_row (i := 0) (hs1.p3.own_row eMs_len) (x := m) rfl fun p hp => ?_
  (try dsimp only); rw [HM.bind_apply]
  refine load_Ms hp ?_
  refine new_cells hs1 fun x12 h3 hs2' => ?_
  (try dsimp only); rw [HM.bind_apply]
  refine storeN_all' hs2' rfl rfl fun h4 hs2'' => ?_
  have hs2 : sat h4 (cells x12 (encM m).toArray :: cells b #[at0 pb, .int .i64 o1.most, .bool o1.on, .slice fl.a fl.len fl.cap, .slice wt.a wt.len wt.cap] :: rpoA pb o1.pool :: ownS encF 7 fl o1.flights :: ownS encM 5 wt (m :: w) :: pksA .i64 out os :: R) := hs2''
  clear hs2'' hs2' hs1
  refine cut (fun z h' => h' = h4 ∧ z.1 = decide (0 < m.2.2.1 ∧ o1.most ≤ (o1.flights.length : Int))) ?_ ?_
  · intro K2 hK2
    refine ⟨m.2.2.1, by rw [add_own]; exact hs2.cell 2, ?_⟩
    (try dsimp only); rw [HM.ite_apply]
    by_cases hm0 : 0 < m.2.2.1
    · rw [if_pos (by simpa using hm0)]
      refine ⟨_, rfl, fl, by rw [add_own]; exact hs2.p1.cell 3, _, rfl, o1.most, by rw [add_own]; exact hs2.p1.cell 1, ?_⟩
      refine hK2 _ _ ⟨rfl, ?_⟩
      simp only [hfl]
      rw [decide_eq_decide]
      simp [hm0]
    · rw [if_neg (by simpa using hm0)]
      exact hK2 _ _ ⟨rfl, by simp [hm0]⟩
  rintro ⟨z, ⟨⟩⟩ h5 ⟨rfl, hz⟩
  simp only at hz
  subst hz
  (try dsimp only); rw [HM.ite_apply]
  by_cases hfull : 0 < m.2.2.1 ∧ o1.most ≤ (o1.flights.length : Int)
  · rw [if_pos (by simpa using hfull)]
    rw [if_pos hfull] at he1 he2
    rw [List.append_nil] at he2
    refine hK1 (.inr (.inr (.inr (out, ())))) _ ?_
    show sat h5 (routA b (goOnF o).1 :: pksA .i64 out (ps ++ (goOnF o).2) :: R)
    rw [← he1, ← he2]
    have : sat h5 (routA b { o1 with waiting := m :: w } :: pksA .i64 out os :: R) := routA_iff.2 ⟨pb, fl, wt, hs2.drop⟩
    exact this
  rw [if_neg (by simpa using hfull)]
  rw [if_neg hfull] at he1 he2
  refine ⟨_, rfl, wt, by rw [add_own]; exact hs2.p1.cell 4, ?_⟩
  (try dsimp only); rw [HM.bind_apply]
  refine slice_own (mx := none) (lo := 1) (hi := (m :: w).length) hs2.p4 eMs_len (by simp) (Nat.le_refl _) ⟨rfl, by simp⟩ (by rw [hwl]; rfl) fun wt' hs3 => ?_
  rw [List.take_length] at hs3
  have hs3' : sat h5 (ownS encM 5 wt' w :: cells x12 (encM m).toArray :: cells b #[at0 pb, .int .i64 o1.most, .bool o1.on, .slice fl.a fl.len fl.cap, .slice wt.a wt.len wt.cap] :: rpoA pb o1.pool :: ownS encF 7 fl o1.flights :: pksA .i64 out os :: R) := hs3
  clear hs3 hs2
  refine ⟨_, rfl, ?_⟩
  (try dsimp only); rw [HM.bind_apply, add_own]
  refine store1_cells hs3'.p2 (by simp) rfl fun h6 hs4' => ?_
  have hs4 : sat h6 (cells b #[at0 pb, .int .i64 o1.most, .bool o1.on, .slice fl.a fl.len fl.cap, .slice wt'.a wt'.len wt'.cap] :: ownS encM 5 wt' w :: cells x12 (encM m).toArray :: rpoA pb o1.pool :: ownS encF 7 fl o1.flights :: pksA .i64 out os :: R) := hs4'
  clear hs4' hs3'
  refine ⟨m.2.2.1, by rw [add_own]; exact hs4.p2.cell 2, ?_⟩
  (try dsimp only); rw [HM.ite_apply]
  by_cases hm0 : 0 < m.2.2.1
  · rw [if_neg (by simp; omega)]
    rw [if_pos hm0] at he1 he2
    dsimp only at he1 he2
    have hroom : (o1.flights.length : Int) < o1.most := by omega
    refine ⟨_, rfl, some ⟨pb, 0, none⟩, by rw [add_own]; exact hs4.cell 0, ?_⟩
    have hfln := hok.flen
    have hpm := hok.pm
    refine bind_callN (rpTake_spec hs4.p3 hok.pk (fun hf => absurd hf (by omega)) (fun _ n u hr h7 hs7' => ⟨(u, 0, ()), rfl, ?_⟩))
    have hu := nextI_eq hr
    have hs7 : sat h7 (rpoA pb ⟨o1.pool.most, u, o1.pool.used ++ [u]⟩ :: cells b #[at0 pb, .int .i64 o1.most, .bool o1.on, .slice fl.a fl.len fl.cap, .slice wt'.a wt'.len wt'.cap] :: ownS encM 5 wt' w :: cells x12 (encM m).toArray :: ownS encF 7 fl o1.flights :: pksA .i64 out os :: R) := hs7'
    clear hs7'
    refine ⟨_, rfl, fl, by rw [add_own]; exact hs7.p1.cell 3, ?_⟩
    refine loadN_cells (ts := [.str, .str, .int .i64, .bool, .str]) (toU m) hs7.p3 rfl ?_
    refine new_cells hs7 fun x31 h8 hs8 => ?_
    refine ⟨fl, by rw [add_own]; exact hs8.p2.cell 3, rfl, ?_⟩
    (try dsimp only); rw [HM.bind_apply]
    refine append_own (enc := encF) (ys := [(u, m, false)]) eF_len eF_cell rfl hs8.p5 rfl ?_ (by decide) (by decide) (by omega) fun fl' h9 hs9 => ?_
    · simp only [srcSlc, Nat.one_mul, List.flatMap_cons, List.flatMap_nil, List.append_nil]
      exact hs8.reads rfl
    refine ⟨_, rfl, ?_⟩
    (try dsimp only); rw [HM.bind_apply, add_own]
    refine store1_cells hs9.p3 (by simp) rfl fun h10 hs10 => ?_
    have htk := hok.take (m := m) (w := w) (by simp only [List.length_cons] at hwl1; omega) hwq ⟨hm0, hmq.2⟩ hroom
    rw [hu] at he1 he2 htk
    have hs11 : sat h10 (routA b { o1 with pool := ⟨o1.pool.most, u, o1.pool.used ++ [u]⟩, flights := o1.flights ++ [(u, m, false)], waiting := w } :: cells x12 (encM m).toArray :: pksA .i64 out os :: R) := routA_iff.2 ⟨pb, fl', wt', (hs10.re [2, 5, 0, 3, 1, 4, 6]).drop.re [1, 2, 3, 4, 0]⟩
    refine loadN_cells (ts := [.str, .str, .int .i64, .bool, .str]) (toU m) hs11.p1 rfl ?_
    refine bind_call1 (rpub_of (m := m) (id := u) (dup := false) hs11 fun c p h8 hs6 => ⟨pkT (pubO m u false) c p, rfl, ?_⟩)
    refine push_via (t := (c, p, pubO m u false)) (hs6.re [3, 0, 1, 2]) rfl rfl (by simp only [List.length_cons] at hps; omega) fun out' h9 hs7 => ?_
    refine hK1 (.inl (out', ())) _ ⟨({ o1 with pool := ⟨o1.pool.most, u, o1.pool.used ++ [u]⟩, flights := o1.flights ++ [(u, m, false)], waiting := w }, os ++ [pubO m u false]), ?_, htk, hon, ?_, ?_, ?_, ?_⟩
    · simp only [hwait, List.length_cons]; omega
    · simp only [List.length_append, List.length_cons, List.length_nil] at hps ⊢
      omega
    · rw [← he1]
      have := congrArg Prod.fst (goF_wait { o1 with pool := ⟨o1.pool.most, u, o1.pool.used ++ [u]⟩, flights := o1.flights ++ [(u, m, false)] } w w)
      unfold goOnF
      rw [if_pos hon]
      exact this
    · rw [← he2]
      have := congrArg Prod.snd (goF_wait { o1 with pool := ⟨o1.pool.most, u, o1.pool.used ++ [u]⟩, flights := o1.flights ++ [(u, m, false)] } w w)
      simp only at this ⊢
      unfold goOnF
      rw [if_pos hon, this, List.append_assoc]
      rfl
    · exact ((hs7.re [2, 1, 0]).drop)
  · rw [if_pos (by simp; omega)]
    rw [if_neg hm0] at he1 he2
    dsimp only at he1 he2
    have hs11 : sat h6 (routA b { o1 with waiting := w } :: cells x12 (encM m).toArray :: pksA .i64 out os :: R) := routA_iff.2 ⟨pb, fl, wt', hs4.re [0, 3, 4, 1, 2]⟩
    refine loadN_cells (ts := [.str, .str, .int .i64, .bool, .str]) (toU m) hs11.p1 rfl ?_
    refine bind_call1 (rpub_of (m := m) (id := 0) (dup := false) hs11 fun c p h8 hs6 => ⟨pkT (pubO m 0 false) c p, rfl, ?_⟩)
    refine push_via (t := (c, p, pubO m 0 false)) (hs6.re [3, 0, 1, 2]) rfl rfl (by simp only [List.length_cons] at hps; omega) fun out' h9 hs7 => ?_
    have hok2 : FlowOK { o1 with waiting := w } := ⟨hok.pm, hok.pk, hok.m1, hok.m64, hok.ids, by simp only [List.length_cons] at hwl1 ⊢; omega, hok.fq, hwq⟩
    refine hK1 (.inl (out', ())) _ ⟨({ o1 with waiting := w }, os ++ [pubO m 0 false]), ?_, hok2, hon, ?_, ?_, ?_, ?_⟩
    · simp only [hwait, List.length_cons]; omega
    · simp only [List.length_append, List.length_cons, List.length_nil] at hps ⊢
      omega
    · rw [← he1]
      unfold goOnF
      rw [if_pos hon]
      exact congrArg Prod.fst (goF_wait o1 w w)
    · rw [← he2]
      have := congrArg Prod.snd (goF_wait o1 w w)
      unfold goOnF
      rw [if_pos hon]
      simp only at this ⊢
      rw [this, List.append_assoc]
      rfl
    · exact ((hs7.re [2, 1, 0]).drop)
end Go.Proofs.YtfhalebbcbgbdaaGreatDoor
