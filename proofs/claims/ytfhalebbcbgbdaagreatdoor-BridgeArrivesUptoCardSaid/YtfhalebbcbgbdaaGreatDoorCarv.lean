/-
  Carv: contracts: the message that a peer hands on by a packet, of the program's and of the document's.
-/
import Derived.Test.YtfhalebbcbgbdaaGreatDoorCusr
import Derived.Test.YtfhalebbcbgbdaaGreatDoorCofl
namespace Go.Proofs.YtfhalebbcbgbdaaGreatDoor
open Go.H Go.Proofs
set_option linter.unusedSimpArgs false
set_option linter.unusedVariables false
set_option maxRecDepth 100000

variable {h h0 : Heap} {R : List Asn}

abbrev msZ : MsT := (e0S, e0S, 0, false, e0S)
/-- label, message, is there one? -/
def arrF (o : PkO) : LabT × MsT × Bool :=
  if o.kind ≠ 3 ∨ (usersL tagS o.props).length ≠ 1 then ((0, 0, 0, 0), msZ, false)
  else match parseR ((usersL tagS o.props).headD e0S) with
    | none => ((0, 0, 0, 0), msZ, false)
    | some l => (l, (o.topic, o.payload, l.2.2.2, o.retain, e0S), true)
def arrV (x : LabT × MsT × Bool) : Value := .tuple #[vL x.1.1 x.1.2.1 x.1.2.2.1 x.1.2.2.2, vMs x.2.1, .bool x.2.2]

theorem arrived_spec (ht : TX h0) {o : PkO} {c p : Slc} (hs : sat h (ownS encPr 4 p o.props :: old h0 :: R)) (hl : o.props.length ≤ 100000) (hz : ∀ u ∈ o.props, u.2.2.2.size ≤ 1048576) {Q : Value → Heap → Prop}
    (hq : ∀ h', sat h' (ownS encPr 4 p o.props :: old h0 :: R) → Q (arrV (arrF o)) h') :
    HCalls Tryz.prog 8 #[vPkK .u8 (pkT o c p)] h Q := by
  refine bridge_Arrived_calls (pkT o c p) h Q ?_
  unfold bridge_Arrived
  refine new_cells hs fun x1 h1 hs1' => ?_
  have hs1 : sat h1 (cells x1 (encPkK .u8 (pkT o c p)).toArray :: ownS encPr 4 p o.props :: old h0 :: R) := hs1'
  refine new_cells hs1 fun x2 h2 hs2 => ?_
  refine new_cells hs2 fun x3 h3 hs3' => ?_
  have hs3 : sat h3 (cells x3 (encM msZ).toArray :: cells x2 (cL 0 0 0 0) :: cells x1 (encPkK .u8 (pkT o c p)).toArray :: ownS encPr 4 p o.props :: old h0 :: R) := hs3'
  clear hs3' hs2 hs1 hs1'
  refine ⟨p, by rw [add_own]; exact hs3.p2.cell 9, ?_⟩
  refine bind_call1 (users_spec (n := tagS) (hs3.re [3, 0, 1, 2]) hl fun s' h4 hs4' => ⟨s', rfl, ?_⟩)
  have hs4 : sat h4 (cells x3 (encM msZ).toArray :: cells x2 (cL 0 0 0 0) :: cells x1 (encPkK .u8 (pkT o c p)).toArray :: ownS eS1 1 s' (usersL tagS o.props) :: ownS encPr 4 p o.props :: old h0 :: R) := hs4'.re [2, 3, 4, 0, 1]
  clear hs4' hs3
  have hsl : s'.len = (usersL tagS o.props).length := hs4.p3.own_len
  -- none
  have none_ : arrF o = ((0, 0, 0, 0), msZ, false) → ∀ {h' : Heap} {R' : List Asn}, sat h' (cells x3 (encM msZ).toArray :: cells x2 (cL 0 0 0 0) :: R') → (∀ {h''}, sat h'' (cells x3 (encM msZ).toArray :: cells x2 (cL 0 0 0 0) :: R') → sat h'' (ownS encPr 4 p o.props :: old h0 :: R)) →
      (HM.bind (HM.storeN ⟨x2, 0, none⟩ [.int .i64 0, .int .i64 0, .int .i64 0, .int .i64 0]) fun _ =>
        HM.bind (HM.storeN ⟨x3, 0, none⟩ [.string (ByteArray.mk #[]), .string (ByteArray.mk #[]), .int .i64 0, .bool false, .string (ByteArray.mk #[])]) fun _ =>
        HM.bind (HM.loadN [.int .i64, .int .i64, .int .i64, .int .i64] ⟨x2, 0, none⟩) fun x8 =>
        HM.bind (HM.loadN [.str, .str, .int .i64, .bool, .str] ⟨x3, 0, none⟩) fun x9 =>
        (HM.pure ((x8.1, x8.2.1, x8.2.2.1, x8.2.2.2.1, ()), (x9.1, x9.2.1, x9.2.2.1, x9.2.2.2.1, x9.2.2.2.2.1, ()), false, ()) : HM ((Int × Int × Int × Int × Unit) × MsU × Bool × Unit))) h' (fun r h' => Q (.tuple #[.agg #[.int .i64 r.1.1, .int .i64 r.1.2.1, .int .i64 r.1.2.2.1, .int .i64 r.1.2.2.2.1], .agg #[.string r.2.1.1, .string r.2.1.2.1, .int .i64 r.2.1.2.2.1, .bool r.2.1.2.2.2.1, .string r.2.1.2.2.2.2.1], .bool r.2.2.1]) h') := by
    intro he h' R' hs' hback
    refine storeN_all' hs'.p1 rfl rfl fun h5 hs5 => ?_
    refine storeN_all' hs5.p1 rfl rfl fun h6 hs6' => ?_
    have hs6 : sat h6 (cells x3 (encM msZ).toArray :: cells x2 (cL 0 0 0 0) :: R') := hs6'
    refine loadN_cells (ts := [.int .i64, .int .i64, .int .i64, .int .i64]) (0, 0, 0, 0, ()) hs6.p1 rfl ?_
    refine loadN_cells (ts := [.str, .str, .int .i64, .bool, .str]) (toU msZ) hs6 rfl ?_
    have := hq h6 (hback hs6)
    rw [he] at this
    exact this
  refine cut (fun z h' => h' = h4 ∧ z.1 = decide (o.kind ≠ 3 ∨ (usersL tagS o.props).length ≠ 1)) ?_ ?_
  · intro K hK
    refine ⟨o.kind, by rw [add_own]; exact hs4.p2.cell 0, ?_⟩
    (try dsimp only); rw [HM.ite_apply]
    by_cases e : o.kind = 3
    · rw [if_neg (by simp [e])]
      refine hK _ _ ⟨rfl, ?_⟩
      simp only [e, hsl]
      rw [Bool.eq_iff_iff]
      simp
      omega
    · rw [if_pos (by simp [e])]
      exact hK _ _ ⟨rfl, by simp [e]⟩
  rintro ⟨z, ⟨⟩⟩ h5 ⟨rfl, hz⟩
  simp only at hz
  subst hz
  (try dsimp only); rw [HM.ite_apply]
  by_cases hbad : o.kind ≠ 3 ∨ (usersL tagS o.props).length ≠ 1
  · rw [if_pos (decide_eq_true hbad)]
    exact none_ (by unfold arrF; rw [if_pos hbad]) hs4 fun h => h.drop.drop.drop.drop
  rw [if_neg (by rw [decide_eq_true_eq]; exact hbad)]
  have hlen : (usersL tagS o.props).length = 1 := Classical.not_not.1 fun e => hbad (.inr e)
  obtain ⟨t, hu⟩ := List.length_eq_one_iff.1 hlen
  have htz : t.size ≤ 1048576 := by
    have : t ∈ usersL tagS o.props := by rw [hu]; exact List.mem_cons_self ..
    unfold usersL at this
    obtain ⟨q, hq1, rfl⟩ := List.mem_map.1 this
    exact hz q (List.mem_filter.1 hq1).1
  (try dsimp only); rw [HM.bind_apply]
  refine idx_row (i := 0) (hs4.p3.own_row eS1_len) (x := t) (by rw [hu]; rfl) fun a ha => ?_
  refine ⟨t, by simpa [Go.H.add_zero] using ha 0 _ rfl, ?_⟩
  refine bind_callN (Parse_spec (hs4.re [5, 0, 1, 2, 3, 4]) ht htz fun h6 hs6 => ⟨parseT (parseR t), parseV_eq _, ?_⟩)
  have he : arrF o = match parseR t with
      | none => ((0, 0, 0, 0), msZ, false)
      | some l => (l, (o.topic, o.payload, l.2.2.2, o.retain, e0S), true) := by
    unfold arrF
    rw [if_neg hbad, hu]
    rfl
  refine new_cells (hs6.re [1, 2, 3, 4, 5, 0]) fun x13 h7 hs7 => ?_
  (try dsimp only); rw [HM.bind_apply]
  cases hp : parseR t with
  | none =>
    rw [hp] at he
    refine storeN_all' hs7 rfl rfl fun h8 hs8 => ?_
    (try dsimp only); rw [HM.ite_apply, if_pos (by rfl)]
    exact none_ he (hs8.re [1, 2, 0]) fun h => h.drop.drop.drop.drop.drop
  | some l =>
    rw [hp] at he
    refine storeN_all' hs7 rfl rfl fun h8 hs8' => ?_
    have hs8 : sat h8 (cells x13 (cL l.1 l.2.1 l.2.2.1 l.2.2.2) :: cells x3 (encM msZ).toArray :: cells x2 (cL 0 0 0 0) :: cells x1 (encPkK .u8 (pkT o c p)).toArray :: ownS eS1 1 s' (usersL tagS o.props) :: ownS encPr 4 p o.props :: old h0 :: R) := hs8'
    clear hs8' hs7
    (try dsimp only); rw [HM.ite_apply, if_neg (by simp [parseT])]
    refine loadN_cells (ts := [.int .i64, .int .i64, .int .i64, .int .i64]) (l.1, l.2.1, l.2.2.1, l.2.2.2, ()) hs8 rfl ?_
    refine ⟨o.topic, by rw [add_own]; exact hs8.p3.cell 5, o.payload, by rw [add_own]; exact hs8.p3.cell 6, l.2.2.2, by rw [add_own]; exact hs8.cell 3, o.retain, by rw [add_own]; exact hs8.p3.cell 2, ?_⟩
    (try dsimp only); rw [HM.bind_apply]
    refine storeN_all' hs8.p2 rfl rfl fun h9 hs9' => ?_
    have hs9 : sat h9 (cells x2 (cL l.1 l.2.1 l.2.2.1 l.2.2.2) :: cells x13 (cL l.1 l.2.1 l.2.2.1 l.2.2.2) :: cells x3 (encM msZ).toArray :: cells x1 (encPkK .u8 (pkT o c p)).toArray :: ownS eS1 1 s' (usersL tagS o.props) :: ownS encPr 4 p o.props :: old h0 :: R) := hs9'
    clear hs9' hs8
    refine ⟨o.retain, by rw [add_own]; exact hs9.p3.cell 2, rfl, l.2.2.2, by rw [add_own]; exact hs9.p1.cell 3, rfl, o.payload, by rw [add_own]; exact hs9.p3.cell 6, rfl, o.topic, by rw [add_own]; exact hs9.p3.cell 5, rfl, ?_⟩
    (try dsimp only); rw [HM.bind_apply]
    refine storeN_all' hs9.p2 rfl rfl fun h10 hs10' => ?_
    have hs10 : sat h10 (cells x3 (encM (o.topic, o.payload, l.2.2.2, o.retain, e0S)).toArray :: cells x2 (cL l.1 l.2.1 l.2.2.1 l.2.2.2) :: cells x13 (cL l.1 l.2.1 l.2.2.1 l.2.2.2) :: cells x1 (encPkK .u8 (pkT o c p)).toArray :: ownS eS1 1 s' (usersL tagS o.props) :: ownS encPr 4 p o.props :: old h0 :: R) := hs10'
    clear hs10' hs9
    refine loadN_cells (ts := [.int .i64, .int .i64, .int .i64, .int .i64]) (l.1, l.2.1, l.2.2.1, l.2.2.2, ()) hs10.p1 rfl ?_
    refine loadN_cells (ts := [.str, .str, .int .i64, .bool, .str]) (toU (o.topic, o.payload, l.2.2.2, o.retain, e0S)) hs10 rfl ?_
    have := hq h10 hs10.drop.drop.drop.drop.drop
    rw [he] at this
    exact this

theorem rarrived_spec (ht : TX h0) {o : PkO} {c p : Slc} (hs : sat h (ownS encPr 4 p o.props :: old h0 :: R)) (hl : o.props.length ≤ 100000) (hz : ∀ u ∈ o.props, u.2.2.2.size ≤ 1048576) {Q : Value → Heap → Prop}
    (hq : ∀ h', sat h' (ownS encPr 4 p o.props :: old h0 :: R) → Q (arrV (arrF o)) h') :
    HCalls Tryz.prog 9 #[vPkK .i64 (pkT o c p)] h Q := by
  refine ref23_Arrived_calls (pkT o c p) h Q ?_
  unfold ref23_Arrived
  refine new_cells hs fun x1 h1 hs1' => ?_
  have hs1 : sat h1 (cells x1 (encPkK .i64 (pkT o c p)).toArray :: ownS encPr 4 p o.props :: old h0 :: R) := hs1'
  refine new_cells hs1 fun x2 h2 hs2 => ?_
  refine new_cells hs2 fun x3 h3 hs3' => ?_
  have hs3 : sat h3 (cells x3 (encM msZ).toArray :: cells x2 (cL 0 0 0 0) :: cells x1 (encPkK .i64 (pkT o c p)).toArray :: ownS encPr 4 p o.props :: old h0 :: R) := hs3'
  clear hs3' hs2 hs1 hs1'
  refine ⟨p, by rw [add_own]; exact hs3.p2.cell 9, ?_⟩
  refine bind_call1 (rusers_spec (n := tagS) (hs3.re [3, 0, 1, 2]) hl fun s' h4 hs4' => ⟨s', rfl, ?_⟩)
  have hs4 : sat h4 (cells x3 (encM msZ).toArray :: cells x2 (cL 0 0 0 0) :: cells x1 (encPkK .i64 (pkT o c p)).toArray :: ownS eS1 1 s' (usersL tagS o.props) :: ownS encPr 4 p o.props :: old h0 :: R) := hs4'.re [2, 3, 4, 0, 1]
  clear hs4' hs3
  have hsl : s'.len = (usersL tagS o.props).length := hs4.p3.own_len
  -- none
  have none_ : arrF o = ((0, 0, 0, 0), msZ, false) → ∀ {h' : Heap} {R' : List Asn}, sat h' (cells x3 (encM msZ).toArray :: cells x2 (cL 0 0 0 0) :: R') → (∀ {h''}, sat h'' (cells x3 (encM msZ).toArray :: cells x2 (cL 0 0 0 0) :: R') → sat h'' (ownS encPr 4 p o.props :: old h0 :: R)) →
      (HM.bind (HM.storeN ⟨x2, 0, none⟩ [.int .i64 0, .int .i64 0, .int .i64 0, .int .i64 0]) fun _ =>
        HM.bind (HM.storeN ⟨x3, 0, none⟩ [.string (ByteArray.mk #[]), .string (ByteArray.mk #[]), .int .i64 0, .bool false, .string (ByteArray.mk #[])]) fun _ =>
        HM.bind (HM.loadN [.int .i64, .int .i64, .int .i64, .int .i64] ⟨x2, 0, none⟩) fun x8 =>
        HM.bind (HM.loadN [.str, .str, .int .i64, .bool, .str] ⟨x3, 0, none⟩) fun x9 =>
        (HM.pure ((x8.1, x8.2.1, x8.2.2.1, x8.2.2.2.1, ()), (x9.1, x9.2.1, x9.2.2.1, x9.2.2.2.1, x9.2.2.2.2.1, ()), false, ()) : HM ((Int × Int × Int × Int × Unit) × MsU × Bool × Unit))) h' (fun r h' => Q (.tuple #[.agg #[.int .i64 r.1.1, .int .i64 r.1.2.1, .int .i64 r.1.2.2.1, .int .i64 r.1.2.2.2.1], .agg #[.string r.2.1.1, .string r.2.1.2.1, .int .i64 r.2.1.2.2.1, .bool r.2.1.2.2.2.1, .string r.2.1.2.2.2.2.1], .bool r.2.2.1]) h') := by
    intro he h' R' hs' hback
    refine storeN_all' hs'.p1 rfl rfl fun h5 hs5 => ?_
    refine storeN_all' hs5.p1 rfl rfl fun h6 hs6' => ?_
    have hs6 : sat h6 (cells x3 (encM msZ).toArray :: cells x2 (cL 0 0 0 0) :: R') := hs6'
    refine loadN_cells (ts := [.int .i64, .int .i64, .int .i64, .int .i64]) (0, 0, 0, 0, ()) hs6.p1 rfl ?_
    refine loadN_cells (ts := [.str, .str, .int .i64, .bool, .str]) (toU msZ) hs6 rfl ?_
    have := hq h6 (hback hs6)
    rw [he] at this
    exact this
  refine cut (fun z h' => h' = h4 ∧ z.1 = decide (o.kind ≠ 3 ∨ (usersL tagS o.props).length ≠ 1)) ?_ ?_
  · intro K hK
    refine ⟨o.kind, by rw [add_own]; exact hs4.p2.cell 0, ?_⟩
    (try dsimp only); rw [HM.ite_apply]
    by_cases e : o.kind = 3
    · rw [if_neg (by simp [e])]
      refine hK _ _ ⟨rfl, ?_⟩
      simp only [e, hsl]
      rw [Bool.eq_iff_iff]
      simp
      omega
    · rw [if_pos (by simp [e])]
      exact hK _ _ ⟨rfl, by simp [e]⟩
  rintro ⟨z, ⟨⟩⟩ h5 ⟨rfl, hz⟩
  simp only at hz
  subst hz
  (try dsimp only); rw [HM.ite_apply]
  by_cases hbad : o.kind ≠ 3 ∨ (usersL tagS o.props).length ≠ 1
  · rw [if_pos (decide_eq_true hbad)]
    exact none_ (by unfold arrF; rw [if_pos hbad]) hs4 fun h => h.drop.drop.drop.drop
  rw [if_neg (by rw [decide_eq_true_eq]; exact hbad)]
  have hlen : (usersL tagS o.props).length = 1 := Classical.not_not.1 fun e => hbad (.inr e)
  obtain ⟨t, hu⟩ := List.length_eq_one_iff.1 hlen
  have htz : t.size ≤ 1048576 := by
    have : t ∈ usersL tagS o.props := by rw [hu]; exact List.mem_cons_self ..
    unfold usersL at this
    obtain ⟨q, hq1, rfl⟩ := List.mem_map.1 this
    exact hz q (List.mem_filter.1 hq1).1
  (try dsimp only); rw [HM.bind_apply]
  refine idx_row (i := 0) (hs4.p3.own_row eS1_len) (x := t) (by rw [hu]; rfl) fun a ha => ?_
  refine ⟨t, by simpa [Go.H.add_zero] using ha 0 _ rfl, ?_⟩
  refine bind_callN (rParse_spec hs4 htz fun h6 hs6 => ⟨parseT (parseR t), by rw [parse_ref]; exact parseV_eq _, ?_⟩)
  have he : arrF o = match parseR t with
      | none => ((0, 0, 0, 0), msZ, false)
      | some l => (l, (o.topic, o.payload, l.2.2.2, o.retain, e0S), true) := by
    unfold arrF
    rw [if_neg hbad, hu]
    rfl
  refine new_cells (hs6) fun x13 h7 hs7 => ?_
  (try dsimp only); rw [HM.bind_apply]
  cases hp : parseR t with
  | none =>
    rw [hp] at he
    refine storeN_all' hs7 rfl rfl fun h8 hs8 => ?_
    (try dsimp only); rw [HM.ite_apply, if_pos (by rfl)]
    exact none_ he (hs8.re [1, 2, 0]) fun h => h.drop.drop.drop.drop.drop
  | some l =>
    rw [hp] at he
    refine storeN_all' hs7 rfl rfl fun h8 hs8' => ?_
    have hs8 : sat h8 (cells x13 (cL l.1 l.2.1 l.2.2.1 l.2.2.2) :: cells x3 (encM msZ).toArray :: cells x2 (cL 0 0 0 0) :: cells x1 (encPkK .i64 (pkT o c p)).toArray :: ownS eS1 1 s' (usersL tagS o.props) :: ownS encPr 4 p o.props :: old h0 :: R) := hs8'
    clear hs8' hs7
    (try dsimp only); rw [HM.ite_apply, if_neg (by simp [parseT])]
    refine loadN_cells (ts := [.int .i64, .int .i64, .int .i64, .int .i64]) (l.1, l.2.1, l.2.2.1, l.2.2.2, ()) hs8 rfl ?_
    refine ⟨o.topic, by rw [add_own]; exact hs8.p3.cell 5, o.payload, by rw [add_own]; exact hs8.p3.cell 6, l.2.2.2, by rw [add_own]; exact hs8.cell 3, o.retain, by rw [add_own]; exact hs8.p3.cell 2, ?_⟩
    (try dsimp only); rw [HM.bind_apply]
    refine storeN_all' hs8.p2 rfl rfl fun h9 hs9' => ?_
    have hs9 : sat h9 (cells x2 (cL l.1 l.2.1 l.2.2.1 l.2.2.2) :: cells x13 (cL l.1 l.2.1 l.2.2.1 l.2.2.2) :: cells x3 (encM msZ).toArray :: cells x1 (encPkK .i64 (pkT o c p)).toArray :: ownS eS1 1 s' (usersL tagS o.props) :: ownS encPr 4 p o.props :: old h0 :: R) := hs9'
    clear hs9' hs8
    refine ⟨o.retain, by rw [add_own]; exact hs9.p3.cell 2, rfl, l.2.2.2, by rw [add_own]; exact hs9.p1.cell 3, rfl, o.payload, by rw [add_own]; exact hs9.p3.cell 6, rfl, o.topic, by rw [add_own]; exact hs9.p3.cell 5, rfl, ?_⟩
    (try dsimp only); rw [HM.bind_apply]
    refine storeN_all' hs9.p2 rfl rfl fun h10 hs10' => ?_
    have hs10 : sat h10 (cells x3 (encM (o.topic, o.payload, l.2.2.2, o.retain, e0S)).toArray :: cells x2 (cL l.1 l.2.1 l.2.2.1 l.2.2.2) :: cells x13 (cL l.1 l.2.1 l.2.2.1 l.2.2.2) :: cells x1 (encPkK .i64 (pkT o c p)).toArray :: ownS eS1 1 s' (usersL tagS o.props) :: ownS encPr 4 p o.props :: old h0 :: R) := hs10'
    clear hs10' hs9
    refine loadN_cells (ts := [.int .i64, .int .i64, .int .i64, .int .i64]) (l.1, l.2.1, l.2.2.1, l.2.2.2, ()) hs10.p1 rfl ?_
    refine loadN_cells (ts := [.str, .str, .int .i64, .bool, .str]) (toU (o.topic, o.payload, l.2.2.2, o.retain, e0S)) hs10 rfl ?_
    have := hq h10 hs10.drop.drop.drop.drop.drop
    rw [he] at this
    exact this

end Go.Proofs.YtfhalebbcbgbdaaGreatDoor
