/-
  Csnd: contracts: messages that wait for a receiver, and are sent when it is there (plain messages).
-/
import Derived.Test.YtnmighfcpeifeaaDoorCtab
import Derived.Test.YtnmighfcpeifeaaDoorHv
namespace Go.Proofs.YtnmighfcpeifeaaDoor
open Go.H Go.Proofs
set_option linter.unusedSimpArgs false
set_option linter.unusedVariables false
set_option synthInstance.maxSize 100000
set_option synthInstance.maxHeartbeats 400000
set_option maxRecDepth 100000

variable {h : Heap} {R : List Asn}

theorem eMs_len (x : MsT) : (encM x).length = 5 := rfl
theorem eMs_cell (x : MsT) : ∀ v ∈ encM x, v.oneCell' = true := by
  intro v hv; simp at hv; rcases hv with rfl | rfl | rfl | rfl | rfl <;> rfl
theorem eF_len (x : FlT) : (encF x).length = 7 := rfl
theorem eF_cell (x : FlT) : ∀ v ∈ encF x, v.oneCell' = true := by
  intro v hv; simp at hv; rcases hv with rfl | rfl | rfl | rfl | rfl | rfl | rfl <;> rfl
abbrev encPk (p : Pk) : List Value := (Pk_c p).toList
theorem ePk_len (p : Pk) : (encPk p).length = 26 := rfl
theorem ePk_cell (p : Pk) : ∀ v ∈ encPk p, v.oneCell' = true := by
  intro v hv
  have : (encPk p).all (fun v => v.oneCell') = true := rfl
  exact List.all_eq_true.1 this v hv

abbrev MsU := ByteArray × ByteArray × Int × Bool × ByteArray × Unit
abbrev toU (m : MsT) : MsU := (m.1, m.2.1, m.2.2.1, m.2.2.2.1, m.2.2.2.2, ())
abbrev vMs (m : MsT) : Value := .agg #[.string m.1, .string m.2.1, .int .i64 m.2.2.1, .bool m.2.2.2.1, .string m.2.2.2.2]

theorem goOn_still {b : Nat} {o : OutS} (hs : sat h (outA b o :: R)) (hoff : o.on = false) (s : Slc) {Q : Value → Heap → Prop} (hq : Q (.slice s.a s.len s.cap) h) :
    HCalls Tryd.prog 46 #[at0 b, .slice s.a s.len s.cap] h Q := by
  refine outflow_Flow_goOn_calls (some ⟨b, 0, none⟩) s h Q ?_
  obtain ⟨pb, fl, wt, hs⟩ := outA_iff.1 hs
  have c2 : cellH h ⟨b, 2, none⟩ = some (.bool false) := by rw [← hoff]; exact hs.cell 2
  unfold outflow_Flow_goOn
  refine loop_of (fun s' h' => s' = (s, ()) ∧ h' = h) (fun _ _ => 0) ⟨rfl, rfl⟩ ?_
  rintro _ h0 ⟨rfl, rfl⟩
  refine bind_cut (fun x h' => h' = h0 ∧ x.1 = false) ?_ ?_
  · refine ⟨_, rfl, false, by rw [add_own]; exact c2, ?_⟩
    (try dsimp only); rw [HM.ite_apply, if_neg (by simp)]
    exact ⟨rfl, rfl⟩
  rintro ⟨x, ⟨⟩⟩ h1 ⟨rfl, hx⟩
  simp only at hx
  subst hx
  rw [HM.ite_apply, if_neg (by simp)]
  exact hq

/-- a message is sent while nobody is there: it waits -/
theorem Send_wait {b : Nat} {o : OutS} {m : MsT} (hs : sat h (outA b o :: R)) (hoff : o.on = false) (hm : 0 < m.2.2.1 ∧ m.2.2.1 ≤ 2) (hl : o.waiting.length < 256) {Q : Value → Heap → Prop}
    (hq : ∀ h', sat h' (outA b { o with waiting := o.waiting ++ [m] } :: R) → Q (.tuple #[.slice none 0 0, .int .u8 0]) h') :
    HCalls Tryd.prog 14 #[at0 b, vMs m] h Q := by
  refine outflow_Flow_Send_calls (some ⟨b, 0, none⟩) (toU m) h Q ?_
  obtain ⟨pb, fl, wt, hs⟩ := outA_iff.1 hs
  have hwl : wt.len = o.waiting.length := (hs.re [3, 0, 1, 2]).own_len
  unfold outflow_Flow_Send
  refine new_cells hs fun mb h1 hs1 => ?_
  have hM : ∀ {h' : Heap} {R' : List Asn}, sat h' (cells mb (encM m).toArray :: R') → cellH h' ⟨mb, 2, none⟩ = some (.int .i64 m.2.2.1) := fun hs' => hs'.cell 2
  have hs1' : sat h1 (cells mb (encM m).toArray :: cells b #[at0 pb, .int .i64 o.most, .bool o.on, .slice fl.a fl.len fl.cap, .slice wt.a wt.len wt.cap] :: poolA pb o.pool :: ownS encF 7 fl o.flights :: ownS encM 5 wt o.waiting :: R) := hs1
  clear hs1
  have c4 : cellH h1 ⟨b, 4, none⟩ = some (.slice wt.a wt.len wt.cap) := hs1'.p1.cell 4
  (try dsimp only); rw [HM.ite_apply, if_neg (by simp)]
  refine bind_cut (fun x h' => h' = h1 ∧ x.1 = false) ?_ ?_
  · refine ⟨m.2.2.1, by rw [add_own]; exact hM hs1', ?_⟩
    (try dsimp only); rw [HM.ite_apply, if_neg (by simp only [decide_eq_true_eq]; omega)]
    exact ⟨m.2.2.1, by rw [add_own]; exact hM hs1', rfl, by simp only [decide_eq_false_iff_not]; omega⟩
  rintro ⟨x, ⟨⟩⟩ h2 ⟨rfl, hx⟩
  simp only at hx
  subst hx
  rw [HM.ite_apply, if_neg (by simp)]
  refine bind_cut (fun x h' => h' = h2 ∧ x.1 = false) ?_ ?_
  · refine ⟨m.2.2.1, by rw [add_own]; exact hM hs1', ?_⟩
    (try dsimp only); rw [HM.ite_apply, if_neg (by simp only [beq_iff_eq]; omega)]
    exact ⟨rfl, rfl⟩
  rintro ⟨x, ⟨⟩⟩ h3 ⟨rfl, hx⟩
  simp only at hx
  subst hx
  rw [HM.ite_apply, if_neg (by simp)]
  refine ⟨_, rfl, wt, by rw [add_own]; exact c4, ?_⟩
  (try dsimp only); rw [HM.ite_apply]
  rw [if_neg (by simp only [decide_eq_true_eq]; omega)]
  refine ⟨_, rfl, wt, by rw [add_own]; exact c4, ?_⟩
  refine loadN_cells (ts := [.str, .str, .int .i64, .bool, .str]) (toU m) hs1' rfl ?_
  refine new_cells hs1' fun nb h4 hs4 => ?_
  have hs4' : sat h4 (cells nb (encM m).toArray :: cells mb (encM m).toArray :: cells b #[at0 pb, .int .i64 o.most, .bool o.on, .slice fl.a fl.len fl.cap, .slice wt.a wt.len wt.cap] :: poolA pb o.pool :: ownS encF 7 fl o.flights :: ownS encM 5 wt o.waiting :: R) := hs4
  clear hs4
  refine ⟨wt, by rw [add_own]; exact (hs4'.re [2, 0, 1]).cell 4, rfl, ?_⟩
  rw [HM.bind_apply]
  refine append_own (ys := [m]) eMs_len eMs_cell rfl (hs4'.re [5, 0, 1, 2, 3, 4]) rfl ?_ (by decide) (by decide) (by omega) fun wt' h5 hs5 => ?_
  · simp only [srcSlc, Nat.one_mul, List.flatMap_cons, List.flatMap_nil, List.append_nil]
    exact hs4'.reads rfl
  refine ⟨_, rfl, ?_⟩
  (try dsimp only); rw [HM.bind_apply, add_own]
  refine store1_cells (hs5.re [3, 0, 1, 2, 4, 5]) (by simp) rfl fun h6 hs6 => ?_
  have hs7 : sat h6 (cells b #[at0 pb, .int .i64 o.most, .bool o.on, .slice fl.a fl.len fl.cap, .slice wt'.a wt'.len wt'.cap] :: poolA pb o.pool :: ownS encF 7 fl o.flights :: ownS encM 5 wt' (o.waiting ++ [m]) :: R) :=
    (hs6.re [2, 3, 0, 4, 5, 1]).drop.drop
  have hs8 : sat h6 (outA b { o with waiting := o.waiting ++ [m] } :: R) := outA_iff.2 ⟨pb, fl, wt', hs7⟩
  refine bind_call1 (goOn_still hs8 hoff ⟨none, 0, 0⟩ ⟨⟨none, 0, 0⟩, rfl, ?_⟩)
  exact hq h6 hs8

/-- a plain message's packet -/
def pkOf (m : MsT) (id : Int) (dup : Bool) : Pk := (3, dup, m.2.2.2.1, m.2.2.1, id, m.1, m.2.1, 0, ⟨none, 0, 0⟩, ⟨none, 0, 0⟩, ByteArray.mk #[], false, 0, false, ByteArray.mk #[], ByteArray.mk #[], 0, false, ⟨none, 0, 0⟩, false, false, ByteArray.mk #[], ByteArray.mk #[], false, ⟨none, 0, 0⟩, ⟨none, 0, 0⟩, ())

theorem packet_plain {m : MsT} {id : Int} {dup : Bool} (hs : sat h R) (ht : m.2.2.2.2 = ByteArray.mk #[]) {Q : Value → Heap → Prop} (hq : ∀ h', sat h' R → Q (Pk_v (pkOf m id dup)) h') :
    HCalls Tryd.prog 50 #[vMs m, .int .i64 id, .bool dup] h Q := by
  refine outflow_Message_packet_calls (toU m) id dup h Q ?_
  unfold outflow_Message_packet
  refine new_cells hs fun x1 h1 hs1 => ?_
  refine new_cells hs1 fun x2 h2 hs2 => ?_
  refine ⟨m.2.2.1, by rw [add_own]; exact hs2.p1.cell 2, m.2.2.2.1, by rw [add_own]; exact hs2.p1.cell 3, m.1, by rw [add_own]; exact hs2.p1.cell 0, m.2.1, by rw [add_own]; exact hs2.p1.cell 1, ?_⟩
  refine new_cells hs2 fun x7 h3 hs3' => ?_
  (try dsimp only); rw [HM.bind_apply]
  refine storeN_all' hs3' rfl rfl fun h4 hs4 => ?_
  refine ⟨m.2.2.2.2, by rw [add_own]; exact hs4.p2.cell 4, ?_⟩
  refine bind_cut (fun z h' => h' = h4) ?_ ?_
  · (try dsimp only); rw [HM.ite_apply, if_neg (by simp [ht])]
    rfl
  rintro ⟨⟩ h5 rfl
  refine loadN_cells (ts := Pk_t) (pkOf m id dup) hs4 rfl ?_
  (try dsimp only); rw [HM.bind_apply]
  refine storeN_all' hs4.p1 rfl rfl fun h6 hs6 => ?_
  refine loadN_cells (ts := Pk_t) (pkOf m id dup) hs6 rfl ?_
  exact hq h6 hs6.drop.drop.drop

/-- what is seen of packets, of messages -/
abbrev seeP (p : Pk) : Int × ByteArray := (p.1, p.2.2.2.2.2.2.1)
abbrev seeM (m : MsT) : Int × ByteArray := (3, m.2.1)

theorem load_Ms {a : Addr} {m : MsT} (ha : ∀ j v, (encM m)[j]? = some v → cellH h (a.add j) = some v) {Q : MsU → Heap → Prop} (hq : Q (toU m) h) : HM.loadN [.str, .str, .int .i64, .bool, .str] a h Q :=
  loadN_of (ts := [.str, .str, .int .i64, .bool, .str]) (toU m) (fun i v hv => ha i v hv) hq

set_option maxHeartbeats 4000000 in
/-- all that waits is sent: there is room for it -/
theorem goOn_all {b : Nat} {o : OutS} {ps : List Pk} {s : Slc} (hs : sat h (outA b o :: ownS encPk 26 s ps :: R)) (hon : o.on = true) (hw : ∀ m ∈ o.waiting, m.2.2.1 = 1 ∧ m.2.2.2.2 = ByteArray.mk #[]) (hroom : ((o.flights.length + o.waiting.length : Nat) : Int) ≤ o.most)
    (hm : o.most ≤ 64) (hps : ps.length + o.waiting.length ≤ 200) {Q : Value → Heap → Prop} (hq : ∀ h' S (qs : List Pk) o', qs.map seeP = ps.map seeP ++ o.waiting.map seeM → sat h' (outA b o' :: ownS encPk 26 S qs :: R) → Q (.slice S.a S.len S.cap) h') :
    HCalls Tryd.prog 46 #[at0 b, .slice s.a s.len s.cap] h Q := by
  refine outflow_Flow_goOn_calls (some ⟨b, 0, none⟩) s h Q ?_
  unfold outflow_Flow_goOn
  (try dsimp only); rw [HM.bind_apply]
  refine loop_gx (γ := OutS × List Pk) (hb := fun s => by
      repeat' with_reducible first
        | refine @mono_bind _ _ _ _ ?_ (fun _ => ?_)
        | refine @mono_ite _ _ _ _ ?_ ?_
        | refine @mono_req _ _ _ ?_
      all_goals infer_instance)
    (fun g c h' => g.1.on = true ∧ (∀ m ∈ g.1.waiting, m.2.2.1 = 1 ∧ m.2.2.2.2 = ByteArray.mk #[]) ∧ ((g.1.flights.length + g.1.waiting.length : Nat) : Int) ≤ g.1.most ∧ g.1.most ≤ 64 ∧ g.2.length + g.1.waiting.length ≤ 200 ∧
      g.2.map seeP ++ g.1.waiting.map seeM = ps.map seeP ++ o.waiting.map seeM ∧ sat h' (outA b g.1 :: ownS encPk 26 c.1 g.2 :: R)) (fun g => g.1.waiting.length) (o, ps)
    ⟨hon, hw, hroom, hm, hps, rfl, hs⟩ ?_
  clear hs hw hroom hm hps hon
  rintro ⟨o1, qs⟩ ⟨out, ⟨⟩⟩ h1 ⟨hon, hw, hroom, hm, hps, he, hs0⟩
  simp only at hon hw hroom hm hps he hs0
  obtain ⟨pb, fl, wt, hs1⟩ := outA_iff.1 hs0
  have hwl : wt.len = o1.waiting.length := (hs1.p3).own_len
  have hfl : fl.len = o1.flights.length := (hs1.p2).own_len
  refine bind_cut (fun z h' => h' = h1 ∧ z.1 = decide (0 < o1.waiting.length)) ?_ ?_
  · refine ⟨_, rfl, true, by rw [add_own, ← hon]; exact hs1.cell 2, ?_⟩
    (try dsimp only); rw [HM.ite_apply, if_pos rfl]
    refine ⟨_, rfl, wt, by rw [add_own]; exact hs1.cell 4, rfl, ?_⟩
    simp only [hwl]
    rw [decide_eq_decide]
    omega
  rintro ⟨z, ⟨⟩⟩ h2 ⟨rfl, hz⟩
  simp only at hz
  subst hz
  (try dsimp only); rw [HM.ite_apply]
  cases hwait : o1.waiting with
  | nil =>
    rw [if_neg (by simp)]
    simp only [Sum.elim_inl, Sum.elim_inr, HM.pure_apply]
    rw [hwait, List.map_nil, List.append_nil] at he
    exact hq h2 out qs o1 he hs0
  | cons m w =>
  rw [if_pos (by simp)]
  rw [hwait] at hw hroom hps he hs1 hwl
  obtain ⟨hm1, hm2⟩ := hw m (List.mem_cons_self ..)
  refine ⟨_, rfl, wt, by rw [add_own]; exact hs1.cell 4, ?_⟩
  (try dsimp only); rw [HM.bind_apply]
  refine idx_row (i := 0) (hs1.p3.own_row eMs_len) (x := m) rfl fun p hp => ?_
  (try dsimp only); rw [HM.bind_apply]
  refine load_Ms hp ?_
  refine new_cells hs1 fun x12 h3 hs2' => ?_
  (try dsimp only); rw [HM.bind_apply]
  refine storeN_all' hs2' rfl rfl fun h4 hs2'' => ?_
  have hs2 : sat h4 (cells x12 (encM m).toArray :: cells b #[at0 pb, .int .i64 o1.most, .bool o1.on, .slice fl.a fl.len fl.cap, .slice wt.a wt.len wt.cap] :: poolA pb o1.pool :: ownS encF 7 fl o1.flights :: ownS encM 5 wt (m :: w) :: ownS encPk 26 out qs :: R) := hs2''
  clear hs2'' hs2' hs1
  refine bind_cut (fun z h' => h' = h4 ∧ z.1 = false) ?_ ?_
  · refine ⟨m.2.2.1, by rw [add_own]; exact hs2.cell 2, ?_⟩
    (try dsimp only); rw [HM.ite_apply, if_pos (by simp only [decide_eq_true_eq]; omega)]
    refine ⟨_, rfl, fl, by rw [add_own]; exact hs2.p1.cell 3, _, rfl, o1.most, by rw [add_own]; exact hs2.p1.cell 1, rfl, ?_⟩
    simp only [decide_eq_false_iff_not, hfl]
    rw [List.length_cons] at hroom
    omega
  rintro ⟨z, ⟨⟩⟩ h5 ⟨rfl, hz⟩
  simp only at hz
  subst hz
  (try dsimp only); rw [HM.ite_apply, if_neg (by simp)]
  refine ⟨_, rfl, wt, by rw [add_own]; exact hs2.p1.cell 4, ?_⟩
  (try dsimp only); rw [HM.bind_apply]
  refine slice_own (mx := none) (lo := 1) (hi := (m :: w).length) hs2.p4 eMs_len (by simp) (Nat.le_refl _) ⟨rfl, by simp⟩ (by rw [hwl]; rfl) fun wt' hs3 => ?_
  rw [List.take_length] at hs3
  have hs3' : sat h5 (ownS encM 5 wt' w :: cells x12 (encM m).toArray :: cells b #[at0 pb, .int .i64 o1.most, .bool o1.on, .slice fl.a fl.len fl.cap, .slice wt.a wt.len wt.cap] :: poolA pb o1.pool :: ownS encF 7 fl o1.flights :: ownS encPk 26 out qs :: R) := hs3
  clear hs3 hs2
  refine ⟨_, rfl, ?_⟩
  (try dsimp only); rw [HM.bind_apply, add_own]
  refine store1_cells hs3'.p2 (by simp) rfl fun h6 hs4' => ?_
  have hs4 : sat h6 (cells b #[at0 pb, .int .i64 o1.most, .bool o1.on, .slice fl.a fl.len fl.cap, .slice wt'.a wt'.len wt'.cap] :: ownS encM 5 wt' w :: cells x12 (encM m).toArray :: poolA pb o1.pool :: ownS encF 7 fl o1.flights :: ownS encPk 26 out qs :: R) := hs4'
  clear hs4' hs3'
  refine ⟨m.2.2.1, by rw [add_own]; exact hs4.p2.cell 2, ?_⟩
  refine bind_cut (fun z h' => ∃ (fl' : Slc) (pool' : PoolS), sat h' (cells x12 (encM m).toArray :: cells b #[at0 pb, .int .i64 o1.most, .bool o1.on, .slice fl'.a fl'.len fl'.cap, .slice wt'.a wt'.len wt'.cap] :: poolA pb pool' :: ownS encF 7 fl' (o1.flights ++ [(z.1, m, false)]) :: ownS encM 5 wt' w :: ownS encPk 26 out qs :: R)) ?_ ?_
  · (try dsimp only); rw [HM.ite_apply, if_pos (by simp only [decide_eq_true_eq]; omega)]
    refine ⟨_, rfl, some ⟨pb, 0, none⟩, by rw [add_own]; exact hs4.cell 0, ?_⟩
    have go : ∀ {h' : Heap} {pool' : PoolS} {id c : Int}, sat h' (poolA pb pool' :: cells b #[at0 pb, .int .i64 o1.most, .bool o1.on, .slice fl.a fl.len fl.cap, .slice wt'.a wt'.len wt'.cap] :: ownS encM 5 wt' w :: cells x12 (encM m).toArray :: ownS encF 7 fl o1.flights :: ownS encPk 26 out qs :: R) →
        KTup.un [.one (.int .i64), .one (.int .u8)] (fun (x27 : Int × Int × Unit) h' => (HM.bind (α := Addr) (HM.nonnil (some ⟨b, 0, none⟩)) fun (x28 : Addr) =>
          HM.bind (α := Slc) (HM.load1 .slc (Addr.add x28 3)) fun (x29 : Slc) =>
          HM.bind (α := MsU) (HM.loadN [.str, .str, .int .i64, .bool, .str] ⟨x12, 0, none⟩) fun (x30 : MsU) =>
          HM.bind (α := Nat) (HM.new (.cells #[.int .i64 x27.1, .string x30.1, .string x30.2.1, .int .i64 x30.2.2.1, .bool x30.2.2.2.1, .string x30.2.2.2.2.1, .bool false] 124)) fun (x31 : Nat) =>
          HM.bind (α := Slc) (HM.load1 .slc (Addr.add x28 3)) fun (x32 : Slc) =>
          HM.req ((.slice x32.a x32.len x32.cap : Value) = .slice x29.a x29.len x29.cap) <|
          HM.bind (α := Slc) (HM.append 124 7 80 #[.int .i64 0, .string (ByteArray.mk #[]), .string (ByteArray.mk #[]), .int .i64 0, .bool false, .string (ByteArray.mk #[]), .bool false] x29 1 (srcSlc 7 (⟨some ⟨x31, 0, none⟩, 1, 1⟩))) fun (x33 : Slc) =>
          HM.bind (α := Addr) (HM.nonnil (some ⟨b, 0, none⟩)) fun (x34 : Addr) =>
          HM.bind (α := Unit) (HM.store1 (Addr.add x34 3) (.slice x33.a x33.len x33.cap)) fun (_ : Unit) =>
          HM.pure (x27.1, ())) h' fun z h' => ∃ (fl' : Slc) (pool' : PoolS), sat h' (cells x12 (encM m).toArray :: cells b #[at0 pb, .int .i64 o1.most, .bool o1.on, .slice fl'.a fl'.len fl'.cap, .slice wt'.a wt'.len wt'.cap] :: poolA pb pool' :: ownS encF 7 fl' (o1.flights ++ [(z.1, m, false)]) :: ownS encM 5 wt' w :: ownS encPk 26 out qs :: R)) (.tuple #[.int .i64 id, .int .u8 c]) h' := by
      intro h' pool' id c hh
      refine ⟨(id, c, ()), rfl, _, rfl, fl, by rw [add_own]; exact hh.p1.cell 3, ?_⟩
      refine loadN_cells (ts := [.str, .str, .int .i64, .bool, .str]) (toU m) hh.p3 rfl ?_
      refine new_cells hh fun x31 h8 hs8 => ?_
      refine ⟨fl, by rw [add_own]; exact hs8.p2.cell 3, rfl, ?_⟩
      (try dsimp only); rw [HM.bind_apply]
      refine append_own (enc := encF) (ys := [(id, m, false)]) eF_len eF_cell rfl hs8.p5 rfl ?_ (by decide) (by decide) (by rw [List.length_cons] at hroom; omega) fun fl' h9 hs9 => ?_
      · simp only [srcSlc, Nat.one_mul, List.flatMap_cons, List.flatMap_nil, List.append_nil]
        exact hs8.reads rfl
      refine ⟨_, rfl, ?_⟩
      (try dsimp only); rw [HM.bind_apply, add_own]
      refine store1_cells hs9.p3 (by simp) rfl fun h10 hs10 => ?_
      exact ⟨fl', pool', (hs10.re [2, 5, 0, 3, 1, 4, 6]).drop⟩
    refine bind_callN (Take_spec hs4.p3 (fun _ => ?_) (fun _ n u hr h7 hs7 => ?_))
    · exact go hs4.p3
    · exact go hs7
  rintro ⟨id, ⟨⟩⟩ h7 ⟨fl', pool', hs5⟩
  simp only at hs5
  refine loadN_cells (ts := [.str, .str, .int .i64, .bool, .str]) (toU m) hs5 rfl ?_
  refine bind_call1 (packet_plain (m := m) (id := id) (dup := false) hs5 hm2 fun h8 hs6 => ⟨pkOf m id false, rfl, ?_⟩)
  refine new_cells hs6 fun x37 h9 hs7 => ?_
  (try dsimp only); rw [HM.bind_apply]
  refine append_own (enc := encPk) (ys := [pkOf m id false]) ePk_len ePk_cell rfl (hs7.re [6, 0, 1, 2, 3, 4, 5]) rfl ?_ (by decide) (by decide) (by simp only [List.length_cons] at hps; omega) fun out' h10 hs8 => ?_
  · simp only [srcSlc, Nat.one_mul, List.flatMap_cons, List.flatMap_nil, List.append_nil]
    exact hs7.reads rfl
  simp only [Sum.elim_inl, Sum.elim_inr, HM.pure_apply]
  refine .mk ({ o1 with pool := pool', flights := o1.flights ++ [(id, m, false)], waiting := w }, qs ++ [pkOf m id false]) (by simp only [hwait, List.length_cons]; omega) ⟨hon, fun m' hm' => hw m' (List.mem_cons_of_mem _ hm'), ?_, hm, ?_, ?_, ?_⟩
  · simp only [List.length_append, List.length_cons, List.length_nil] at hroom ⊢
    omega
  · simp only [List.length_append, List.length_cons, List.length_nil] at hps ⊢
    omega
  · rw [← he]
    simp [pkOf]
  · have hs9 := hs8.re [1, 2, 3, 4, 5, 6, 0]
    have hs10 := hs9.drop.drop
    exact outA_iff.2 ⟨pb, fl', wt', hs10⟩

theorem bounded_spec {n : Int} (h1 : n = 64) {Q : Value → Heap → Prop} (hq : Q (.int .i64 64) h) : HCalls Tryd.prog 49 #[.int .i64 n] h Q := by
  subst h1
  exact outflow_bounded_calls 64 h Q hq

/-- a receiver is there, and nothing is on its way: all that waits is sent -/
theorem OutBegin_all {b : Nat} {o : OutS} (hs : sat h (outA b o :: R)) (hf : o.flights = []) (hw : ∀ m ∈ o.waiting, m.2.2.1 = 1 ∧ m.2.2.2.2 = ByteArray.mk #[]) (hl : o.waiting.length ≤ 64) {Q : Value → Heap → Prop}
    (hq : ∀ h' S (qs : List Pk) o', qs.map seeP = o.waiting.map seeM → sat h' (outA b o' :: ownS encPk 26 S qs :: R) → Q (.slice S.a S.len S.cap) h') :
    HCalls Tryd.prog 17 #[at0 b, .int .i64 64] h Q := by
  refine outflow_Flow_Begin_calls (some ⟨b, 0, none⟩) 64 h Q ?_
  unfold outflow_Flow_Begin
  (try dsimp only); rw [HM.ite_apply, if_neg (by simp)]
  obtain ⟨pb, fl, wt, hs1⟩ := outA_iff.1 hs
  refine bind_call1 (bounded_spec rfl ⟨64, rfl, ?_⟩)
  refine ⟨_, rfl, ?_⟩
  (try dsimp only); rw [HM.bind_apply, add_own]
  refine store1_cells hs1 (by simp) rfl fun h2 hs2 => ?_
  refine ⟨_, rfl, ?_⟩
  (try dsimp only); rw [HM.bind_apply, add_own]
  refine store1_cells hs2 (by simp) rfl fun h3 hs3' => ?_
  have hs3 : sat h3 (cells b #[at0 pb, .int .i64 64, .bool true, .slice fl.a fl.len fl.cap, .slice wt.a wt.len wt.cap] :: poolA pb o.pool :: ownS encF 7 fl o.flights :: ownS encM 5 wt o.waiting :: R) := hs3'
  clear hs3' hs2 hs1
  have hfl : fl.len = 0 := by have := hs3.p2.own_len; rw [hf] at this; exact this
  refine ⟨_, rfl, fl, by rw [add_own]; exact hs3.cell 3, ?_⟩
  (try dsimp only); rw [HM.bind_apply]
  refine loop_gx (γ := Unit) (hb := fun s => by
      repeat' with_reducible first
        | refine @mono_bind _ _ _ _ ?_ (fun _ => ?_)
        | refine @mono_ite _ _ _ _ ?_ ?_
        | refine @mono_req _ _ _ ?_
      all_goals infer_instance)
    (fun g c h' => h' = h3 ∧ c.1 = ⟨none, 0, 0⟩ ∧ c.2.1 = 0) (fun g => 0) ()
    ⟨rfl, rfl, rfl⟩ ?_
  rintro ⟨⟩ ⟨out, c, ⟨⟩⟩ h4 ⟨rfl, ho, hc⟩
  simp only at ho hc
  subst ho
  subst hc
  (try dsimp only); rw [HM.ite_apply, if_neg (by simp [hfl])]
  simp only [Sum.elim_inl, Sum.elim_inr, HM.pure_apply]
  have hs4 : sat h4 (outA b { o with most := 64, on := true } :: ownS encPk 26 ⟨none, 0, 0⟩ [] :: R) := (ownS_nil (outA_iff.2 ⟨pb, fl, wt, hs3⟩)).p1
  refine bind_call1 (goOn_all hs4 rfl hw (by simp only [hf, List.length_nil]; omega) (Int.le_refl _) (by simp only [List.length_nil]; omega) fun h5 S qs o' he hs5 => ⟨S, rfl, ?_⟩)
  exact hq h5 S qs o' (by simpa using he) hs5

theorem own_srcs {α : Type} {enc : α → List Value} {size : Nat} (henc : ∀ x, (enc x).length = size) {s : Slc} {xs : List α} (hs : sat h (ownS enc size s xs :: R)) : srcSlc size s h (xs.flatMap enc).toArray := by
  rcases ownS_cases hs with ⟨h1, h2, rfl, -⟩ | ⟨b, o, cs, ho, hs'⟩
  · unfold srcSlc
    rw [h1, Nat.zero_mul]
    cases s.a with
    | none => simp [readsH]
    | some a => exact ⟨rfl, fun i v hv => by simp at hv⟩
  · unfold srcSlc
    rw [ho.a]
    refine ⟨by rw [List.size_toArray, flat_len henc, ← ho.len], fun i v hv => ?_⟩
    have hf := ho.front
    have hv' : (xs.flatMap enc)[i]? = some v := by simpa using hv
    rw [← hf] at hv'
    have hi : i < s.len * size := by
      have := (List.getElem?_eq_some_iff.1 hv').1
      rw [List.length_take] at this
      omega
    rw [List.getElem?_take_of_lt hi, List.getElem?_drop] at hv'
    rw [Addr.add_at, hs'.cell]
    simpa using hv'

theorem Clone_ms {s : Slc} {xs : List MsT} (hs : sat h (ownS encM 5 s xs :: R)) (hl : xs.length ≤ 300) {Q : Value → Heap → Prop}
    (hq : ∀ (s' : Slc) h', s'.len = xs.length → sat h' (ownS encM 5 s xs :: R) → Q (.slice s'.a s'.len s'.cap) h') :
    HCalls Tryd.prog 48 #[.slice s.a s.len s.cap] h Q := by
  refine slices_Clone_Message_calls s h Q ?_
  unfold slices_Clone_Message
  rw [HM.ite_apply]
  cases ha : s.a with
  | none =>
    rw [if_pos (by rfl)]
    refine hq ⟨none, 0, 0⟩ h ?_ hs
    rcases ownS_cases hs with ⟨h1, h2, rfl, -⟩ | ⟨b, o, cs, ho, -⟩
    · rfl
    · rw [ho.a] at ha; cases ha
  | some a =>
    rw [if_neg (by simp)]
    refine new_cells hs fun b h1 hs1 => ?_
    have hlen : s.len = xs.length := hs.own_len
    have hsrc := own_srcs eMs_len hs1.p1
    have hs2 := ownS_none (enc := encM) (size := 5) (a := some ⟨b, 0, none⟩) hs1.drop
    dsimp only
    rw [HM.bind_apply]
    refine append_own (ys := xs) eMs_len eMs_cell rfl hs2 hlen.symm ?_ (by decide) (by decide) (by rw [hlen]; simp; omega) fun s' h2 hs3 => ?_
    · exact hsrc
    · have := hs3.own_len
      exact hq s' h2 (by simpa using this) hs3.drop

theorem Waiting_ms {b : Nat} {o : OutS} (hs : sat h (outA b o :: R)) (hl : o.waiting.length ≤ 300) {Q : Value → Heap → Prop}
    (hq : ∀ (s' : Slc) h', s'.len = o.waiting.length → sat h' (outA b o :: R) → Q (.slice s'.a s'.len s'.cap) h') :
    HCalls Tryd.prog 16 #[at0 b] h Q := by
  refine outflow_Flow_Waiting_calls (some ⟨b, 0, none⟩) h Q ?_
  obtain ⟨pb, fl, wt, hs⟩ := outA_iff.1 hs
  have c4 : cellH h ⟨b, 4, none⟩ = some (.slice wt.a wt.len wt.cap) := hs.cell 4
  unfold outflow_Flow_Waiting
  rw [HM.ite_apply, if_neg (by simp)]
  refine ⟨_, rfl, wt, by rw [add_own]; exact c4, ?_⟩
  refine bind_call1 (Clone_ms (hs.re [3, 0, 1, 2]) hl fun s' h1 h2 hs1 => ⟨s', rfl, ?_⟩)
  exact hq s' h1 h2 (outA_iff.2 ⟨pb, fl, wt, hs1.re [1, 2, 3, 0]⟩)

end Go.Proofs.YtnmighfcpeifeaaDoor
