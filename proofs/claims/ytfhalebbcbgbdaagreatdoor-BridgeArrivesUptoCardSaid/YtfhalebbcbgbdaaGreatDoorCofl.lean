/-
  Cofl: contracts: what is sent to one receiver, whatever waits and whatever is on its way.
-/
import Derived.Test.YtfhalebbcbgbdaaGreatDoorCpks
import Derived.Test.YtfhalebbcbgbdaaGreatDoorHv
import Derived.Test.YtfhalebbcbgbdaaGreatDoorHu
namespace Go.Proofs.YtfhalebbcbgbdaaGreatDoor
open Go.H Go.Proofs
set_option linter.unusedSimpArgs false
set_option linter.unusedVariables false
set_option maxRecDepth 100000

variable {h : Heap} {R : List Asn}

theorem eMs_len (x : MsT) : (encM x).length = 5 := rfl
theorem eMs_cell (x : MsT) : ∀ v ∈ encM x, v.oneCell' = true := by
  intro v hv; simp at hv; rcases hv with rfl | rfl | rfl | rfl | rfl <;> rfl
theorem eF_len (x : FlT) : (encF x).length = 7 := rfl
theorem eF_cell (x : FlT) : ∀ v ∈ encF x, v.oneCell' = true := by
  intro v hv; simp at hv; rcases hv with rfl | rfl | rfl | rfl | rfl | rfl | rfl <;> rfl

abbrev MsU := ByteArray × ByteArray × Int × Bool × ByteArray × Unit
abbrev toU (m : MsT) : MsU := (m.1, m.2.1, m.2.2.1, m.2.2.2.1, m.2.2.2.2, ())
abbrev vMs (m : MsT) : Value := .agg #[.string m.1, .string m.2.1, .int .i64 m.2.2.1, .bool m.2.2.2.1, .string m.2.2.2.2]
theorem load_Ms {a : Addr} {m : MsT} (ha : ∀ j v, (encM m)[j]? = some v → cellH h (a.add j) = some v) {Q : MsU → Heap → Prop} (hq : Q (toU m) h) : HM.loadN [.str, .str, .int .i64, .bool, .str] a h Q :=
  loadN_of (ts := [.str, .str, .int .i64, .bool, .str]) (toU m) (fun i v hv => ha i v hv) hq

theorem packet_of {m : MsT} {id : Int} {dup : Bool} (hs : sat h R) {Q : Value → Heap → Prop} (hq : ∀ c p h', sat h' (pkB .u8 (c, p, pubO m id dup) :: R) → Q (vPkK .u8 (pkT (pubO m id dup) c p)) h') :
    HCalls Tryz.prog 81 #[vMs m, .int .i64 id, .bool dup] h Q := by
  refine outflow_Message_packet_calls (toU m) id dup h Q ?_
  unfold outflow_Message_packet
  refine new_cells hs fun x1 h1 hs1 => ?_
  refine new_cells hs1 fun x2 h2 hs2 => ?_
  refine ⟨m.2.2.1, by rw [add_own]; exact hs2.p1.cell 2, m.2.2.2.1, by rw [add_own]; exact hs2.p1.cell 3, m.1, by rw [add_own]; exact hs2.p1.cell 0, m.2.1, by rw [add_own]; exact hs2.p1.cell 1, ?_⟩
  refine new_cells hs2 fun x7 h3 hs3' => ?_
  (try dsimp only); rw [HM.bind_apply]
  refine storeN_all' hs3' rfl rfl fun h4 hs4 => ?_
  refine ⟨m.2.2.2.2, by rw [add_own]; exact hs4.p2.cell 4, ?_⟩
  refine cut (fun z h' => ∃ p : Slc, sat h' (cells x7 (encPkK .u8 (pkT (pubO m id dup) ⟨none, 0, 0⟩ p)).toArray :: cells x2 (encPkK .u8 Pk_z).toArray :: pkB .u8 (⟨none, 0, 0⟩, p, pubO m id dup) :: R)) ?_ ?_
  · intro K hK
    (try dsimp only); rw [HM.ite_apply]
    by_cases ht : m.2.2.2.2 = ByteArray.mk #[]
    · rw [if_neg (by simp [ht])]
      refine hK _ _ ⟨⟨none, 0, 0⟩, ?_⟩
      have := pkB_none (k := .u8) (o := pubO m id dup) rfl (by simp [pubO, tagP, ht]) hs4
      exact (this.re [1, 2, 0, 3]).p3.drop
    · rw [if_pos (by simp [ht])]
      refine ⟨m.2.2.2.2, by rw [add_own]; exact hs4.p2.cell 4, ?_⟩
      refine new_cells hs4 fun x11 h5 hs5 => ?_
      (try dsimp only); rw [HM.bind_apply, add_own]
      refine store1_cells hs5.p1 (by simp) rfl fun h6 hs6 => ?_
      refine hK _ _ ⟨⟨some ⟨x11, 0, none⟩, 1, 1⟩, ?_⟩
      have hp : (pubO m id dup).props = [(38, 0, tagS, m.2.2.2.2)] := by simp [pubO, tagP, ht]
      have h7 : sat h6 (ownS encPr 4 ⟨some ⟨x11, 0, none⟩, 1, 1⟩ (pubO m id dup).props :: cells x7 (encPkK .u8 (pkT (pubO m id dup) ⟨none, 0, 0⟩ ⟨some ⟨x11, 0, none⟩, 1, 1⟩)).toArray :: cells x2 (encPkK .u8 Pk_z).toArray :: R) := by
        rw [hp]
        exact ownS_mk (o := 0) (cs := (encPr (38, 0, tagS, m.2.2.2.2)).toArray) ⟨rfl, Nat.le_refl _, rfl, by simp, by simp⟩ (hs6.re [1, 0, 2, 3]).p3.drop
      have h8 : sat h6 (ownS (eKd .u8) 1 ⟨none, 0, 0⟩ (pubO m id dup).codes :: ownS encPr 4 ⟨some ⟨x11, 0, none⟩, 1, 1⟩ (pubO m id dup).props :: cells x7 (encPkK .u8 (pkT (pubO m id dup) ⟨none, 0, 0⟩ ⟨some ⟨x11, 0, none⟩, 1, 1⟩)).toArray :: cells x2 (encPkK .u8 Pk_z).toArray :: R) := ownS_nil h7
      exact ((pkB_iff (t := (⟨none, 0, 0⟩, ⟨some ⟨x11, 0, none⟩, 1, 1⟩, pubO m id dup))).2 h8).re [1, 2, 0]
  rintro ⟨⟩ h5 ⟨p, hs5⟩
  refine loadN_cells (ts := Pk_tK .u8) (pkT (pubO m id dup) ⟨none, 0, 0⟩ p) hs5 rfl ?_
  (try dsimp only); rw [HM.bind_apply]
  refine storeN_all' hs5.p1 rfl rfl fun h6 hs6 => ?_
  refine loadN_cells (ts := Pk_tK .u8) (pkT (pubO m id dup) ⟨none, 0, 0⟩ p) hs6 rfl ?_
  exact hq _ _ h6 hs6.drop.drop

theorem goF_cons (o : OutS) (m : MsT) (w : List MsT) : goF o (m :: w) = if 0 < m.2.2.1 ∧ o.most ≤ (o.flights.length : Int) then ({ o with waiting := m :: w }, [])
    else if 0 < m.2.2.1 then ((goF { o with pool := ⟨o.pool.most, nextI o.pool.used o.pool.taken, o.pool.used ++ [nextI o.pool.used o.pool.taken]⟩, flights := o.flights ++ [(nextI o.pool.used o.pool.taken, m, false)] } w).1, pubO m (nextI o.pool.used o.pool.taken) false :: (goF { o with pool := ⟨o.pool.most, nextI o.pool.used o.pool.taken, o.pool.used ++ [nextI o.pool.used o.pool.taken]⟩, flights := o.flights ++ [(nextI o.pool.used o.pool.taken, m, false)] } w).2)
    else ((goF o w).1, pubO m 0 false :: (goF o w).2) := rfl

/-- what waits counts for nothing in goF -/
theorem goF_wait (o : OutS) (l : List MsT) : ∀ (w : List MsT), goF { o with waiting := l } w = goF o w := by
  intro w
  induction w generalizing o with
  | nil => rfl
  | cons m w ih =>
    rw [goF_cons, goF_cons]
    split
    · rfl
    · split
      · have := ih { o with pool := ⟨o.pool.most, nextI o.pool.used o.pool.taken, o.pool.used ++ [nextI o.pool.used o.pool.taken]⟩, flights := o.flights ++ [(nextI o.pool.used o.pool.taken, m, false)] }
        simp only [this]
      · rw [ih o]

set_option maxHeartbeats 4000000 in
theorem goOn_spec {b : Nat} {o : OutS} {ps : List PkO} {s : Slc} (hs : sat h (outA b o :: pksA .u8 s ps :: R)) (hok : FlowOK o) (hps : ps.length ≤ 10000) {Q : Value → Heap → Prop}
    (hq : ∀ h' S, sat h' (outA b (goOnF o).1 :: pksA .u8 S (ps ++ (goOnF o).2) :: R) → Q (.slice S.a S.len S.cap) h') :
    HCalls Tryz.prog 78 #[at0 b, .slice s.a s.len s.cap] h Q := by
  refine outflow_Flow_goOn_calls (some ⟨b, 0, none⟩) s h Q ?_
  unfold outflow_Flow_goOn
  (try dsimp only); rw [HM.bind_apply]
  refine loop_k (γ := OutS × List PkO) (fun g c h' => FlowOK g.1 ∧ g.2.length + g.1.waiting.length ≤ 10300 ∧ (goOnF g.1).1 = (goOnF o).1 ∧ g.2 ++ (goOnF g.1).2 = ps ++ (goOnF o).2 ∧ sat h' (outA b g.1 :: pksA .u8 c.1 g.2 :: R)) (fun g => g.1.waiting.length) (o, ps)
    ⟨hok, by have := hok.wl; simp only; omega, rfl, rfl, hs⟩ ?_
  clear hs hps hok
  rintro ⟨o1, os⟩ ⟨out, ⟨⟩⟩ h1 ⟨hok, hps, he1, he2, hs0⟩ K hnx hd
  simp only at hok hps he1 he2 hs0
  obtain ⟨pb, fl, wt, hs1⟩ := outA_iff.1 hs0
  have hwl : wt.len = o1.waiting.length := (hs1.p3).own_len
  have hfl : fl.len = o1.flights.length := (hs1.p2).own_len
  refine cut (fun z h' => h' = h1 ∧ z.1 = (o1.on && decide (0 < o1.waiting.length))) ?_ ?_
  · intro K2 hK2
    refine ⟨_, rfl, o1.on, by rw [add_own]; exact hs1.cell 2, ?_⟩
    (try dsimp only); rw [HM.ite_apply]
    cases hon : o1.on with
    | false => rw [if_neg (by simp)]; exact hK2 _ _ ⟨rfl, by simp [hon]⟩
    | true =>
      rw [if_pos rfl]
      refine ⟨_, rfl, wt, by rw [add_own]; exact hs1.cell 4, ?_⟩
      refine hK2 _ _ ⟨rfl, ?_⟩
      simp only [hwl, hon, Bool.true_and]
      exact decide_eq_decide.2 (by omega)
  rintro ⟨z, ⟨⟩⟩ h2 ⟨rfl, hz⟩
  simp only at hz
  subst hz
  (try dsimp only); rw [HM.ite_apply]
  by_cases hgo : o1.on = true ∧ 0 < o1.waiting.length
  case neg =>
    rw [if_neg (by rw [Bool.and_eq_true, decide_eq_true_eq]; exact hgo)]
    have e : goOnF o1 = (o1, []) := by
      unfold goOnF
      by_cases hon : o1.on = true
      · rw [if_pos hon]
        have hw : o1.waiting = [] := by
          cases hw : o1.waiting with
          | nil => rfl
          | cons m w => exact absurd ⟨hon, by rw [hw]; simp⟩ hgo
        rw [hw]
        show ({ o1 with waiting := [] }, []) = _
        rw [← hw]
      · rw [if_neg hon]
    rw [e] at he1 he2
    rw [List.append_nil] at he2
    refine hd _ _ (hq h2 out ?_)
    rw [← he1, ← he2]
    exact hs0
  obtain ⟨hon, hw0⟩ := hgo
  rw [if_pos (by simp [hon, hw0])]
  cases hwait : o1.waiting with
  | nil => rw [hwait] at hw0; simp at hw0
  | cons m w =>
  have hwl1 := hok.wl
  have hmq := hok.wq m (by rw [hwait]; exact List.mem_cons_self ..)
  have hwq : ∀ x ∈ w, 0 ≤ x.2.2.1 ∧ x.2.2.1 ≤ 2 := fun x hx => hok.wq x (by rw [hwait]; exact List.mem_cons_of_mem _ hx)
  have hgo : goOnF o1 = goF o1 (m :: w) := by unfold goOnF; rw [if_pos hon, hwait]
  rw [hgo, goF_cons] at he1 he2
  rw [hwait] at hps hs1 hwl hwl1
  have hf64 := hok.f64
  have hm64 := hok.m64
  refine ⟨_, rfl, wt, by rw [add_own]; exact hs1.cell 4, ?_⟩
  (try dsimp only); rw [HM.bind_apply]
  refine idx_row (i := 0) (hs1.p3.own_row eMs_len) (x := m) rfl fun p hp => ?_
  (try dsimp only); rw [HM.bind_apply]
  refine load_Ms hp ?_
  refine new_cells hs1 fun x12 h3 hs2' => ?_
  (try dsimp only); rw [HM.bind_apply]
  refine storeN_all' hs2' rfl rfl fun h4 hs2'' => ?_
  have hs2 : sat h4 (cells x12 (encM m).toArray :: cells b #[at0 pb, .int .i64 o1.most, .bool o1.on, .slice fl.a fl.len fl.cap, .slice wt.a wt.len wt.cap] :: poolA pb o1.pool :: ownS encF 7 fl o1.flights :: ownS encM 5 wt (m :: w) :: pksA .u8 out os :: R) := hs2''
  clear hs2'' hs2' hs1
  refine cut (fun z h' => h' = h4 ∧ z.1 = decide (0 < m.2.2.1 ∧ o1.most ≤ (o1.flights.length : Int))) ?_ ?_
  · intro K2 hK2
    refine ⟨m.2.2.1, by rw [add_own]; exact hs2.cell 2, ?_⟩
    (try dsimp only); rw [HM.ite_apply]
    by_cases hm0 : 0 < m.2.2.1
    · rw [if_pos (by simpa using hm0)]
      refine ⟨_, rfl, fl, by rw [add_own]; exact hs2.p1.cell 3, _, rfl, o1.most, by rw [add_own]; exact hs2.p1.cell 1, ?_⟩
      refine hK2 _ _ ⟨rfl, ?_⟩
      simp only [hfl]
      rw [decide_eq_decide]
      simp [hm0]
    · rw [if_neg (by simpa using hm0)]
      exact hK2 _ _ ⟨rfl, by simp [hm0]⟩
  rintro ⟨z, ⟨⟩⟩ h5 ⟨rfl, hz⟩
  simp only at hz
  subst hz
  (try dsimp only); rw [HM.ite_apply]
  by_cases hfull : 0 < m.2.2.1 ∧ o1.most ≤ (o1.flights.length : Int)
  · rw [if_pos (by simpa using hfull)]
    rw [if_pos hfull] at he1 he2
    rw [List.append_nil] at he2
    refine hd _ _ (hq h5 out ?_)
    rw [← he1, ← he2]
    have : sat h5 (outA b { o1 with waiting := m :: w } :: pksA .u8 out os :: R) := outA_iff.2 ⟨pb, fl, wt, hs2.drop⟩
    exact this
  rw [if_neg (by simpa using hfull)]
  rw [if_neg hfull] at he1 he2
  refine ⟨_, rfl, wt, by rw [add_own]; exact hs2.p1.cell 4, ?_⟩
  (try dsimp only); rw [HM.bind_apply]
  refine slice_own (mx := none) (lo := 1) (hi := (m :: w).length) hs2.p4 eMs_len (by simp) (Nat.le_refl _) ⟨rfl, by simp⟩ (by rw [hwl]; rfl) fun wt' hs3 => ?_
  rw [List.take_length] at hs3
  have hs3' : sat h5 (ownS encM 5 wt' w :: cells x12 (encM m).toArray :: cells b #[at0 pb, .int .i64 o1.most, .bool o1.on, .slice fl.a fl.len fl.cap, .slice wt.a wt.len wt.cap] :: poolA pb o1.pool :: ownS encF 7 fl o1.flights :: pksA .u8 out os :: R) := hs3
  clear hs3 hs2
  refine ⟨_, rfl, ?_⟩
  (try dsimp only); rw [HM.bind_apply, add_own]
  refine store1_cells hs3'.p2 (by simp) rfl fun h6 hs4' => ?_
  have hs4 : sat h6 (cells b #[at0 pb, .int .i64 o1.most, .bool o1.on, .slice fl.a fl.len fl.cap, .slice wt'.a wt'.len wt'.cap] :: ownS encM 5 wt' w :: cells x12 (encM m).toArray :: poolA pb o1.pool :: ownS encF 7 fl o1.flights :: pksA .u8 out os :: R) := hs4'
  clear hs4' hs3'
  refine ⟨m.2.2.1, by rw [add_own]; exact hs4.p2.cell 2, ?_⟩
  -- the flow behind this message
  refine cut (fun z h' => ∃ (fl' : Slc) (o2 : OutS), o2.on = true ∧ o2.waiting = w ∧ FlowOK o2 ∧ (goF o2 w).1 = (goOnF o).1 ∧ os ++ pubO m z.1 false :: (goF o2 w).2 = ps ++ (goOnF o).2 ∧
      sat h' (cells x12 (encM m).toArray :: cells b #[at0 pb, .int .i64 o2.most, .bool o2.on, .slice fl'.a fl'.len fl'.cap, .slice wt'.a wt'.len wt'.cap] :: poolA pb o2.pool :: ownS encF 7 fl' o2.flights :: ownS encM 5 wt' w :: pksA .u8 out os :: R)) ?_ ?_
  · intro K2 hK2
    (try dsimp only); rw [HM.ite_apply]
    by_cases hm0 : 0 < m.2.2.1
    · rw [if_pos (by simpa using hm0)]
      rw [if_pos hm0] at he1 he2
      dsimp only at he1 he2
      have hroom : (o1.flights.length : Int) < o1.most := by omega
      refine ⟨_, rfl, some ⟨pb, 0, none⟩, by rw [add_own]; exact hs4.cell 0, ?_⟩
      have hfln := hok.flen
      have hpm := hok.pm
      refine bind_callN (Take_spec hs4.p3 (fun hf => absurd hf (by omega)) (fun _ n u hr h7 hs7' => ⟨(u, 0, ()), rfl, ?_⟩))
      have hu := nextI_eq hr
      have hs7 : sat h7 (poolA pb ⟨o1.pool.most, u, o1.pool.used ++ [u]⟩ :: cells b #[at0 pb, .int .i64 o1.most, .bool o1.on, .slice fl.a fl.len fl.cap, .slice wt'.a wt'.len wt'.cap] :: ownS encM 5 wt' w :: cells x12 (encM m).toArray :: ownS encF 7 fl o1.flights :: pksA .u8 out os :: R) := hs7'
      clear hs7'
      refine ⟨_, rfl, fl, by rw [add_own]; exact hs7.p1.cell 3, ?_⟩
      refine loadN_cells (ts := [.str, .str, .int .i64, .bool, .str]) (toU m) hs7.p3 rfl ?_
      refine new_cells hs7 fun x31 h8 hs8 => ?_
      refine ⟨fl, by rw [add_own]; exact hs8.p2.cell 3, rfl, ?_⟩
      (try dsimp only); rw [HM.bind_apply]
      refine append_own (enc := encF) (ys := [(u, m, false)]) eF_len eF_cell rfl hs8.p5 rfl ?_ (by decide) (by decide) (by omega) fun fl' h9 hs9 => ?_
      · simp only [srcSlc, Nat.one_mul, List.flatMap_cons, List.flatMap_nil, List.append_nil]
        exact hs8.reads rfl
      refine ⟨_, rfl, ?_⟩
      (try dsimp only); rw [HM.bind_apply, add_own]
      refine store1_cells hs9.p3 (by simp) rfl fun h10 hs10 => ?_
      have htk := hok.take (m := m) (w := w) (by simp only [List.length_cons] at hwl1; omega) hwq ⟨hm0, hmq.2⟩ hroom
      rw [hu] at he1 he2 htk
      refine hK2 _ _ ⟨fl', { o1 with pool := ⟨o1.pool.most, u, o1.pool.used ++ [u]⟩, flights := o1.flights ++ [(u, m, false)], waiting := w }, hon, rfl, htk, ?_, ?_, (hs10.re [2, 5, 0, 3, 1, 4, 6]).drop⟩
      · rw [← he1]
        exact congrArg Prod.fst (goF_wait { o1 with pool := ⟨o1.pool.most, u, o1.pool.used ++ [u]⟩, flights := o1.flights ++ [(u, m, false)] } w w)
      · rw [← he2]
        have := congrArg Prod.snd (goF_wait { o1 with pool := ⟨o1.pool.most, u, o1.pool.used ++ [u]⟩, flights := o1.flights ++ [(u, m, false)] } w w)
        simp only at this ⊢
        rw [this]
    · rw [if_neg (by simpa using hm0)]
      rw [if_neg hm0] at he1 he2
      dsimp only at he1 he2
      refine hK2 _ _ ⟨fl, { o1 with waiting := w }, hon, rfl, ⟨hok.pm, hok.pk, hok.m1, hok.m64, hok.ids, by simp only [List.length_cons] at hwl1 ⊢; omega, hok.fq, hwq⟩, ?_, ?_, hs4.re [2, 0, 3, 4, 1]⟩
      · rw [← he1, goF_wait]
      · rw [← he2, goF_wait]
  rintro ⟨id, ⟨⟩⟩ h7 ⟨fl', o2, hon2, hw2, hok2, he3, he4, hs5⟩
  simp only at he4
  refine loadN_cells (ts := [.str, .str, .int .i64, .bool, .str]) (toU m) hs5 rfl ?_
  refine bind_call1 (packet_of (m := m) (id := id) (dup := false) hs5 fun c p h8 hs6 => ⟨pkT (pubO m id false) c p, rfl, ?_⟩)
  refine pks_push (t := (c, p, pubO m id false)) (hs6.re [6, 0, 1, 2, 3, 4, 5]) rfl (by decide) (by simp only [List.length_cons] at hps; omega) fun out' h9 hs7 => ?_
  have e2 : goOnF o2 = goF o2 w := by unfold goOnF; rw [if_pos hon2, hw2]
  refine hnx (o2, os ++ [pubO m id false]) _ _ (by simp only [hwait, hw2, List.length_cons]; omega) ⟨hok2, ?_, by rw [e2]; exact he3, by rw [e2, List.append_assoc]; exact he4, ?_⟩
  · simp only [hw2, List.length_append, List.length_cons, List.length_nil] at hps ⊢
    omega
  · refine outA_iff.2 ⟨pb, fl', wt', ?_⟩
    rw [hw2]
    exact (hs7.re [2, 3, 4, 5, 0, 1]).re [0, 1, 2, 3, 4, 5] |> fun hh => (hh.re [5, 0, 1, 2, 3, 4]).drop

end Go.Proofs.YtfhalebbcbgbdaaGreatDoor
