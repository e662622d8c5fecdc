/-
  Q6: what the proof BridgePlaysProof reaches of our texts: Crog, Crpu, Crpv, Lpar, Kpar, Cpar, Cref, Csam, Cbrt, L23n, L23p, D23a, D23p.
-/
import Derived.Test.YtfhalebbcbgbdaaGreatDoorQ5
import Derived.Lib.Split
import Derived.Lib.IndexBytes
import Derived.Lib.ParseIntB
import Derived.Test.YtfhalebbcbgbdaaGreatDoorProg
import Derived.KernelRfl
import Derived.Shelf.Strings.Split
import Derived.Shelf.Strconv.Itoa4
import Derived.Shelf.LaysC
import Derived.Lib.SplitLaws
import Derived.Shelf.Strconv.ParseIntPublic10
import Derived.Test.YtfhalebbcbgbdaaGreatDoorRows
import Derived.Test.YtfhalebbcbgbdaaGreatDoorChecked
import Derived.Lib.LaidTab
import Derived.Lib.LaidU8
import Derived.Shelf.Vars
import Derived.ProofKit
import Derived.LaidMore
import Derived.LaidHandle
import Derived.OpenShut
import Derived.Stop.Joined
import Derived.Lib.LaidU8T
import Derived.PinnedBridge
namespace Go.Proofs.YtfhalebbcbgbdaaGreatDoor
open Go.H Go.Proofs
set_option linter.unusedSimpArgs false
set_option linter.unusedVariables false
set_option maxRecDepth 100000
variable {h : Heap} {R : List Asn}
theorem rfSend_spec {b : Nat} {o : OutS} {m : MsT} (hs : sat h (routA b o :: R)) (hok : FlowOK o) {Q : Value → Heap → Prop}
    (hq : ∀ S h', sat h' (routA b (sendF o m).1.1 :: pksA .i64 S (sendF o m).1.2 :: R) → Q (.tuple #[.slice S.a S.len S.cap, .int .i64 (sendF o m).2]) h') :
    HCalls Tryz.prog 53 #[at0 b, vMs m] h Q := by
  refine ref14_Send_calls (some ⟨b, 0, none⟩) (toU m) h Q ?_
  obtain ⟨pb, fl, wt, hs0⟩ := routA_iff.1 hs
  have hwl : wt.len = o.waiting.length := (hs0.re [3, 0, 1, 2]).own_len
  unfold ref14_Send
  refine new_cells hs0 fun mb h1 hs1' => ?_
  have hs1 : sat h1 (cells mb (encM m).toArray :: cells b #[at0 pb, .int .i64 o.most, .bool o.on, .slice fl.a fl.len fl.cap, .slice wt.a wt.len wt.cap] :: rpoA pb o.pool :: ownS encF 7 fl o.flights :: ownS encM 5 wt o.waiting :: R) := hs1'
  clear hs1' hs0 hs
  have hM : cellH h1 ⟨mb, 2, none⟩ = some (.int .i64 m.2.2.1) := hs1.cell 2
  have stay : ∀ {c : Int}, sendF o m = ((o, []), c) → Q (.tuple #[.slice none 0 0, .int .i64 c]) h1 := fun {c} he => by
    have := hq ⟨none, 0, 0⟩ h1
    rw [he] at this
    exact this ((pks_nil (routA_iff.2 ⟨pb, fl, wt, hs1.drop⟩)).p1)
  refine cut (fun x h' => h' = h1 ∧ x.1 = decide (m.2.2.1 < 0 ∨ 2 < m.2.2.1)) ?_ ?_
  · intro K hK
    refine ⟨m.2.2.1, by rw [add_own]; exact hM, ?_⟩
    (try dsimp only); rw [HM.ite_apply]
    by_cases h0 : m.2.2.1 < 0
    · rw [if_pos (by simpa using h0)]
      exact hK _ _ ⟨rfl, by simp [h0]⟩
    · rw [if_neg (by simpa using h0)]
      exact ⟨m.2.2.1, by rw [add_own]; exact hM, hK _ _ ⟨rfl, by simp [h0]⟩⟩
  rintro ⟨x, ⟨⟩⟩ h2 ⟨rfl, hx⟩
  simp only at hx
  subst hx
  (try dsimp only); rw [HM.ite_apply]
  by_cases hbad : m.2.2.1 < 0 ∨ 2 < m.2.2.1
  · rw [if_pos (by simpa using hbad)]
    exact stay (by unfold sendF; rw [if_pos hbad])
  rw [if_neg (by simpa using hbad)]
  refine cut (fun x h' => h' = h2 ∧ x.1 = decide (m.2.2.1 = 0 ∧ o.on = false)) ?_ ?_
  · intro K hK
    refine ⟨m.2.2.1, by rw [add_own]; exact hM, ?_⟩
    (try dsimp only); rw [HM.ite_apply]
    by_cases h0 : m.2.2.1 = 0
    · rw [if_pos (by simpa using h0)]
      refine ⟨_, rfl, o.on, by rw [add_own]; exact hs1.p1.cell 2, hK _ _ ⟨rfl, ?_⟩⟩
      cases o.on <;> simp [h0]
    · rw [if_neg (by simpa using h0)]
      exact hK _ _ ⟨rfl, by simp [h0]⟩
  rintro ⟨x, ⟨⟩⟩ h3 ⟨rfl, hx⟩
  simp only at hx
  subst hx
  (try dsimp only); rw [HM.ite_apply]
  by_cases hoff : m.2.2.1 = 0 ∧ o.on = false
  · rw [if_pos (by simpa using hoff)]
    exact stay (by unfold sendF; rw [if_neg hbad, if_pos hoff])
  rw [if_neg (by simpa using hoff)]
  refine ⟨_, rfl, wt, by rw [add_own]; exact hs1.p1.cell 4, ?_⟩
  (try dsimp only); rw [HM.ite_apply]
  by_cases hfull : 256 ≤ o.waiting.length
  · rw [if_pos (by rw [hwl]; simp only [decide_eq_true_eq]; omega)]
    exact stay (by unfold sendF; rw [if_neg hbad, if_neg hoff, if_pos hfull])
  rw [if_neg (by rw [hwl]; simp only [decide_eq_true_eq]; omega)]
  refine ⟨_, rfl, wt, by rw [add_own]; exact hs1.p1.cell 4, ?_⟩
  refine loadN_cells (ts := [.str, .str, .int .i64, .bool, .str]) (toU m) hs1 rfl ?_
  refine new_cells hs1 fun x14 h4 hs2' => ?_
  have hs2 : sat h4 (cells x14 (encM m).toArray :: cells mb (encM m).toArray :: cells b #[at0 pb, .int .i64 o.most, .bool o.on, .slice fl.a fl.len fl.cap, .slice wt.a wt.len wt.cap] :: rpoA pb o.pool :: ownS encF 7 fl o.flights :: ownS encM 5 wt o.waiting :: R) := hs2'
  clear hs2'
  refine ⟨wt, by rw [add_own]; exact hs2.p2.cell 4, rfl, ?_⟩
  (try dsimp only); rw [HM.bind_apply]
  refine append_own (enc := encM) (ys := [m]) eMs_len eMs_cell rfl hs2.p5 rfl ?_ (by decide) (by decide) (by omega) fun wt' h5 hs3 => ?_
  · simp only [srcSlc, Nat.one_mul, List.flatMap_cons, List.flatMap_nil, List.append_nil]
    exact hs2.reads rfl
  refine ⟨_, rfl, ?_⟩
  (try dsimp only); rw [HM.bind_apply, add_own]
  refine store1_cells hs3.p3 (by simp) rfl fun h6 hs4 => ?_
  have hs5 : sat h6 (routA b { o with waiting := o.waiting ++ [m] } :: pksA .i64 ⟨none, 0, 0⟩ [] :: R) := by
    refine (pks_nil (routA_iff.2 ⟨pb, fl, wt', ?_⟩)).p1
    exact (hs4.re [0, 4, 5, 1, 2, 3]).p4.p5.drop.drop
  have hw := hok.wait (m := m) ⟨by omega, by omega⟩ hfull
  have he : sendF o m = (goOnF { o with waiting := o.waiting ++ [m] }, 0) := by unfold sendF; rw [if_neg hbad, if_neg hoff, if_neg hfull]
  rw [he] at hq
  refine bind_call1 (rgoOn_spec hs5 hw (by simp) fun h7 S hs6 => ⟨S, rfl, ?_⟩)
  exact hq S h7 hs6
theorem rfBegin_spec {b : Nat} {o : OutS} {most : Int} (hs : sat h (routA b o :: R)) (hok : FlowOK o) {Q : Value → Heap → Prop}
    (hq : ∀ S h', sat h' (routA b (beginF o most).1 :: pksA .i64 S (beginF o most).2 :: R) → Q (.slice S.a S.len S.cap) h') :
    HCalls Tryz.prog 21 #[at0 b, .int .i64 most] h Q := by
  refine ref14_Begin_calls (some ⟨b, 0, none⟩) most h Q ?_
  obtain ⟨pb, fl, wt, hs0⟩ := routA_iff.1 hs
  unfold ref14_Begin
  refine ⟨_, rfl, ?_⟩
  (try dsimp only); rw [HM.bind_apply, add_own]
  refine store1_cells hs0 (by simp) rfl fun h0 hs0' => ?_
  refine bind_call1 (rbound_of hs0' fun h1 hs1 => ⟨_, rfl, ?_⟩)
  refine ⟨_, rfl, ?_⟩
  (try dsimp only); rw [HM.bind_apply, add_own]
  refine store1_cells hs1 (by simp) rfl fun h2 hs2' => ?_
  have hs2 : sat h2 (cells b #[at0 pb, .int .i64 (max 1 (min most 64)), .bool true, .slice fl.a fl.len fl.cap, .slice wt.a wt.len wt.cap] :: rpoA pb o.pool :: ownS encF 7 fl o.flights :: ownS encM 5 wt o.waiting :: R) := hs2'
  clear hs2' hs1 hs0 hs
  have hfl : fl.len = o.flights.length := hs2.p2.own_len
  have hf64 := hok.f64
  (try dsimp only); rw [HM.bind_apply]
  refine loop_k (γ := Nat) (fun i x h' => i ≤ o.flights.length ∧ x.2.1 = (i : Int) ∧ sat h' (cells b #[at0 pb, .int .i64 (max 1 (min most 64)), .bool true, .slice fl.a fl.len fl.cap, .slice wt.a wt.len wt.cap] :: rpoA pb o.pool :: ownS encF 7 fl o.flights :: ownS encM 5 wt o.waiting :: pksA .i64 x.1 ((o.flights.take i).map againF) :: R))
    (fun i => o.flights.length - i) 0 ⟨Nat.zero_le _, rfl, by simpa using (pks_nil (k := .i64) hs2).re [1, 2, 3, 4, 0]⟩ ?_
  rintro i ⟨out, ci, ⟨⟩⟩ h ⟨hi, hx, hs3⟩ K hnx hd
  simp only at hx hs3
  subst hx
  refine ⟨_, rfl, fl, by rw [add_own]; exact hs3.cell 3, ?_⟩
  (try dsimp only); rw [HM.ite_apply]
  by_cases hlt : i < o.flights.length
  case neg =>
    rw [if_neg (by rw [hfl]; simp only [decide_eq_true_eq]; omega)]
    rw [List.take_of_length_le (by omega)] at hs3
    refine hd _ _ ?_
    have hs4 : sat h (routA b { o with on := true, most := max 1 (min most 64) } :: pksA .i64 out (o.flights.map againF) :: R) := routA_iff.2 ⟨pb, fl, wt, hs3⟩
    have h1 : FlowOK { o with on := true, most := max 1 (min most 64) } := ⟨hok.pm, hok.pk, by simp only; omega, by simp only; omega, hok.ids, hok.wl, hok.fq, hok.wq⟩
    refine bind_call1 (rgoOn_spec hs4 h1 (by rw [List.length_map]; omega) fun h7 S hs6 => ⟨S, rfl, ?_⟩)
    exact hq S h7 hs6
  case pos =>
    rw [if_pos (by rw [hfl]; simp only [decide_eq_true_eq]; omega)]
    have hy := List.getElem?_eq_getElem hlt
    have htk : (o.flights.take (i + 1)).map againF = (o.flights.take i).map againF ++ [againF o.flights[i]] := by rw [List.take_add_one, hy, List.map_append]; rfl
    generalize o.flights[i] = f at hy htk
    refine cut (fun z h' => sat h' (pksA .i64 z.1 ((o.flights.take (i + 1)).map againF) :: cells b #[at0 pb, .int .i64 (max 1 (min most 64)), .bool true, .slice fl.a fl.len fl.cap, .slice wt.a wt.len wt.cap] :: rpoA pb o.pool :: ownS encF 7 fl o.flights :: ownS encM 5 wt o.waiting :: R)) ?_ ?_
    rotate_left
    · rintro ⟨out', ⟨⟩⟩ h6 hs6
      exact hnx (i + 1) _ _ (by omega) ⟨by omega, by rw [wrap_id (by omega) (by omega)]; rfl, hs6.re [1, 2, 3, 4, 0]⟩
    intro K2 hK2
    refine ⟨_, rfl, fl, by rw [add_own]; exact hs3.cell 3, ?_⟩
    (try dsimp only); rw [HM.bind_apply]
    refine idx_row (hs3.p2.own_row eF_len) hy fun a ha => ?_
    refine loadN_of (ts := [.int .i64, .str, .str, .int .i64, .bool, .str, .bool]) (toFU f) ha ?_
    refine new_cells hs3 fun x10 h4 hs4 => ?_
    (try dsimp only); rw [HM.bind_apply]
    refine storeN_all' hs4 rfl rfl fun h5 hs5' => ?_
    have hs5 : sat h5 (cells x10 (encF f).toArray :: cells b #[at0 pb, .int .i64 (max 1 (min most 64)), .bool true, .slice fl.a fl.len fl.cap, .slice wt.a wt.len wt.cap] :: rpoA pb o.pool :: ownS encF 7 fl o.flights :: ownS encM 5 wt o.waiting :: pksA .i64 out ((o.flights.take i).map againF) :: R) := hs5'
    clear hs5' hs4
    refine ⟨f.2.2, by rw [add_own]; exact hs5.cell 6, ?_⟩
    have hbl : ((o.flights.take i).map againF).length ≤ 64 := by rw [List.length_map, List.length_take]; omega
    rw [htk] at hK2
    (try dsimp only); rw [HM.ite_apply]
    unfold againF at hK2
    by_cases hr : f.2.2 = true
    · rw [if_pos hr]
      rw [if_pos hr] at hK2
      refine ⟨f.1, by rw [add_own]; exact hs5.cell 0, ?_⟩
      have hs6 := pkB_none (k := .i64) (o := ackO 6 f.1 0) rfl rfl hs5
      refine pks_push (t := (⟨none, 0, 0⟩, ⟨none, 0, 0⟩, ackO 6 f.1 0)) (hs6.re [6, 0, 1, 2, 3, 4, 5]) rfl (by decide) (by omega) fun s' h6 hs7 => ?_
      exact hK2 _ _ hs7.p1.drop
    · rw [if_neg hr]
      rw [if_neg hr] at hK2
      refine loadN_of (ts := [.str, .str, .int .i64, .bool, .str]) (toU f.2.1) (fun j v hv => ?_) ?_
      · rw [add_own, Addr.add_at, hs5.cell]
        match j, hv with
        | 0, hv => exact hv
        | 1, hv => exact hv
        | 2, hv => exact hv
        | 3, hv => exact hv
        | 4, hv => exact hv
        | n + 5, hv => exact absurd hv (by show ¬ (encM f.2.1)[n + 5]? = some v; simp)
      refine ⟨f.1, by rw [add_own]; exact hs5.cell 0, ?_⟩
      refine bind_call1 (rpub_of (m := f.2.1) (id := f.1) (dup := true) hs5 fun c p h6 hs6 => ⟨pkT (pubO f.2.1 f.1 true) c p, rfl, ?_⟩)
      refine push_via (t := (c, p, pubO f.2.1 f.1 true)) (hs6.re [6, 0, 1, 2, 3, 4, 5]) rfl rfl (by omega) fun s' h7 hs7 => ?_
      exact hK2 _ _ hs7.p1.drop
theorem rfOver_spec {b : Nat} {o : OutS} {i : Nat} {f : FlT} (hs : sat h (routA b o :: R)) (hok : FlowOK o) (hf : o.flights[i]? = some f) {Q : Value → Heap → Prop}
    (hq : ∀ h', sat h' (routA b (overF o f.1) :: R) → Q (.tuple #[]) h') : HCalls Tryz.prog 44 #[at0 b, .int .i64 i] h Q := by
  refine ref14_over_calls (some ⟨b, 0, none⟩) i h Q ?_
  obtain ⟨pb, fl, wt, hs1⟩ := routA_iff.1 hs
  unfold ref14_over
  have hil := (List.getElem?_eq_some_iff.1 hf).1
  have hf64 := hok.f64
  refine ⟨_, rfl, some ⟨pb, 0, none⟩, by rw [add_own]; exact hs1.cell 0, _, rfl, fl, by rw [add_own]; exact hs1.cell 3, ?_⟩
  (try dsimp only); rw [HM.bind_apply]
  refine idx_row (hs1.p2.own_row eF_len) hf fun a ha => ?_
  refine ⟨f.1, ha 0 _ rfl, ?_⟩
  refine bind_call1 (rpFree_spec hs1.p1 hok.pk fun h2 hs2' => ⟨_, rfl, ?_⟩)
  have hs2 : sat h2 (cells b #[at0 pb, .int .i64 o.most, .bool o.on, .slice fl.a fl.len fl.cap, .slice wt.a wt.len wt.cap] :: rpoA pb ⟨o.pool.most, o.pool.taken, o.pool.used.erase f.1⟩ :: ownS encF 7 fl o.flights :: ownS encM 5 wt o.waiting :: R) := hs2'.p1
  clear hs2'
  have hfl : fl.len = o.flights.length := hs2.p2.own_len
  (try dsimp only); rw [HM.bind_apply]
  refine loop_k (γ := Nat) (fun j x h' => j ≤ o.flights.length ∧ x.2.1 = (j : Int) ∧ sat h' (ownS encF 7 x.1 (if j ≤ i then o.flights.take j else o.flights.take i ++ (o.flights.take j).drop (i + 1)) :: cells b #[at0 pb, .int .i64 o.most, .bool o.on, .slice fl.a fl.len fl.cap, .slice wt.a wt.len wt.cap] :: rpoA pb ⟨o.pool.most, o.pool.taken, o.pool.used.erase f.1⟩ :: ownS encF 7 fl o.flights :: ownS encM 5 wt o.waiting :: R))
    (fun j => o.flights.length - j) 0 ⟨Nat.zero_le _, rfl, by rw [if_pos (Nat.zero_le _), List.take_zero]; exact ownS_nil hs2⟩ ?_
  rintro j ⟨out, ci, ⟨⟩⟩ h ⟨hi, hx, hs3⟩ K hnx hd
  simp only at hx hs3
  subst hx
  refine ⟨_, rfl, fl, by rw [add_own]; exact hs3.p1.cell 3, ?_⟩
  (try dsimp only); rw [HM.ite_apply]
  by_cases hlt : j < o.flights.length
  case neg =>
    rw [if_neg (by rw [hfl]; simp only [decide_eq_true_eq]; omega)]
    have hj : j = o.flights.length := by omega
    have e : o.flights.take j = o.flights := List.take_of_length_le (by omega)
    rw [if_neg (by omega), e, ← List.eraseIdx_eq_take_drop_succ, erase_one hok.nd hf] at hs3
    refine hd _ _ ⟨_, rfl, ?_⟩
    (try dsimp only); rw [HM.bind_apply, add_own]
    refine store1_cells hs3.p1 (by simp) rfl fun h4 hs4 => ?_
    exact hq h4 (routA_iff.2 ⟨pb, out, wt, (hs4.re [0, 2, 1, 4, 3]).re [0, 1, 2, 3, 4] |> fun hh => (hh.re [4, 0, 1, 2, 3]).drop⟩)
  rw [if_pos (by rw [hfl]; simp only [decide_eq_true_eq]; omega)]
  have hy := List.getElem?_eq_getElem hlt
  have htk : o.flights.take (j + 1) = o.flights.take j ++ [o.flights[j]] := by rw [List.take_add_one, hy]; rfl
  generalize o.flights[j] = g at hy htk
  refine cut (fun z h' => sat h' (ownS encF 7 z.1 (if j + 1 ≤ i then o.flights.take (j + 1) else o.flights.take i ++ (o.flights.take (j + 1)).drop (i + 1)) :: cells b #[at0 pb, .int .i64 o.most, .bool o.on, .slice fl.a fl.len fl.cap, .slice wt.a wt.len wt.cap] :: rpoA pb ⟨o.pool.most, o.pool.taken, o.pool.used.erase f.1⟩ :: ownS encF 7 fl o.flights :: ownS encM 5 wt o.waiting :: R)) ?_ ?_
  rotate_left
  · rintro ⟨out', ⟨⟩⟩ h6 hs6
    exact hnx (j + 1) _ _ (by omega) ⟨by omega, by rw [wrap_id (by omega) (by omega)]; rfl, hs6⟩
  intro K2 hK2
  (try dsimp only); rw [HM.ite_apply]
  by_cases hji : j = i
  · rw [if_neg (by simp [hji])]
    refine hK2 _ _ ?_
    subst hji
    rw [if_pos (Nat.le_refl _)] at hs3
    rw [if_neg (by omega), List.drop_of_length_le (by rw [List.length_take]; omega), List.append_nil]
    exact hs3
  · rw [if_pos (by simp; omega)]
    refine ⟨_, rfl, fl, by rw [add_own]; exact hs3.p1.cell 3, ?_⟩
    (try dsimp only); rw [HM.bind_apply]
    refine idx_row (hs3.p3.own_row eF_len) hy fun a ha => ?_
    refine loadN_of (ts := [.int .i64, .str, .str, .int .i64, .bool, .str, .bool]) (toFU g) ha ?_
    refine app_new (x := g) eF_len eF_cell rfl hs3 (by decide) (by decide) ?_ fun out' h4 hs4 => ?_
    · have : (if j ≤ i then o.flights.take j else o.flights.take i ++ (o.flights.take j).drop (i + 1)).length ≤ 130 := by
        split
        · rw [List.length_take]; omega
        · rw [List.length_append, List.length_drop, List.length_take, List.length_take]; omega
      omega
    refine hK2 _ _ ?_
    by_cases h1 : j ≤ i
    · rw [if_pos h1] at hs4
      rw [if_pos (by omega), htk]
      exact hs4
    · rw [if_neg h1] at hs4
      rw [if_neg (by omega), htk, List.drop_append_of_le_length (by rw [List.length_take]; omega), ← List.append_assoc]
      exact hs4
set_option maxHeartbeats 1000000 in
theorem rfAns_spec {b : Nat} {o : OutS} {p : Pk} (hs : sat h (routA b o :: R)) (hok : FlowOK o) {Q : Value → Heap → Prop}
    (hq : ∀ S h', sat h' (routA b (ansF o p.1 p.2.2.2.2.1 p.2.2.2.2.2.2.2.1).1.1 :: pksA .i64 S (ansF o p.1 p.2.2.2.2.1 p.2.2.2.2.2.2.2.1).1.2 :: R) → Q (.tuple #[.slice S.a S.len S.cap, .int .i64 (ansF o p.1 p.2.2.2.2.1 p.2.2.2.2.2.2.2.1).2]) h') :
    HCalls Tryz.prog 19 #[at0 b, vPkK .i64 p] h Q := by
  refine ref14_Answer_calls (some ⟨b, 0, none⟩) p h Q ?_
  unfold ref14_Answer
  refine new_cells hs fun cb h1 hs1' => ?_
  have hs1 : sat h1 (cells cb (encPkK .i64 p).toArray :: routA b o :: R) := hs1'
  clear hs1' hs
  have k0 : ∀ {h' : Heap} {R' : List Asn}, sat h' (cells cb (encPkK .i64 p).toArray :: R') → cellH h' ⟨cb, 0, none⟩ = some (.int .i64 p.1) := fun hs => hs.cell 0
  have k4 : ∀ {h' : Heap} {R' : List Asn}, sat h' (cells cb (encPkK .i64 p).toArray :: R') → cellH h' ⟨cb, 4, none⟩ = some (.int .i64 p.2.2.2.2.1) := fun hs => hs.cell 4
  have k7 : ∀ {h' : Heap} {R' : List Asn}, sat h' (cells cb (encPkK .i64 p).toArray :: R') → cellH h' ⟨cb, 7, none⟩ = some (.int .i64 p.2.2.2.2.2.2.2.1) := fun hs => hs.cell 7
  generalize hk : p.1 = k at *
  generalize hid : p.2.2.2.2.1 = id at *
  generalize hcd : p.2.2.2.2.2.2.2.1 = c at *
  generalize (encPkK .i64 p).toArray = cs at *
  have stay : ∀ {cc : Int} {h' : Heap}, sat h' (cells cb cs :: routA b o :: R) → ansF o k id c = ((o, []), cc) → Q (.tuple #[.slice none 0 0, .int .i64 cc]) h' := fun {cc h'} hs he => by
    have := hq ⟨none, 0, 0⟩ h'
    rw [he] at this
    exact this ((pks_nil hs.drop).p1)
  refine ⟨k, by rw [add_own]; exact k0 hs1, k, by rw [add_own]; exact k0 hs1, k, by rw [add_own]; exact k0 hs1, ?_⟩
  refine cut (fun x h' => h' = h1 ∧ x.1 = decide (o.on = false ∨ (k ≠ 4 ∧ k ≠ 5 ∧ k ≠ 7))) ?_ ?_
  · intro K hK
    obtain ⟨pb, fl, wt, hs2⟩ := routA_iff.1 hs1.p1
    refine ⟨_, rfl, o.on, by rw [add_own]; exact hs2.cell 2, ?_⟩
    (try dsimp only); rw [HM.ite_apply]
    cases hon : o.on with
    | false => rw [if_pos (by rfl)]; exact hK _ _ ⟨rfl, by simp [hon]⟩
    | true =>
      rw [if_neg (by simp)]
      (try dsimp only); rw [HM.ite_apply]
      by_cases h4 : k = 4
      · rw [if_neg (by simp [h4])]; exact hK _ _ ⟨rfl, by simp [h4, hon]⟩
      · rw [if_pos (by simp [h4])]
        (try dsimp only); rw [HM.ite_apply]
        by_cases h5 : k = 5
        · rw [if_neg (by simp [h5])]; exact hK _ _ ⟨rfl, by simp [h5, hon]⟩
        · rw [if_pos (by simp [h5])]
          refine hK _ _ ⟨rfl, ?_⟩
          by_cases h7 : k = 7 <;> simp [h4, h5, h7, hon]
  rintro ⟨x, ⟨⟩⟩ h2 ⟨rfl, hx⟩
  simp only at hx
  subst hx
  (try dsimp only); rw [HM.ite_apply]
  by_cases hbad : o.on = false ∨ (k ≠ 4 ∧ k ≠ 5 ∧ k ≠ 7)
  · rw [if_pos (by simpa using hbad)]
    exact stay hs1 (by unfold ansF; rw [if_pos hbad])
  rw [if_neg (by simpa using hbad)]
  have hf64 := hok.f64
  obtain ⟨pb, fl, wt, hs2'⟩ := routA_iff.1 hs1.p1
  have hs2 : sat h2 (cells b #[at0 pb, .int .i64 o.most, .bool o.on, .slice fl.a fl.len fl.cap, .slice wt.a wt.len wt.cap] :: cells cb cs :: rpoA pb o.pool :: ownS encF 7 fl o.flights :: ownS encM 5 wt o.waiting :: R) := hs2'.re [0, 4, 1, 2, 3]
  clear hs2'
  have hfl : fl.len = o.flights.length := hs2.p3.own_len
  refine cut (fun z h' => h' = h2 ∧ ((z.1 = -1 ∧ ∀ f ∈ o.flights, f.1 ≠ id) ∨ ∃ (i : Nat) (f : FlT), z.1 = (i : Int) ∧ o.flights[i]? = some f ∧ f.1 = id)) ?_ ?_
  · intro K hK
    refine loop_k (γ := Nat) (fun j x h' => h' = h2 ∧ j ≤ o.flights.length ∧ x.2.1 = (j : Int) ∧ ((x.1 = -1 ∧ ∀ f ∈ o.flights.take j, f.1 ≠ id) ∨ ∃ (i : Nat) (f : FlT), x.1 = (i : Int) ∧ o.flights[i]? = some f ∧ f.1 = id))
      (fun j => o.flights.length - j) 0 ⟨rfl, Nat.zero_le _, rfl, .inl ⟨rfl, by simp⟩⟩ ?_
    rintro j ⟨z, ci, ⟨⟩⟩ h ⟨rfl, hi, hx, hz⟩ K1 hnx hd
    simp only at hx hz
    subst hx
    refine ⟨_, rfl, fl, by rw [add_own]; exact hs2.cell 3, ?_⟩
    (try dsimp only); rw [HM.ite_apply]
    by_cases hlt : j < o.flights.length
    case neg =>
      rw [if_neg (by rw [hfl]; simp only [decide_eq_true_eq]; omega)]
      rw [List.take_of_length_le (by omega)] at hz
      exact hd _ _ (hK _ _ ⟨rfl, hz⟩)
    rw [if_pos (by rw [hfl]; simp only [decide_eq_true_eq]; omega)]
    refine ⟨_, rfl, fl, by rw [add_own]; exact hs2.cell 3, ?_⟩
    have hy := List.getElem?_eq_getElem hlt
    have htk : o.flights.take (j + 1) = o.flights.take j ++ [o.flights[j]] := by rw [List.take_add_one, hy]; rfl
    generalize o.flights[j] = g at hy htk
    (try dsimp only); rw [HM.bind_apply]
    refine idx_row (hs2.p3.own_row eF_len) hy fun a ha => ?_
    refine ⟨g.1, ha 0 _ rfl, id, by rw [add_own]; exact k4 hs2.p1, ?_⟩
    have nx : ∀ z' : Int, ((z' = -1 ∧ ∀ f ∈ o.flights.take (j + 1), f.1 ≠ id) ∨ ∃ (i : Nat) (f : FlT), z' = (i : Int) ∧ o.flights[i]? = some f ∧ f.1 = id) → K1 (.inl (z', IntKind.wrap .i64 ((j : Int) + 1), ())) h := fun z' hz' =>
      hnx (j + 1) _ _ (by omega) ⟨rfl, by omega, by rw [wrap_id (by omega) (by omega)]; rfl, hz'⟩
    (try dsimp only); rw [HM.bind_apply, HM.ite_apply]
    by_cases e : g.1 = id
    · rw [if_pos (by simpa using e)]
      exact nx _ (.inr ⟨j, g, rfl, hy, e⟩)
    · rw [if_neg (by simpa using e)]
      refine nx _ ?_
      rcases hz with ⟨hz, hn⟩ | hz
      · refine .inl ⟨hz, fun f hf => ?_⟩
        rw [htk] at hf
        rcases List.mem_append.1 hf with hf | hf
        · exact hn f hf
        · rw [List.mem_singleton.1 hf]; exact e
      · exact .inr hz
  rintro ⟨z, cj, ⟨⟩⟩ h3 ⟨rfl, hz⟩
  simp only at hz
  (try dsimp only); rw [HM.ite_apply]
  rcases hz with ⟨rfl, hno⟩ | ⟨i, f, rfl, hf, he⟩
  · rw [if_pos (by rfl)]
    refine stay hs1 ?_
    unfold ansF
    rw [if_neg hbad, find_none hno]
  rw [if_neg (by simp)]
  have hfind := find_one hok.nd hf he
  have hfm := List.mem_of_getElem? hf
  have hans : ansF o k id c = (if k = 4 then (if f.2.1.2.2.1 ≠ 1 then ((o, []), 130) else (goOnF (overF o id), 0))
      else if k = 5 then
        (if f.2.1.2.2.1 ≠ 2 ∨ (128 ≤ c ∧ f.2.2 = true) then ((o, []), 130)
        else if 128 ≤ c then (goOnF (overF o id), 0)
        else (((goOnF (relF o id)).1, ackO 6 id 0 :: (goOnF (relF o id)).2), 0))
      else (if f.2.2 = false then ((o, []), 130) else (goOnF (overF o id), 0))) := by
    unfold ansF
    rw [if_neg hbad, hfind]
  have hfq := hok.fq f hfm
  refine ⟨_, rfl, fl, by rw [add_own]; exact hs2.cell 3, ?_⟩
  (try dsimp only); rw [HM.bind_apply]
  refine idx_row (hs2.p3.own_row eF_len) hf fun a ha => ?_
  refine loadN_of (ts := [.int .i64, .str, .str, .int .i64, .bool, .str, .bool]) (toFU f) ha ?_
  refine new_cells hs2 fun x22 h4 hs4 => ?_
  (try dsimp only); rw [HM.bind_apply]
  refine storeN_all' hs4 rfl rfl fun h5 hs5' => ?_
  have hs5 : sat h5 (cells x22 (encF f).toArray :: cells b #[at0 pb, .int .i64 o.most, .bool o.on, .slice fl.a fl.len fl.cap, .slice wt.a wt.len wt.cap] :: cells cb cs :: rpoA pb o.pool :: ownS encF 7 fl o.flights :: ownS encM 5 wt o.waiting :: R) := hs5'
  clear hs5' hs4
  have hback : sat h5 (cells cb cs :: routA b o :: R) := sat.p1 (routA_iff.2 ⟨pb, fl, wt, (hs5.drop.re [0, 2, 3, 4, 1])⟩)
  have aq : cellH h5 ((Addr.add ⟨x22, 0, none⟩ 1).add 2) = some (.int .i64 f.2.1.2.2.1) := by rw [addr_add_add, add_own]; exact hs5.cell 3
  have ar : cellH h5 (Addr.add ⟨x22, 0, none⟩ 6) = some (.bool f.2.2) := by rw [add_own]; exact hs5.cell 6
  refine cut (fun z h' => h' = h5 ∧ z.1 = decide (k = 4 ∧ f.2.1.2.2.1 ≠ 1)) ?_ ?_
  · intro K hK
    (try dsimp only); rw [HM.ite_apply]
    by_cases e : k = 4
    · rw [if_pos (by simpa using e)]
      exact ⟨_, aq, hK _ _ ⟨rfl, by simp [e]; rfl⟩⟩
    · rw [if_neg (by simpa using e)]
      exact hK _ _ ⟨rfl, by simp [e]⟩
  rintro ⟨z, ⟨⟩⟩ h6 ⟨rfl, hz⟩
  simp only at hz
  subst hz
  (try dsimp only); rw [HM.ite_apply]
  by_cases t1 : k = 4 ∧ f.2.1.2.2.1 ≠ 1
  · rw [if_pos (by simpa using t1)]
    rw [if_pos t1.1, if_pos t1.2] at hans
    exact stay hback hans
  rw [if_neg (by simpa using t1)]
  refine cut (fun z h' => h' = h6 ∧ z.1 = decide ((k = 5 ∨ k = 7) ∧ f.2.1.2.2.1 ≠ 2)) ?_ ?_
  · intro K hK
    (try dsimp only); rw [HM.ite_apply]
    by_cases e : k = 5
    · rw [if_pos (by simpa using e)]
      exact ⟨_, aq, hK _ _ ⟨rfl, by simp [e]; rfl⟩⟩
    · rw [if_neg (by simpa using e)]
      (try dsimp only); rw [HM.ite_apply]
      by_cases e7 : k = 7
      · rw [if_pos (by simpa using e7)]
        exact ⟨_, aq, hK _ _ ⟨rfl, by simp [e7]; rfl⟩⟩
      · rw [if_neg (by simpa using e7)]
        exact hK _ _ ⟨rfl, by simp [e, e7]⟩
  rintro ⟨z, ⟨⟩⟩ h7 ⟨rfl, hz⟩
  simp only at hz
  subst hz
  (try dsimp only); rw [HM.ite_apply]
  have hk : k = 4 ∨ k = 5 ∨ k = 7 := by
    refine Classical.byContradiction fun e => hbad (.inr ⟨fun x => e (.inl x), fun x => e (.inr (.inl x)), fun x => e (.inr (.inr x))⟩)
  by_cases t2 : (k = 5 ∨ k = 7) ∧ f.2.1.2.2.1 ≠ 2
  · rw [if_pos (by simpa using t2)]
    refine stay hback ?_
    rcases t2 with ⟨rfl | rfl, t2⟩
    · rw [if_neg (by decide), if_pos rfl, if_pos (.inl t2)] at hans
      exact hans
    · have hr : f.2.2 = false := by
        cases hr : f.2.2 with
        | false => rfl
        | true => exact absurd (hfq.2.2 hr) t2
      rw [if_neg (by decide), if_neg (by decide), if_pos hr] at hans
      exact hans
  rw [if_neg (by simpa using t2)]
  refine cut (fun z h' => h' = h7 ∧ z.1 = decide (k = 5 ∧ 128 ≤ c ∧ f.2.2 = true)) ?_ ?_
  · intro K hK
    (try dsimp only); rw [HM.ite_apply]
    by_cases e : k = 5
    · rw [if_pos (by simpa using e)]
      refine ⟨c, by rw [add_own]; exact k7 hs5.p2, ?_⟩
      (try dsimp only); rw [HM.ite_apply]
      by_cases hc : 128 ≤ c
      · rw [if_pos (by simpa using hc)]
        refine ⟨_, ar, hK _ _ ⟨rfl, ?_⟩⟩
        simp [e, hc]
      · rw [if_neg (by simpa using hc)]
        exact hK _ _ ⟨rfl, by simp [hc]⟩
    · rw [if_neg (by simpa using e)]
      exact hK _ _ ⟨rfl, by simp [e]⟩
  rintro ⟨z, ⟨⟩⟩ h8 ⟨rfl, hz⟩
  simp only at hz
  subst hz
  (try dsimp only); rw [HM.ite_apply]
  by_cases t3 : k = 5 ∧ 128 ≤ c ∧ f.2.2 = true
  · rw [if_pos (decide_eq_true t3)]
    rw [if_neg (by rw [t3.1]; decide), if_pos t3.1, if_pos (.inr t3.2)] at hans
    exact stay hback hans
  rw [if_neg (by rw [decide_eq_true_eq]; exact t3)]
  refine cut (fun z h' => h' = h8 ∧ z.1 = decide (k = 7 ∧ f.2.2 = false)) ?_ ?_
  · intro K hK
    (try dsimp only); rw [HM.ite_apply]
    by_cases e : k = 7
    · rw [if_pos (by simpa using e)]
      refine ⟨_, ar, hK _ _ ⟨rfl, ?_⟩⟩
      cases f.2.2 <;> simp [e]
    · rw [if_neg (by simpa using e)]
      exact hK _ _ ⟨rfl, by simp [e]⟩
  rintro ⟨z, ⟨⟩⟩ h9 ⟨rfl, hz⟩
  simp only at hz
  subst hz
  (try dsimp only); rw [HM.ite_apply]
  by_cases t4 : k = 7 ∧ f.2.2 = false
  · rw [if_pos (decide_eq_true t4)]
    rw [if_neg (by rw [t4.1]; decide), if_neg (by rw [t4.1]; decide), if_pos t4.2] at hans
    exact stay hback hans
  rw [if_neg (by rw [decide_eq_true_eq]; exact t4)]
  refine cut (fun z h' => h' = h9 ∧ z.1 = decide (k = 5 ∧ c < 128)) ?_ ?_
  · intro K hK
    (try dsimp only); rw [HM.ite_apply]
    by_cases e : k = 5
    · rw [if_pos (by simpa using e)]
      refine ⟨c, by rw [add_own]; exact k7 hs5.p2, hK _ _ ⟨rfl, ?_⟩⟩
      simp [e]
    · rw [if_neg (by simpa using e)]
      exact hK _ _ ⟨rfl, by simp [e]⟩
  rintro ⟨z, ⟨⟩⟩ h10 ⟨rfl, hz⟩
  simp only at hz
  subst hz
  refine cut (fun z h' => ∃ (o' : OutS) (os : List PkO), FlowOK o' ∧ os.length ≤ 10 ∧ ansF o k id c = (((goOnF o').1, os ++ (goOnF o').2), 0) ∧ sat h' (routA b o' :: pksA .i64 z.1 os :: R)) ?_ ?_
  rotate_left
  · rintro ⟨z, ⟨⟩⟩ h4 ⟨o', os, g1, g2, g3, g4⟩
    refine bind_call1 (rgoOn_spec g4 g1 (by omega) fun h7 S hs6 => ⟨S, rfl, ?_⟩)
    have := hq S h7
    rw [g3] at this
    exact this hs6
  intro K hK
  (try dsimp only); rw [HM.ite_apply]
  by_cases t5 : k = 5 ∧ c < 128
  · rw [if_pos (decide_eq_true t5)]
    have hq2 : f.2.1.2.2.1 = 2 := Classical.not_not.1 fun e => t2 ⟨.inl t5.1, e⟩
    rw [if_neg (by rw [t5.1]; decide), if_pos t5.1, if_neg (by rintro (e | ⟨e, -⟩); exact e hq2; omega), if_neg (by omega)] at hans
    refine ⟨_, rfl, fl, by rw [add_own]; exact hs5.p1.cell 3, ?_⟩
    (try dsimp only); rw [HM.bind_apply]
    refine idx_own eF_len hs5.p4 hf fun a ha hst => ?_
    refine hst 6 (.bool true) (f.1, f.2.1, true) _ (by decide) rfl rfl fun h11 hs11 => ?_
    rw [set_one hok.nd hf, he] at hs11
    have hs6 : sat h11 (cells cb cs :: routA b (relF o id) :: R) := sat.p1 (routA_iff.2 ⟨pb, fl, wt, (hs11.re [2, 4, 0, 5, 3, 1]) |> fun hh => (hh.re [5, 0, 1, 2, 3, 4]).drop⟩)
    refine ⟨id, by rw [add_own]; exact k4 hs6, ?_⟩
    have hs7 := pks_nil (k := .i64) (pkB_none (k := .i64) (o := ackO 6 id 0) rfl rfl hs6)
    refine pks_push (t := (⟨none, 0, 0⟩, ⟨none, 0, 0⟩, ackO 6 id 0)) hs7 rfl (by decide) (by decide) fun s' h6 hs8 => ?_
    have hrel : FlowOK (relF o id) := hok.rel fun g hg e => by rw [hok.one hg hfm (e.trans he.symm)]; exact hq2
    exact hK _ _ ⟨relF o id, [ackO 6 id 0], hrel, by simp, hans, hs8.p1.drop.re [1, 0]⟩
  · rw [if_neg (by rw [decide_eq_true_eq]; exact t5)]
    refine bind_callN (rfOver_spec hback.p1 hok hf fun h' hs' => ⟨(), rfl, ?_⟩)
    rw [he] at hs'
    refine hK _ _ ⟨overF o id, [], hok.over id, by simp, ?_, (pks_nil hs'.p1.drop).p1⟩
    rcases hk with e | e | e
    · rw [if_pos e, if_neg (by rintro e1; exact t1 ⟨e, e1⟩)] at hans
      exact hans
    · rw [if_neg (by rw [e]; decide), if_pos e, if_neg (by rintro (e1 | e1); exact t2 ⟨.inl e, e1⟩; exact t3 ⟨e, e1⟩), if_pos (by omega)] at hans
      exact hans
    · rw [if_neg (by rw [e]; decide), if_neg (by rw [e]; decide), if_neg (fun e1 => t4 ⟨e, e1⟩)] at hans
      exact hans
end Go.Proofs.YtfhalebbcbgbdaaGreatDoor
namespace Go.Proofs.YtfhalebbcbgbdaaGreatDoor
open Go.H Go.Proofs Go.Lib
set_option linter.unusedSimpArgs false
set_option linter.unusedVariables false
set_option maxRecDepth 100000
variable {h h0 : Heap} {R : List Asn}
abbrev eW (s : ByteArray) (c : Int) : Array Value := #[.string s, .int .i64 c]
abbrev vW (s : ByteArray) (c : Int) : Value := .agg (eW s c)
theorem uadd_spec (hs : sat h R) {s t : ByteArray} {c d : Int} (hb : s.size + t.size ≤ 9223372036854775807) {Q : Value → Heap → Prop} (hq : ∀ h', sat h' R → Q (vW (s ++ t) (firstC c d)) h') :
    HCalls Tryz.prog 134 #[vW s c, .string t, .int .i64 d] h Q := by
  refine ref05_add_calls (s, c, ()) t d h Q ?_
  unfold ref05_add
  refine new_cells hs fun x1 h1 hs1 => ?_
  refine new_cells hs1 fun x2 h2 hs2' => ?_
  have hs2 : sat h2 (cells x1 (eW s c) :: cells x2 (eW e0S 0) :: R) := hs2'.p1
  refine ⟨c, by rw [add_own]; exact hs2.cell 1, ?_⟩
  refine Go.H.cut (fun z h' => sat h' (cells x1 (eW s (firstC c d)) :: cells x2 (eW e0S 0) :: R)) ?_ ?_
  · intro K hK
    unfold firstC at hK
    (try dsimp only); rw [HM.ite_apply]
    by_cases hc : c = 0
    · rw [if_pos (by simp [hc])]
      rw [if_pos hc] at hK
      (try dsimp only); rw [HM.bind_apply, add_own]
      refine store1_cells hs2 (by simp) rfl fun h3 hs3 => hK _ _ hs3
    · rw [if_neg (by simp [hc])]
      rw [if_neg hc] at hK
      exact hK _ _ hs2
  rintro ⟨⟩ h3 hs3
  refine ⟨s, by rw [add_own]; exact hs3.cell 0, hb, ?_⟩
  (try dsimp only); rw [HM.bind_apply, add_own]
  refine store1_cells hs3 (by simp) rfl fun h4 hs4' => ?_
  have hs4 : sat h4 (cells x1 (eW (s ++ t) (firstC c d)) :: cells x2 (eW e0S 0) :: R) := hs4'
  refine loadN_cells (ts := [.str, .int .i64]) (s ++ t, firstC c d, ()) hs4 rfl ?_
  (try dsimp only); rw [HM.bind_apply]
  refine storeN_all' hs4.p1 rfl rfl fun h5 hs5 => ?_
  refine loadN_cells (ts := [.str, .int .i64]) (s ++ t, firstC c d, ()) hs5 rfl ?_
  exact hq h5 hs5.drop.drop
theorem utext_spec (hs : sat h R) {s t : ByteArray} {c : Int} (hb : s.size + t.size ≤ 9223372036854775000) {Q : Value → Heap → Prop} (hq : ∀ h', sat h' R → Q (vW (s ++ textB t) (firstC c (textC t))) h') :
    HCalls Tryz.prog 135 #[vW s c, .string t] h Q := by
  refine ref05_text_calls (s, c, ()) t h Q ?_
  unfold ref05_text
  refine new_cells hs fun x1 h1 hs1 => ?_
  refine new_cells hs1 fun x2 h2 hs2' => ?_
  have hs2 : sat h2 (cells x1 (eW s c) :: cells x2 (eW e0S 0) :: R) := hs2'.p1
  refine bind_callN (rtput_spec hs2 (by omega) fun h3 hs3 => ⟨(textB t, textC t, ()), rfl, ?_⟩)
  refine loadN_cells (ts := [.str, .int .i64]) (s, c, ()) hs3 rfl ?_
  have := textB_size t
  refine bind_call1 (uadd_spec (s := s) (t := textB t) (c := c) hs3 (by omega) fun h4 hs4 => ⟨(s ++ textB t, firstC c (textC t), ()), rfl, ?_⟩)
  (try dsimp only); rw [HM.bind_apply]
  refine storeN_all' hs4.p1 rfl rfl fun h5 hs5 => ?_
  refine loadN_cells (ts := [.str, .int .i64]) (s ++ textB t, firstC c (textC t), ()) hs5 rfl ?_
  exact hq h5 hs5.drop.drop
theorem uid_spec (hs : sat h R) {s : ByteArray} {c : Int} {id : Nat} (h1 : 1 ≤ id ∧ id ≤ 65535) (hb : s.size ≤ 9223372036854775000) {Q : Value → Heap → Prop} (hq : ∀ h', sat h' R → Q (vW (s ++ fixB 2 id) c) h') :
    HCalls Tryz.prog 136 #[vW s c, .int .i64 id] h Q := by
  refine ref05_id_calls (s, c, ()) id h Q ?_
  unfold ref05_id
  refine new_cells hs fun x1 hh1 hs1 => ?_
  refine new_cells hs1 fun x2 h2 hs2' => ?_
  have hs2 : sat h2 (cells x1 (eW s c) :: cells x2 (eW e0S 0) :: R) := hs2'.p1
  refine Go.H.cut (fun z h' => h' = h2 ∧ z.1 = false) ?_ ?_
  · intro K hK
    (try dsimp only); rw [HM.ite_apply, if_neg (by simp; omega)]
    exact hK _ _ ⟨rfl, by simp; omega⟩
  rintro ⟨z, ⟨⟩⟩ h3 ⟨rfl, hz⟩
  simp only at hz
  subst hz
  (try dsimp only); rw [HM.ite_apply, if_neg (by decide)]
  refine loadN_cells (ts := [.str, .int .i64]) (s, c, ()) hs2 rfl ?_
  refine bind_call1 ?_
  refine ref05_number_calls (s, c, ()) 2 id h3 _ ?_
  unfold ref05_number
  refine new_cells hs2 fun y1 h4 hs4 => ?_
  refine new_cells hs4 fun y2 h5 hs5' => ?_
  have hs5 : sat h5 (cells y1 (eW s c) :: cells y2 (eW e0S 0) :: cells x1 (eW s c) :: cells x2 (eW e0S 0) :: R) := hs5'.p1
  refine bind_callN (rFixed_spec (w := 2) hs5 (.inr (.inl rfl)) (by simpa using Nat.lt_succ_of_le h1.2) fun h6 hs6 => ⟨(fixB 2 id, 0, ()), rfl, ?_⟩)
  refine loadN_cells (ts := [.str, .int .i64]) (s, c, ()) hs6 rfl ?_
  refine bind_call1 (uadd_spec (s := s) (t := fixB 2 id) (c := c) (d := 0) hs6 (by rw [fixB_size]; omega) fun h7 hs7 => ⟨(s ++ fixB 2 id, firstC c 0, ()), rfl, ?_⟩)
  rw [first0]
  (try dsimp only); rw [HM.bind_apply]
  refine storeN_all' hs7.p1 rfl rfl fun h8 hs8 => ?_
  refine loadN_cells (ts := [.str, .int .i64]) (s ++ fixB 2 id, c, ()) hs8 rfl ?_
  refine ⟨(s ++ fixB 2 id, c, ()), rfl, ?_⟩
  (try dsimp only); rw [HM.bind_apply]
  refine storeN_all' hs8.p3 rfl rfl fun h9 hs9 => ?_
  refine loadN_cells (ts := [.str, .int .i64]) (s ++ fixB 2 id, c, ()) hs9 rfl ?_
  exact hq h9 hs9.drop.drop.drop.drop
theorem uqos_spec (hs : sat h R) {s : ByteArray} {c q : Int} (h1 : 0 ≤ q ∧ q ≤ 2) {Q : Value → Heap → Prop} (hq : ∀ h', sat h' R → Q (vW s c) h') :
    HCalls Tryz.prog 133 #[vW s c, .int .i64 q] h Q := by
  refine ref05_qos_calls (s, c, ()) q h Q ?_
  unfold ref05_qos
  refine new_cells hs fun x1 hh1 hs1 => ?_
  refine new_cells hs1 fun x2 h2 hs2' => ?_
  have hs2 : sat h2 (cells x1 (eW s c) :: cells x2 (eW e0S 0) :: R) := hs2'.p1
  refine Go.H.cut (fun z h' => h' = h2 ∧ z.1 = false) ?_ ?_
  · intro K hK
    (try dsimp only); rw [HM.ite_apply, if_neg (by simp; omega)]
    exact hK _ _ ⟨rfl, by simp; omega⟩
  rintro ⟨z, ⟨⟩⟩ h3 ⟨rfl, hz⟩
  simp only at hz
  subst hz
  (try dsimp only); rw [HM.ite_apply, if_neg (by decide)]
  refine loadN_cells (ts := [.str, .int .i64]) (s, c, ()) hs2 rfl ?_
  (try dsimp only); rw [HM.bind_apply]
  refine storeN_all' hs2.p1 rfl rfl fun h4 hs4 => ?_
  refine loadN_cells (ts := [.str, .int .i64]) (s, c, ()) hs4 rfl ?_
  exact hq h4 hs4.drop.drop
theorem uin_spec {n : Int} {s : Slc} {xs : List Int} (hr : RowAt eI 1 h s xs) (hl : xs.length ≤ 1000) {Q : Value → Heap → Prop} (hq : Q (.bool (decide (n ∈ xs))) h) :
    HCalls Tryz.prog 223 #[.int .i64 n, .slice s.a s.len s.cap] h Q := by
  refine ref05_in_calls n s h Q ?_
  unfold ref05_in
  have hsl := hr.1
  (try dsimp only); rw [HM.bind_apply]
  refine loop_for xs.length (fun i x h' => h' = h ∧ x.1 = (i : Int) ∧ n ∉ xs.take i) ⟨rfl, rfl, by simp⟩ (fun i x h1 hi hJ => by rw [hJ.2.1, hsl]; exact decide_eq_decide.2 (by omega)) (fun x h1 hJ K hd => ?_) (fun i x h1 hlt hJ K hnx hd => ?_)
  · obtain ⟨rfl, hx, hn⟩ := hJ
    rw [List.take_length] at hn
    refine hd _ _ ?_
    have := hq
    rw [decide_eq_false hn] at this
    exact this
  · obtain ⟨ci, ⟨⟩⟩ := x
    obtain ⟨rfl, hx, hn⟩ := hJ
    simp only at hx
    subst hx
    have hy := List.getElem?_eq_getElem hlt
    have htk : xs.take (i + 1) = xs.take i ++ [xs[i]] := by rw [List.take_add_one, hy]; rfl
    have hmem := List.getElem_mem hlt
    generalize xs[i] = y at hy htk hmem
    (try dsimp only); rw [HM.bind_apply]
    refine idx_row hr hy fun a ha => ?_
    refine ⟨y, by simpa [Go.H.add_zero] using ha 0 _ rfl, ?_⟩
    (try dsimp only); rw [HM.ite_apply]
    by_cases e : y = n
    · subst e
      rw [if_pos (by simp)]
      refine hd _ _ ?_
      have := hq
      rw [decide_eq_true hmem] at this
      exact this
    · rw [if_neg (by simpa using e)]
      refine hnx _ _ ⟨rfl, by (try dsimp only); rw [wrap_id (by omega) (by omega)]; rfl, ?_⟩
      rw [htk, List.mem_append]
      rintro (hh | hh)
      · exact hn hh
      · exact e (List.mem_singleton.1 hh).symm
theorem uallowed3 (hs : sat h R) {Q : Value → Heap → Prop} (hq : ∀ h', sat h' R → Q (.bool true) h') : HCalls Tryz.prog 208 #[.int .i64 3, .int .i64 38] h Q := by
  refine ref05_Allowed_calls 3 38 h Q ?_
  unfold ref05_Allowed
  (try dsimp only); rw [HM.ite_apply, if_neg (by decide), HM.ite_apply, if_neg (by decide), HM.ite_apply, if_neg (by decide), HM.ite_apply, if_pos (by decide)]
  refine new_cells hs fun x h1 hs1 => ?_
  refine bind_call1 (uin_spec (s := ⟨some ⟨x, 0, none⟩, 8, 8⟩) (row_cells (xs := [1, 2, 3, 8, 9, 11, 35, 38]) rfl rfl hs1) (by decide) ⟨true, rfl, ?_⟩)
  exact hq h1 hs1.drop
theorem uprops_spec (hs : sat h (old h0 :: R)) {s : ByteArray} {c : Int} {t : ByteArray} {p : Slc} (hr : RowAt encPr 4 h0 p (tagP t)) (hb : s.size + t.size ≤ 9223372036854774000) {Q : Value → Heap → Prop}
    (hq : ∀ h', sat h' (old h0 :: R) → Q (vW (s ++ propB t) (firstC c (propC t))) h') :
    HCalls Tryz.prog 132 #[vW s c, .int .i64 3, .slice p.a p.len p.cap] h Q := by
  refine ref05_props_calls (s, c, ()) 3 p h Q ?_
  unfold ref05_props
  have hsl := hr.1
  have hpz := propB_size t
  refine new_cells hs fun x1 h1 hs1 => ?_
  refine new_cells hs1 fun x2 h2 hs2' => ?_
  have hs2 : sat h2 (old h0 :: cells x1 (eW s c) :: cells x2 (eW e0S 0) :: R) := hs2'.re [2, 1, 0]
  refine bind_callN (rpput_spec hs2 (by omega) (fun hh => hr.old hh) fun h3 hs3 => ⟨(propB t, propC t, ()), rfl, ?_⟩)
  refine loadN_cells (ts := [.str, .int .i64]) (s, c, ()) hs3.p1 rfl ?_
  refine bind_call1 (uadd_spec (s := s) (t := propB t) (c := c) hs3 (by omega) fun h4 hs4 => ⟨(s ++ propB t, firstC c (propC t), ()), rfl, ?_⟩)
  (try dsimp only); rw [HM.bind_apply]
  refine storeN_all' hs4.p1 rfl rfl fun h5 hs5' => ?_
  have hs5 : sat h5 (cells x1 (eW (s ++ propB t) (firstC c (propC t))) :: old h0 :: cells x2 (eW e0S 0) :: R) := hs5'
  clear hs5' hs4 hs3 hs2 hs2' hs1
  refine bind_call1 ?_
  refine ref05_all_calls 3 p h5 _ ?_
  unfold ref05_all
  (try dsimp only); rw [HM.bind_apply]
  refine loop_for (tagP t).length (fun i x h' => x.1 = (i : Int) ∧ sat h' (cells x1 (eW (s ++ propB t) (firstC c (propC t))) :: old h0 :: cells x2 (eW e0S 0) :: R)) ⟨rfl, hs5⟩ (fun i x h1 hi hJ => by rw [hJ.1, hsl]; exact decide_eq_decide.2 (by omega)) (fun x h1 hJ K hd => ?_) (fun i x h1 hlt hJ K hnx hd => ?_)
  · obtain ⟨hx, hs6⟩ := hJ
    refine hd _ _ ⟨true, rfl, ?_⟩
    (try dsimp only); rw [HM.bind_apply, HM.ite_apply, if_neg (by decide), HM.pure_apply]
    refine loadN_cells (ts := [.str, .int .i64]) (s ++ propB t, firstC c (propC t), ()) hs6 rfl ?_
    (try dsimp only); rw [HM.bind_apply]
    refine storeN_all' hs6.p2 rfl rfl fun h7 hs7 => ?_
    refine loadN_cells (ts := [.str, .int .i64]) (s ++ propB t, firstC c (propC t), ()) hs7 rfl ?_
    exact hq h7 hs7.drop.drop
  · obtain ⟨ci, ⟨⟩⟩ := x
    obtain ⟨hx, hs6⟩ := hJ
    simp only at hx
    subst hx
    have hte : ¬ t = e0S := fun e => by unfold tagP at hlt; rw [if_pos e] at hlt; exact absurd hlt (by simp)
    have hone : tagP t = [(38, 0, tagS, t)] := by unfold tagP; rw [if_neg hte]
    have hi0 : i = 0 := by rw [hone] at hlt; simpa using hlt
    subst hi0
    (try dsimp only); rw [HM.bind_apply]
    refine idx_row (i := 0) (hr.old hs6.p1) (x := (38, 0, tagS, t)) (by rw [hone]; rfl) fun a ha => ?_
    refine ⟨38, ha 0 _ rfl, ?_⟩
    refine bind_call1 (uallowed3 hs6 fun h7 hs7 => ⟨true, rfl, ?_⟩)
    (try dsimp only); rw [HM.ite_apply, if_neg (by decide)]
    exact hnx _ _ ⟨by (try dsimp only); decide, hs7⟩
end Go.Proofs.YtfhalebbcbgbdaaGreatDoor
namespace Go.Proofs.YtfhalebbcbgbdaaGreatDoor
open Go.H Go.Proofs Go.Lib
set_option linter.unusedSimpArgs false
set_option linter.unusedVariables false
set_option maxRecDepth 100000
variable {h h0 : Heap} {R : List Asn}
abbrev cPk (o : PkO) (c p : Slc) : Array Value := (encPkK .i64 (pkT o c p)).toArray
set_option maxHeartbeats 1000000 in
theorem ubody_spec {o : PkO} {t : ByteArray} {c p : Slc} (hs : sat h (old h0 :: R)) (hk : PubOK o t) (hr : RowAt encPr 4 h0 p (tagP t)) {Q : Value → Heap → Prop}
    (hq : ∀ h', sat h' (old h0 :: R) → Q (vW (bytesOfInts (bodyB o t)) (bodyC o t)) h') : HCalls Tryz.prog 91 #[vW e0S 0, vPkK .i64 (pkT o c p)] h Q := by
  refine ref05_body_calls (e0S, 0, ()) (pkT o c p) h Q ?_
  unfold ref05_body
  have z1 := textB_size o.topic
  have z2 := propB_size t
  have g1 := hk.top; have g2 := hk.pay; have g3 := hk.tag
  refine new_cells hs fun x1 h1 hs1 => ?_
  refine new_cells hs1 fun x2 h2 hs2 => ?_
  refine new_cells hs2 fun x3 h3 hs3' => ?_
  have hs3 : sat h3 (cells x1 (eW e0S 0) :: cells x2 (cPk o c p) :: cells x3 (eW e0S 0) :: old h0 :: R) := hs3'.re [2, 1, 0]
  clear hs3' hs2 hs1 hs
  have k0 : ∀ {h' : Heap} {A : List Asn}, sat h' (cells x2 (cPk o c p) :: A) → cellH h' ⟨x2, 0, none⟩ = some (.int .i64 o.kind) := fun hh => hh.cell 0
  refine ⟨o.kind, by rw [add_own]; exact k0 hs3.p1, ?_⟩
  (try dsimp only); rw [hk.kind, HM.ite_apply, if_neg (by decide), HM.ite_apply, if_neg (by decide), HM.ite_apply, if_pos (by decide)]
  refine loadN_cells (ts := [.str, .int .i64]) (e0S, 0, ()) hs3 rfl ?_
  refine ⟨o.qos, by rw [add_own]; exact hs3.p1.cell 3, ?_⟩
  have hqr : 0 ≤ o.qos ∧ o.qos ≤ 2 := by have := hk.qos; omega
  refine bind_call1 (uqos_spec (s := e0S) (c := 0) hs3 hqr fun h4 hs4 => ⟨(e0S, 0, ()), rfl, ?_⟩)
  (try dsimp only); rw [HM.bind_apply]
  refine storeN_all' hs4 rfl rfl fun h5 hs5' => ?_
  have hs5 : sat h5 (cells x1 (eW e0S 0) :: cells x2 (cPk o c p) :: cells x3 (eW e0S 0) :: old h0 :: R) := hs5'
  clear hs5' hs4 hs3
  refine Go.H.cut (fun z h' => h' = h5 ∧ z.1 = false) ?_ ?_
  · intro K hK
    refine ⟨o.dup, by rw [add_own]; exact hs5.p1.cell 1, ?_⟩
    (try dsimp only); rw [HM.ite_apply]
    cases hd : o.dup with
    | false => rw [if_neg (by decide)]; exact hK _ _ ⟨rfl, rfl⟩
    | true =>
      rw [if_pos rfl]
      refine ⟨o.qos, by rw [add_own]; exact hs5.p1.cell 3, hK _ _ ⟨rfl, ?_⟩⟩
      simpa using hk.dup hd
  rintro ⟨z, ⟨⟩⟩ h6 ⟨rfl, hz⟩
  simp only at hz
  subst hz
  (try dsimp only); rw [HM.bind_apply, HM.ite_apply, if_neg (by decide), HM.pure_apply]
  refine loadN_cells (ts := [.str, .int .i64]) (e0S, 0, ()) hs5 rfl ?_
  refine ⟨o.topic, by rw [add_own]; exact hs5.p1.cell 5, ?_⟩
  refine bind_call1 (utext_spec (s := e0S) (c := 0) (t := o.topic) hs5 (by show 0 + _ ≤ _; omega) fun h7 hs7 => ⟨(e0S ++ textB o.topic, firstC 0 (textC o.topic), ()), rfl, ?_⟩)
  rw [e0_append, firstC_0]
  (try dsimp only); rw [HM.bind_apply]
  refine storeN_all' hs7 rfl rfl fun h8 hs8' => ?_
  have hs8 : sat h8 (cells x1 (eW (textB o.topic) (textC o.topic)) :: cells x2 (cPk o c p) :: cells x3 (eW e0S 0) :: old h0 :: R) := hs8'
  clear hs8' hs7 hs5
  refine ⟨o.qos, by rw [add_own]; exact hs8.p1.cell 3, ?_⟩
  refine Go.H.cut (fun z h' => sat h' (cells x1 (eW (textB o.topic ++ bytesOfInts (idB o)) (textC o.topic)) :: cells x2 (cPk o c p) :: cells x3 (eW e0S 0) :: old h0 :: R)) ?_ ?_
  · intro K hK
    unfold idB at hK
    (try dsimp only); rw [HM.ite_apply]
    by_cases hq0 : o.qos = 0
    · rw [if_neg (by simp [hq0])]
      rw [if_pos hq0] at hK
      refine hK _ _ ?_
      have : textB o.topic ++ bytesOfInts [] = textB o.topic := data_inj (by rw [ByteArray.data_append, Array.toList_append, ints_data]; simp)
      rw [this]
      exact hs8
    · rw [if_pos (by simp; omega)]
      rw [if_neg hq0, ints_intsS] at hK
      obtain ⟨i1, i2⟩ := hk.id hq0
      have hid : o.id = ((o.id.toNat : Nat) : Int) := by omega
      refine loadN_cells (ts := [.str, .int .i64]) (textB o.topic, textC o.topic, ()) hs8 rfl ?_
      refine ⟨o.id, by rw [add_own]; exact hs8.p1.cell 4, ?_⟩
      (try dsimp only); rw [hid]
      refine bind_call1 (uid_spec (s := textB o.topic) (c := textC o.topic) hs8 (by omega) (by omega) fun h9 hs9 => ⟨(textB o.topic ++ fixB 2 o.id.toNat, textC o.topic, ()), rfl, ?_⟩)
      (try dsimp only); rw [HM.bind_apply]
      refine storeN_all' hs9 rfl rfl fun h10 hs10 => hK _ _ hs10
  rintro ⟨⟩ h9 hs9
  have z3 : (bytesOfInts (idB o)).size ≤ 2 := by rw [ints_size]; exact idB_len o
  refine loadN_cells (ts := [.str, .int .i64]) (textB o.topic ++ bytesOfInts (idB o), textC o.topic, ()) hs9 rfl ?_
  refine ⟨p, by rw [add_own]; exact hs9.p1.cell 9, ?_⟩
  refine bind_call1 (uprops_spec (s := textB o.topic ++ bytesOfInts (idB o)) (c := textC o.topic) (t := t) (hs9.re [3, 0, 1, 2]) hr (by rw [ByteArray.size_append]; omega) fun h10 hs10' => ⟨(textB o.topic ++ bytesOfInts (idB o) ++ propB t, bodyC o t, ()), rfl, ?_⟩)
  (try dsimp only); rw [HM.bind_apply]
  refine storeN_all' (hs10'.re [1, 0, 2, 3]) rfl rfl fun h11 hs11 => ?_
  refine loadN_cells (ts := [.str, .int .i64]) (textB o.topic ++ bytesOfInts (idB o) ++ propB t, bodyC o t, ()) hs11 rfl ?_
  refine ⟨o.payload, by rw [add_own]; exact hs11.p2.cell 6, ?_⟩
  refine bind_call1 (uadd_spec (s := textB o.topic ++ bytesOfInts (idB o) ++ propB t) (t := o.payload) (c := bodyC o t) (d := 0) hs11 (by rw [ByteArray.size_append, ByteArray.size_append]; omega) fun h12 hs12 => ⟨(textB o.topic ++ bytesOfInts (idB o) ++ propB t ++ o.payload, firstC (bodyC o t) 0, ()), rfl, ?_⟩)
  rw [first0]
  (try dsimp only); rw [HM.bind_apply]
  refine storeN_all' hs12.p3 rfl rfl fun h13 hs13 => ?_
  refine loadN_cells (ts := [.str, .int .i64]) (textB o.topic ++ bytesOfInts (idB o) ++ propB t ++ o.payload, bodyC o t, ()) hs13 rfl ?_
  have e : bytesOfInts (bodyB o t) = textB o.topic ++ bytesOfInts (idB o) ++ propB t ++ o.payload := by
    unfold bodyB
    rw [← ints_append, ← ints_append, ← ints_append, ints_intsS, ints_intsS, ints_intsS]
  rw [e] at hq
  exact hq h13 (hs13.re [2, 0, 1, 3]).p1.drop.p1.drop.p1.drop
theorem uflags_spec {o : PkO} {t : ByteArray} {c p : Slc} (hs : sat h R) (hk : PubOK o t) {Q : Value → Heap → Prop} (hq : ∀ h', sat h' R → Q (.int .i64 (flagN o)) h') :
    HCalls Tryz.prog 92 #[vPkK .i64 (pkT o c p)] h Q := by
  refine ref05_flags_calls (pkT o c p) h Q ?_
  unfold ref05_flags
  refine new_cells hs fun x1 h1 hs1' => ?_
  have hs1 : sat h1 (cells x1 (cPk o c p) :: R) := hs1'
  refine ⟨o.kind, by rw [add_own]; exact hs1.cell 0, ?_⟩
  rw [hk.kind]
  refine Go.H.cut (fun z h' => h' = h1 ∧ z.1 = false) ?_ ?_
  · intro K hK
    (try dsimp only); rw [HM.ite_apply, if_neg (by decide)]
    (try dsimp only); rw [HM.bind_apply, HM.ite_apply, if_neg (by decide)]
    exact hK _ _ ⟨rfl, rfl⟩
  rintro ⟨z, ⟨⟩⟩ h2 ⟨rfl, hz⟩
  simp only at hz
  subst hz
  (try dsimp only); rw [HM.ite_apply, if_neg (by decide), HM.ite_apply, if_pos (by decide)]
  have bit : ∀ (v : Bool) (n : Int) (Q' : Value → Heap → Prop), Q' (.int .i64 (if v = true then n else 0)) h2 → HCalls Tryz.prog 130 #[.bool v, .int .i64 n] h2 Q' := fun v n Q' hQ' => by
    refine ref05_bit_calls v n h2 Q' ?_
    unfold ref05_bit
    rw [HM.ite_apply]
    cases v with
    | false => exact hQ'
    | true => exact hQ'
  refine ⟨o.dup, by rw [add_own]; exact hs1.cell 1, ?_⟩
  refine bind_call1 (bit _ _ _ ⟨_, rfl, ?_⟩)
  refine ⟨o.retain, by rw [add_own]; exact hs1.cell 2, ?_⟩
  refine bind_call1 (bit _ _ _ ⟨_, rfl, ?_⟩)
  refine ⟨o.qos, by rw [add_own]; exact hs1.cell 3, ?_⟩
  have e : IntKind.wrap .i64 (IntKind.wrap .i64 ((if o.dup = true then (8 : Int) else 0) + IntKind.wrap .i64 (2 * o.qos)) + (if o.retain = true then (1 : Int) else 0)) = (flagN o : Int) := by
    unfold flagN
    rcases hk.qos with e | e | e <;> rw [e] <;> cases o.dup <;> cases o.retain <;> decide
  show Q (.int .i64 (IntKind.wrap .i64 (IntKind.wrap .i64 ((if o.dup = true then (8 : Int) else 0) + IntKind.wrap .i64 (2 * o.qos)) + (if o.retain = true then (1 : Int) else 0)))) h2
  rw [e]
  exact hq h2 hs1.drop
set_option maxHeartbeats 1000000 in
theorem rput_spec {o : PkO} {t : ByteArray} {c p : Slc} (hs : sat h (old h0 :: R)) (hk : PubOK o t) (hr : RowAt encPr 4 h0 p (tagP t)) {Q : Value → Heap → Prop}
    (hq : ∀ h', sat h' (old h0 :: R) → Q (.tuple #[.string (putB o t), .int .i64 (putC o t)]) h') : HCalls Tryz.prog 52 #[vPkK .i64 (pkT o c p)] h Q := by
  refine ref05_Put_calls (pkT o c p) h Q ?_
  unfold ref05_Put
  refine new_cells hs fun x1 h1 hs1' => ?_
  have hs1 : sat h1 (cells x1 (cPk o c p) :: old h0 :: R) := hs1'
  have k0 : ∀ {h' : Heap} {A : List Asn}, sat h' (cells x1 (cPk o c p) :: A) → cellH h' ⟨x1, 0, none⟩ = some (Tag.val (.int .i64) (3 : Int)) := fun hh => (hh.cell 0).trans (by show some (Value.int .i64 o.kind) = _; rw [hk.kind]; rfl)
  refine Go.H.cut (fun z h' => h' = h1 ∧ z.1 = false) ?_ ?_
  · intro K hK
    refine ⟨3, by rw [add_own]; exact k0 hs1, ?_⟩
    (try dsimp only); rw [HM.ite_apply, if_neg (by decide)]
    refine ⟨3, by rw [add_own]; exact k0 hs1, ?_⟩
    exact hK _ _ ⟨rfl, rfl⟩
  rintro ⟨z, ⟨⟩⟩ h2 ⟨rfl, hz⟩
  simp only at hz
  subst hz
  (try dsimp only); rw [HM.ite_apply, if_neg (by decide)]
  refine loadN_cells (ts := Pk_tK .i64) (pkT o c p) hs1 rfl ?_
  refine bind_call1 (ubody_spec (c := c) (p := p) hs1.p1 hk hr fun h3 hs3 => ⟨(bytesOfInts (bodyB o t), bodyC o t, ()), rfl, ?_⟩)
  have hlen := bodyB_len hk
  have hbz : (bytesOfInts (bodyB o t)).size = (bodyB o t).length := ints_size _
  have hC : putC o t = if bodyC o t ≠ 0 then bodyC o t else if 65536 < (bodyB o t).length then 149 else 0 := rfl
  have hB : putB o t = if putC o t = 0 then fixB 1 (48 + flagN o) ++ vB (bodyB o t).length ++ bytesOfInts (bodyB o t) else e0S := rfl
  refine new_cells hs3 fun x7 h4 hs4 => ?_
  (try dsimp only); rw [HM.bind_apply]
  refine storeN_all' hs4 rfl rfl fun h5 hs5' => ?_
  have hs5 : sat h5 (cells x7 (eW (bytesOfInts (bodyB o t)) (bodyC o t)) :: cells x1 (cPk o c p) :: old h0 :: R) := hs5'.re [0, 2, 1]
  clear hs5' hs4 hs3 hs1 hs1'
  generalize bodyB o t = L at *
  generalize bodyC o t = C at *
  have fin := fun h' (hh : sat h' (old h0 :: R)) => hq h' hh
  refine ⟨C, by rw [add_own]; exact hs5.cell 1, ?_⟩
  (try dsimp only); rw [HM.ite_apply]
  by_cases hc : C = 0
  case neg =>
    rw [if_pos (by simp [hc])]
    refine ⟨C, by rw [add_own]; exact hs5.cell 1, ?_⟩
    have := fin h5 hs5.drop.drop
    rw [if_pos hc] at hC
    rw [hB, hC, if_neg hc] at this
    exact this
  rw [if_neg (by simp [hc])]
  rw [if_neg (by simp [hc])] at hC
  refine ⟨bytesOfInts L, by rw [add_own]; exact hs5.cell 0, ?_⟩
  (try dsimp only); rw [HM.ite_apply, hbz]
  by_cases hl : 65536 < L.length
  · rw [if_pos (by simp only [decide_eq_true_eq]; omega)]
    have := fin h5 hs5.drop.drop
    rw [if_pos hl] at hC
    rw [hB, hC, if_neg (by decide)] at this
    exact this
  rw [if_neg (by simp only [decide_eq_true_eq]; omega)]
  rw [if_neg hl] at hC
  refine loadN_cells (ts := Pk_tK .i64) (pkT o c p) hs5.p1 rfl ?_
  refine bind_call1 (uflags_spec (c := c) (p := p) hs5 hk fun h6 hs6 => ⟨_, rfl, ?_⟩)
  refine ⟨3, by rw [add_own]; exact k0 hs6.p1, ?_⟩
  have hfl : flagN o ≤ 13 := by
    unfold flagN
    have := hk.qos
    split <;> split <;> omega
  have hb1 : IntKind.wrap .i64 (IntKind.wrap .i64 (16 * 3) + (flagN o : Int)) = ((48 + flagN o : Nat) : Int) := by
    rw [show IntKind.wrap .i64 (16 * 3) = 48 by decide, wrap_id (by omega) (by omega)]
    omega
  (try dsimp only); rw [hb1]
  refine bind_callN (rFixed_spec (w := 1) hs6 (.inl rfl) (by omega) fun h7 hs7 => ⟨(fixB 1 (48 + flagN o), 0, ()), rfl, ?_⟩)
  refine ⟨bytesOfInts L, by rw [add_own]; exact hs7.cell 0, ?_⟩
  (try dsimp only); rw [hbz]
  refine bind_callN (rvput_spec hs7 (n := L.length) (by omega) fun h8 hs8 => ⟨(vB L.length, 0, ()), rfl, ?_⟩)
  have hv := sizeV_pos L.length
  (try dsimp only)
  refine ⟨by rw [fixB_size, vB_size]; omega, bytesOfInts L, by rw [add_own]; exact hs8.cell 0, ?_⟩
  (try dsimp only)
  refine ⟨by rw [ByteArray.size_append, fixB_size, vB_size, hbz]; omega, ?_⟩
  have := fin h8 hs8.drop.drop
  rw [hB, hC, if_pos rfl] at this
  exact this
end Go.Proofs.YtfhalebbcbgbdaaGreatDoor
namespace Go.Proofs.YtfhalebbcbgbdaaGreatDoor
open Go.H Go.Proofs Go.Lib
set_option linter.unusedSimpArgs false
set_option linter.unusedVariables false
theorem bytes_inj {x y : ByteArray} (h : x.data.toList = y.data.toList) : x = y := by
  cases x; cases y
  simp at h
  rw [h]
theorem dec_len : ∀ (k n : Nat), n < 10 ^ (k + 1) → (decDigits n).length ≤ k + 1
  | 0, n, h => by
    rw [decDigits, dif_pos (by simpa using h)]
    simp
  | k + 1, n, h => by
    rw [decDigits]
    split
    · simp
    · rw [Nat.pow_succ] at h
      have := dec_len k (n / 10) (by omega)
      simp
      omega
def labelText (a b c d : Int) : ByteArray := if goodLabel a b c d then textOf a.toNat (decS b.toNat) c.toNat d.toNat else ByteArray.mk #[]
abbrev LabT := Int × Int × Int × Int
theorem text_size {a b c d : Int} (hg : goodLabel a b c d) : (labelText a b c d).size ≤ 100 := by
  unfold labelText
  rw [if_pos hg]
  obtain ⟨⟨ha0, ha1, hb0, hb1⟩, hc0, hc1, hd0, hd1⟩ := id hg
  simp only at ha0 ha1 hb0 hb1
  have l1 := dec_len 19 a.toNat (by omega)
  have l2 := dec_len 19 b.toNat (by omega)
  have l3 := dec_len 19 c.toNat (by omega)
  have l4 := dec_len 19 d.toNat (by omega)
  show (List.toArray _).size ≤ 100
  simp [join_cons, joinTail]
  omega
end Go.Proofs.YtfhalebbcbgbdaaGreatDoor
namespace Go.Proofs.YtfhalebbcbgbdaaGreatDoor
set_option linter.unusedSimpArgs false
set_option linter.unusedVariables false
open Go.Proofs Go.Shelf
def formatM_ren : Go.Shelf.Ren := ⟨fun n => match n with | 173 => 60 | 246 => 102 | 283 => 145 | 284 => 146 | 285 => 147 | 286 => 148 | 129 => 183 | 317 => 182 | 318 => 184 | 319 => 185 | 320 => 186 | 337 => 210 | 338 => 211 | n => n, fun n => match n with | 2 => 2 | 3 => 3 | 9 => 9 | 4 => 4 | 171 => 242 | 0 => 0 | 53 => 125 | 37 => 106 | 5 => 5 | 173 => 245 | 212 => 274 | 51 => 275 | 20 => 20 | 213 => 276 | 46 => 204 | 232 => 306 | 233 => 307 | n => n, fun n => match n with | 17 => 0 | 18 => 4 | 19 => 5 | n => n⟩
theorem formatM : LaysM.n173 Tryz.prog formatM_ren where
  mixed := by kernel_rfl
  f129 := Tryz.func183.trans (congrArg some (by kernel_rfl))
  f173 := Tryz.func60.trans (congrArg some (by kernel_rfl))
  f246 := Tryz.func102.trans (congrArg some (by kernel_rfl))
  f283 := Tryz.func145.trans (congrArg some (by kernel_rfl))
  f284 := Tryz.func146.trans (congrArg some (by kernel_rfl))
  f285 := Tryz.func147.trans (congrArg some (by kernel_rfl))
  f286 := Tryz.func148.trans (congrArg some (by kernel_rfl))
  f317 := Tryz.func182.trans (congrArg some (by kernel_rfl))
  f318 := Tryz.func184.trans (congrArg some (by kernel_rfl))
  f319 := Tryz.func185.trans (congrArg some (by kernel_rfl))
  f320 := Tryz.func186.trans (congrArg some (by kernel_rfl))
  f337 := Tryz.func210.trans (congrArg some (by kernel_rfl))
  f338 := Tryz.func211.trans (congrArg some (by kernel_rfl))
  t0 := Tryz.underlying0
  a0 := Tryz.isAgg0
  z0 := Tryz.sizeOf0
  v0 := Tryz.zeroValue0
  t2 := Tryz.underlying2
  a2 := Tryz.isAgg2
  z2 := Tryz.sizeOf2
  v2 := Tryz.zeroValue2
  t3 := Tryz.underlying3
  a3 := Tryz.isAgg3
  z3 := Tryz.sizeOf3
  v3 := Tryz.zeroValue3
  t4 := Tryz.underlying4
  a4 := Tryz.isAgg4
  z4 := Tryz.sizeOf4
  v4 := Tryz.zeroValue4
  t5 := Tryz.underlying5
  a5 := Tryz.isAgg5
  z5 := Tryz.sizeOf5
  v5 := Tryz.zeroValue5
  t9 := Tryz.underlying9
  a9 := Tryz.isAgg9
  z9 := Tryz.sizeOf9
  v9 := Tryz.zeroValue9
  t20 := Tryz.underlying20
  a20 := Tryz.isAgg20
  z20 := Tryz.sizeOf20
  v20 := Tryz.zeroValue20
  t37 := Tryz.underlying106
  a37 := Tryz.isAgg106
  z37 := Tryz.sizeOf106
  v37 := Tryz.zeroValue106
  t46 := Tryz.underlying204
  a46 := Tryz.isAgg204
  z46 := Tryz.sizeOf204
  v46 := Tryz.zeroValue204
  t51 := Tryz.underlying275
  a51 := Tryz.isAgg275
  z51 := Tryz.sizeOf275
  v51 := Tryz.zeroValue275
  t53 := Tryz.underlying125
  a53 := Tryz.isAgg125
  z53 := Tryz.sizeOf125
  v53 := Tryz.zeroValue125
  t171 := Tryz.underlying242
  a171 := Tryz.isAgg242
  z171 := Tryz.sizeOf242
  v171 := Tryz.zeroValue242
  t173 := Tryz.underlying245
  a173 := Tryz.isAgg245
  z173 := Tryz.sizeOf245
  v173 := Tryz.zeroValue245
  t212 := Tryz.underlying274
  a212 := Tryz.isAgg274
  z212 := Tryz.sizeOf274
  v212 := Tryz.zeroValue274
  t213 := Tryz.underlying276
  a213 := Tryz.isAgg276
  z213 := Tryz.sizeOf276
  t232 := Tryz.underlying306
  a232 := Tryz.isAgg306
  z232 := Tryz.sizeOf306
  v232 := Tryz.zeroValue306
  t233 := Tryz.underlying307
  a233 := Tryz.isAgg307
  z233 := Tryz.sizeOf307
  v233 := Tryz.zeroValue307
  g17 := by kernel_rfl
  g18 := by kernel_rfl
  g19 := by kernel_rfl
  i0 := by kernel_rfl
  i2 := by kernel_rfl
  i3 := by kernel_rfl
  i4 := by kernel_rfl
  i5 := by kernel_rfl
  i9 := by kernel_rfl
  i20 := by kernel_rfl
  i37 := by kernel_rfl
  i46 := by kernel_rfl
  i51 := by kernel_rfl
  i53 := by kernel_rfl
  i171 := by kernel_rfl
  i173 := by kernel_rfl
  i212 := by kernel_rfl
  i232 := by kernel_rfl
  i233 := by kernel_rfl
  m17 := by kernel_rfl
  m18 := by kernel_rfl
  m19 := by kernel_rfl
end Go.Proofs.YtfhalebbcbgbdaaGreatDoor
namespace Go.Proofs.YtfhalebbcbgbdaaGreatDoor
open Go.H Go.Proofs Go.Lib
open Go.RowKit (Below)
set_option linter.unusedSimpArgs false
set_option linter.unusedVariables false
set_option synthInstance.maxSize 100000
set_option synthInstance.maxHeartbeats 400000
abbrev TF (h0 : Heap) : Prop := ∃ t f, h0[0]? = some (.cells (pow10Tab.map fun z => Value.int .u64 z).toArray t f)
variable {h h0 : Heap} {R : List Asn}
theorem Format_spec (hs : sat h (old h0 :: R)) (ht : TF h0) {n : Nat} (hn : n ≤ 9223372036854775807) {Q : Value → Heap → Prop} (hq : ∀ h', sat h' (old h0 :: R) → Q (.string (decS n)) h') :
    HCalls Tryz.prog 60 #[.int .i64 n, .int .i64 10] h Q :=
  calls_below hs (fun w hw => by
    obtain ⟨t, f, hp⟩ := ht
    have hg := hs.old_get hp
    have htab : TabIs Tryz.prog w "internal/strconv.uint64pow10" .u64 pow10Tab := by
      unfold TabIs World.var?
      rw [show Tryz.prog.globalNamed "internal/strconv.uint64pow10" = some 0 by kernel_rfl]
      simp only [Option.bind_some]
      rw [hw, hg]
    refine (Any.strconv_FormatInt_10 formatM n (by omega) (by omega) w htab).mono ?_
    rintro e w' ⟨rfl, k, os, rfl⟩
    refine ⟨?_, ⟨rfl, rfl, rfl, by show w.heap.size ≤ (w.heap ++ os).size; rw [Array.size_append]; omega, fun j hj => by show (w.heap ++ os)[j]? = _; rw [Array.getElem?_append_left hj]⟩⟩
    rw [itoa_nonneg]) hq
theorem Text_spec (hs : sat h (old h0 :: R)) (ht : TF h0) {a b c d : Int} {Q : Value → Heap → Prop} (hq : ∀ h', sat h' (old h0 :: R) → Q (.string (labelText a b c d)) h') :
    HCalls Tryz.prog 29 #[.agg #[.int .i64 a, .int .i64 b, .int .i64 c, .int .i64 d]] h Q := by
  by_cases hg : goodLabel a b c d
  · obtain ⟨⟨ha0, ha1, hb0, hb1⟩, hc0, hc1, hd0, hd1⟩ := id hg
    simp only at ha0 ha1 hb0 hb1
    obtain ⟨a, rfl⟩ := Int.eq_ofNat_of_zero_le ha0
    obtain ⟨b, rfl⟩ := Int.eq_ofNat_of_zero_le (show 0 ≤ b by omega)
    obtain ⟨c, rfl⟩ := Int.eq_ofNat_of_zero_le hc0
    obtain ⟨d, rfl⟩ := Int.eq_ofNat_of_zero_le hd0
    have hsz := text_size hg
    unfold labelText at hq hsz
    rw [if_pos hg] at hq hsz
    refine Text_of (F := decS b) hs hg (fun X h Q hs' hq' => Format_spec (hs'.re [1, 0]) ht (by omega) fun h' hs'' => hq' h' (hs''.re [1, 0])) ?_ hq
    exact Nat.le_trans hsz (by decide)
  · unfold labelText at hq
    rw [if_neg hg] at hq
    exact Text_bad hs hg hq
end Go.Proofs.YtfhalebbcbgbdaaGreatDoor
namespace Go.Proofs.YtfhalebbcbgbdaaGreatDoor
open Go.H Go.Proofs Go.Lib
set_option linter.unusedSimpArgs false
set_option linter.unusedVariables false
set_option synthInstance.maxSize 100000
set_option synthInstance.maxHeartbeats 400000
variable {h : Heap} {R : List Asn}
theorem rgood_spec (hs : sat h R) {a b : Int} {Q : Value → Heap → Prop} (hq : ∀ h', sat h' R → Q (.bool (decide (goodTag (a, b)))) h') :
    HCalls Tryz.prog 106 #[.agg #[.int .i64 a, .int .i64 b]] h Q := by
  refine ref16_Good_calls (a, b, ()) h Q ?_
  unfold ref16_Good
  refine new_cells hs fun tb h1 hs1 => ?_
  have c0 : cellH h1 ⟨tb, 0, none⟩ = some (.int .i64 a) := hs1.cell 0
  have c1 : cellH h1 ⟨tb, 1, none⟩ = some (.int .i64 b) := hs1.cell 1
  have hq' := hq h1 hs1.drop
  refine bind_cut (fun x h' => h' = h1 ∧ x.1 = decide (goodTag (a, b))) ?_ ?_
  · unfold goodTag
    by_cases g1 : 0 ≤ a <;> by_cases g2 : a < 8 <;> by_cases g3 : 1 ≤ b <;> by_cases g4 : b ≤ 9007199254740992 <;> simp [add_own, c0, c1, g1, g2, show (0 < b) ↔ 1 ≤ b from Iff.rfl, g3, g4] <;> omega
  · rintro ⟨x, ⟨⟩⟩ h2 ⟨rfl, hx⟩
    simp only at hx
    subst hx
    exact hq'
theorem rlgood_spec (hs : sat h R) {a b c d : Int} {Q : Value → Heap → Prop} (hq : ∀ h', sat h' R → Q (.bool (decide (goodLabel a b c d))) h') :
    HCalls Tryz.prog 64 #[.agg #[.int .i64 a, .int .i64 b, .int .i64 c, .int .i64 d]] h Q := by
  refine ref16_goodLabel_calls (a, b, c, d, ()) h Q ?_
  unfold ref16_goodLabel
  refine new_cells hs fun tb h1 hs1 => ?_
  refine loadN_of (ts := [.int .i64, .int .i64]) (a, b, ()) (fun j v hv => ?_) ?_
  · rw [add_own, add_own, hs1.cell]
    match j, hv with
    | 0, hv => exact hv
    | 1, hv => exact hv
    | j + 2, hv => cases (show (none : Option Value) = some v from hv)
  refine bind_call1 (rgood_spec hs1 fun h2 hs2 => ⟨decide (goodTag (a, b)), rfl, ?_⟩)
  refine bind_cut (fun x h' => sat h' R ∧ x.1 = decide (goodLabel a b c d)) ?_ ?_
  · have c2 : cellH h2 ⟨tb, 2, none⟩ = some (.int .i64 c) := hs2.cell 2
    have c3 : cellH h2 ⟨tb, 3, none⟩ = some (.int .i64 d) := hs2.cell 3
    have hR := hs2.drop
    unfold goodLabel
    by_cases g0 : goodTag (a, b) <;> by_cases g1 : 0 ≤ c <;> by_cases g2 : c ≤ 32 <;> by_cases g3 : 0 ≤ d <;> by_cases g4 : d ≤ 2 <;> simp [add_own, c2, c3, g0, g1, g2, g3, show (d < 3) ↔ d ≤ 2 by omega, g4] <;> first | exact hR | exact ⟨hR, by omega⟩
  · rintro ⟨x, ⟨⟩⟩ h2 ⟨hs2, hx⟩
    simp only at hx
    subst hx
    exact hq h2 hs2
theorem bytes_one {k : Nat} (hk : k < 10) : bytesOfInts [IntKind.wrap .u8 (IntKind.wrap .i64 (48 + (k : Int)))] = ByteArray.mk #[UInt8.ofNat (48 + k)] := by
  have e1 : IntKind.wrap .i64 (48 + (k : Int)) = 48 + (k : Int) := wrap_id (by omega) (by omega)
  have e2 : IntKind.wrap .u8 (48 + (k : Int)) = ((48 + k : Nat) : Int) := by
    simp [IntKind.wrap, IntKind.bits, IntKind.signed]; omega
  rw [e1, e2]
  show ByteArray.empty.push (UInt8.ofNat (((48 + k : Nat) : Int).toNat)) = _
  rw [Int.toNat_natCast]
  rfl
set_option maxRecDepth 100000 in
theorem Decimal_spec (hs : sat h R) {n : Nat} (hn : n ≤ 9223372036854775807) {Q : Value → Heap → Prop} (hq : ∀ h', sat h' R → Q (.string (decS n)) h') :
    HCalls Tryz.prog 72 #[.int .i64 n] h Q := by
  refine ref16_Decimal_calls n h Q ?_
  unfold ref16_Decimal
  have hlen : (decDigits n).length ≤ 20 := dec_len 19 n (by omega)
  refine loop_gx (γ := Nat × List UInt8) (hb := fun s => by
    repeat' with_reducible first
      | refine @mono_bind _ _ _ _ ?_ (fun _ => ?_)
      | refine @mono_ite _ _ _ _ ?_ ?_
      | refine @mono_req _ _ _ ?_
    all_goals infer_instance)
    (fun g c h' => c.1 = ByteArray.mk g.2.toArray ∧ c.2.1 = (g.1 : Int) ∧ g.1 ≤ n ∧ ((g.2 = [] ∧ g.1 = n) ∨ (g.2 ≠ [] ∧ decDigits n = (if g.1 = 0 then [] else decDigits g.1) ++ g.2)) ∧ sat h' R)
    (fun g => g.1 + (if g.2 = [] then 1 else 0)) (n, []) ⟨rfl, rfl, Nat.le_refl _, .inl ⟨rfl, rfl⟩, hs⟩ ?_
  rintro ⟨m, t⟩ ⟨c1, c2, ⟨⟩⟩ h1 ⟨e1, e2, hm, hrel, hs1⟩
  simp only at e1 e2 hm hrel
  subst e1 e2
  have htl : t.length ≤ 20 := by
    rcases hrel with ⟨rfl, -⟩ | ⟨-, e⟩
    · simp
    · have := congrArg List.length e
      simp only [List.length_append] at this
      omega
  have hte : ByteArray.mk t.toArray = ByteArray.mk #[] ↔ t = [] := by
    constructor
    · intro h
      have := congrArg (fun b : ByteArray => b.data.toList) h
      simpa using this
    · rintro rfl; rfl
  refine bind_cut (fun x h' => h' = h1 ∧ (x.1 = true ↔ (0 < m ∨ t = []))) ?_ ?_
  · by_cases g : 0 < m
    · simp [g]
    · simp [g, hte]
  rintro ⟨x, ⟨⟩⟩ h2 ⟨rfl, hx⟩
  simp only at hx
  rw [HM.ite_apply]
  by_cases g : 0 < m ∨ t = []
  · rw [if_pos (hx.2 g)]
    refine ⟨by decide, ?_⟩
    refine new_cells hs1 fun b h3 hs3 => ?_
    have htm : Int.tmod (m : Int) 10 = ((m % 10 : Nat) : Int) := by
      rw [Int.tmod_eq_emod_of_nonneg (by omega)]; omega
    have htd : Int.tdiv (m : Int) 10 = ((m / 10 : Nat) : Int) := by
      rw [Int.tdiv_eq_ediv_of_nonneg (by omega)]; omega
    refine ⟨[IntKind.wrap .u8 (IntKind.wrap .i64 (48 + (Int.tmod (m : Int) 10)))], hs3.reads rfl, ?_⟩
    rw [htm, bytes_one (Nat.mod_lt _ (by decide)), htd]
    refine ⟨?_, by decide, ?_⟩
    · show 1 + t.toArray.size ≤ _
      simp; omega
    · have hcat : ByteArray.mk #[UInt8.ofNat (48 + m % 10)] ++ ByteArray.mk t.toArray = ByteArray.mk (UInt8.ofNat (48 + m % 10) :: t).toArray := by
        refine bytes_inj ?_
        simp
      have hdm : decDigits m = (if m / 10 = 0 then [] else decDigits (m / 10)) ++ [UInt8.ofNat (48 + m % 10)] := by
        rw [decDigits]
        split
        · rename_i hlt
          rw [if_pos (by omega), Nat.mod_eq_of_lt hlt]
          rfl
        · rename_i hge
          rw [if_neg (by omega)]
      rw [HM.pure_apply]
      refine .mk (m / 10, UInt8.ofNat (48 + m % 10) :: t) ?_ ⟨hcat, ?_, by simp only []; omega, .inr ⟨by simp, ?_⟩, hs3.drop⟩
      · simp only [List.cons_ne_nil, if_false]
        rcases g with g | g
        · split <;> omega
        · rw [if_pos g]; omega
      · simp only []
        rw [wrap_id (by omega) (by omega)]
      · simp only []
        rcases hrel with ⟨rfl, rfl⟩ | ⟨hne, e⟩
        · exact hdm
        · have hm0 : m ≠ 0 := by rcases g with g | g; omega; exact absurd g hne
          rw [e, if_neg hm0, hdm, List.append_assoc]
          rfl
  · rw [if_neg (fun hh => g (hx.1 hh)), HM.pure_apply]
    have hm0 : m = 0 := by omega
    have htn : t ≠ [] := fun e => g (.inr e)
    rcases hrel with ⟨e, -⟩ | ⟨-, e⟩
    · exact absurd e htn
    · rw [if_pos hm0, List.nil_append] at e
      have := hq h2 hs1
      unfold decS at this
      rw [e] at this
      exact this
theorem rText_spec (hs : sat h R) {a b c d : Int} {Q : Value → Heap → Prop} (hq : ∀ h', sat h' R → Q (.string (labelText a b c d)) h') :
    HCalls Tryz.prog 41 #[.agg #[.int .i64 a, .int .i64 b, .int .i64 c, .int .i64 d]] h Q := by
  refine ref16_Text_calls (a, b, c, d, ()) h Q ?_
  unfold ref16_Text
  refine new_cells hs fun tb h1 hs1 => ?_
  refine loadN_cells (ts := [.int .i64, .int .i64, .int .i64, .int .i64]) (a, b, c, d, ()) hs1 rfl ?_
  refine bind_call1 (rlgood_spec hs1 fun h2 hs2 => ⟨_, rfl, ?_⟩)
  (try dsimp only); rw [HM.ite_apply]
  by_cases hg : goodLabel a b c d
  case neg =>
    rw [if_pos (by simp [hg])]
    have := hq h2 hs2.drop
    unfold labelText at this
    rw [if_neg hg] at this
    exact this
  rw [if_neg (by simp [hg])]
  obtain ⟨⟨ha0, ha1, hb0, hb1⟩, hc0, hc1, hd0, hd1⟩ := id hg
  simp only at ha0 ha1 hb0 hb1
  obtain ⟨a, rfl⟩ := Int.eq_ofNat_of_zero_le ha0
  obtain ⟨b, rfl⟩ := Int.eq_ofNat_of_zero_le (show 0 ≤ b by omega)
  obtain ⟨c, rfl⟩ := Int.eq_ofNat_of_zero_le hc0
  obtain ⟨d, rfl⟩ := Int.eq_ofNat_of_zero_le hd0
  have hC : ∀ {h' : Heap} {R : List Asn}, sat h' (cells tb #[.int .i64 a, .int .i64 b, .int .i64 c, .int .i64 d] :: R) →
      cellH h' ⟨tb, 0, none⟩ = some (.int .i64 a) ∧ cellH h' ⟨tb, 1, none⟩ = some (.int .i64 b) ∧ cellH h' ⟨tb, 2, none⟩ = some (.int .i64 c) ∧ cellH h' ⟨tb, 3, none⟩ = some (.int .i64 d) :=
    fun hs' => ⟨hs'.cell 0, hs'.cell 1, hs'.cell 2, hs'.cell 3⟩
  refine ⟨a, by rw [add_own, add_own]; exact (hC hs2).1, ?_⟩
  refine bind_call1 (Decimal_spec hs2 (by omega) fun h3 hs3 => ⟨decS a, rfl, ?_⟩)
  refine ⟨b, by rw [add_own, add_own]; exact (hC hs3).2.1, ?_⟩
  refine bind_call1 (Decimal_spec hs3 (by omega) fun h4 hs4 => ⟨decS b, rfl, ?_⟩)
  refine ⟨c, by rw [add_own]; exact (hC hs4).2.2.1, ?_⟩
  refine bind_call1 (Decimal_spec hs4 (by omega) fun h5 hs5 => ⟨decS c, rfl, ?_⟩)
  refine ⟨d, by rw [add_own]; exact (hC hs5).2.2.2, ?_⟩
  refine bind_call1 (Decimal_spec hs5 (by omega) fun h6 hs6 => ⟨decS d, rfl, ?_⟩)
  have l1 : (decS a).size ≤ 20 := by have := dec_len 19 a (by omega); simpa [decS, ByteArray.size] using this
  have l2 : (decS b).size ≤ 20 := by have := dec_len 19 b (by omega); simpa [decS, ByteArray.size] using this
  have l3 : (decS c).size ≤ 20 := by have := dec_len 19 c (by omega); simpa [decS, ByteArray.size] using this
  have l4 : (decS d).size ≤ 20 := by have := dec_len 19 d (by omega); simpa [decS, ByteArray.size] using this
  have ld : (ByteArray.mk #[46]).size = 1 := rfl
  dsimp only
  refine ⟨?_, ?_, ?_, ?_, ?_, ?_, ?_⟩
  iterate 6 (simp only [ByteArray.size_append, ld]; omega)
  have := hq h6 hs6.drop
  unfold labelText at this
  rw [if_pos hg] at this
  have e : decS a ++ ByteArray.mk #[46] ++ decS b ++ ByteArray.mk #[46] ++ decS c ++ ByteArray.mk #[46] ++ decS d = textOf ((a : Int).toNat) (decS ((b : Int).toNat)) ((c : Int).toNat) ((d : Int).toNat) := by
    refine bytes_inj ?_
    simp [textOf, join_cons, joinTail]
  rw [← e] at this
  exact this
end Go.Proofs.YtfhalebbcbgbdaaGreatDoor
namespace Go.Proofs.YtfhalebbcbgbdaaGreatDoor
open Go.H Go.Proofs
set_option linter.unusedSimpArgs false
set_option linter.unusedVariables false
set_option maxRecDepth 100000
variable {h h0 : Heap} {L L' R : List Asn} {Q : Value → Heap → Prop}
def PkRows (k : IntKind) (h0 : Heap) (s : Slc) (os : List PkO) : Prop := ∃ T : List (Slc × Slc × PkO), T.map (·.2.2) = os ∧ RowAt (encPkK k) 26 h0 s (T.map pkF) ∧
  ∀ t ∈ T, RowAt (eKd k) 1 h0 t.1 t.2.2.codes ∧ RowAt encPr 4 h0 t.2.1 t.2.2.props
theorem pks_rows {k : IntKind} {s : Slc} {os : List PkO} (hs : sat h (pksA k s os :: R)) : PkRows k h s os := by
  obtain ⟨T, hT, hs1⟩ := pks_iff.1 hs
  refine ⟨T, hT, hs1.own_row (ePkK_len k), fun t ht => ?_⟩
  obtain ⟨R', hs2⟩ := bigA_mem ht hs1.p1
  have hs3 := pkB_iff.1 hs2
  exact ⟨hs3.own_row (eKd_len k), hs3.p1.own_row ePr_len⟩
theorem PkRows.nil (k : IntKind) : PkRows k h0 ⟨none, 0, 0⟩ [] := ⟨[], rfl, RowAt.nil, by simp⟩
theorem PkRows.len {k : IntKind} {s : Slc} {os : List PkO} (hp : PkRows k h0 s os) : s.len = os.length := by
  obtain ⟨T, rfl, h1, -⟩ := hp
  rw [h1.1]; simp
structure PkFit (o : PkO) : Prop where
  code : 0 ≤ o.code ∧ o.code < 256
  codes : ∀ c ∈ o.codes, 0 ≤ c ∧ c < 256
  len1 : o.codes.length ≤ 1000000
  len2 : o.props.length ≤ 1000000
theorem sameMs_w {s1 s2 : Slc} {ms : List MsT} (h1 : RowAt encM 5 h0 s1 ms) (h2 : RowAt encM 5 h0 s2 ms) (hl : ms.length ≤ 1000000) (hq : At [old h0] (Q (.bool true))) :
    FW Tryz.prog 15 #[.slice s1.a s1.len s1.cap, .slice s2.a s2.len s2.cap] [old h0] Q := by
  refine fun h hs => law23_sameMessages_calls s1 s2 h Q ((?_ : W [old h0] _ _) h hs)
  clear hs h
  unfold law23_sameMessages
  refine W.ff (by rw [h1.1, h2.1]; simp) ?_
  refine W.for ms.length (fun i x => x.1 = (i : Int)) (fun i x => [old h0]) rfl Sub.rfl (fun i x hi hI => by rw [hI, h1.1]; exact decide_eq_decide.2 (by omega)) ?_ ?_
  · rintro ⟨_, ⟨⟩⟩ hI K hd
    exact W.pure (hd _ _ (W.inl (W.pure hq)))
  · rintro i ⟨_, ⟨⟩⟩ hlt hI K hnx hd
    simp only at hI
    subst hI
    have hy := List.getElem?_eq_getElem hlt
    refine W.idxo h1 hlt fun a ha => W.loadoN h1 ha hy (W.idxo h2 hlt fun a2 ha2 => W.loadoN h2 ha2 hy ?_)
    refine W.ff (by simp only [beq_self_eq_true, Bool.not_true, decide_true, Bool.and_true, Bool.and_self]) (W.pure (hnx _ ?_))
    simp only; rw [wrap_id (by omega) (by omega)]; rfl
theorem samePk_w {s1 s2 : Slc} {os : List PkO} (h1 : PkRows .u8 h0 s1 os) (h2 : PkRows .i64 h0 s2 os) (hl : os.length ≤ 1000000) (hf : ∀ o ∈ os, PkFit o) (hq : At [old h0] (Q (.bool true))) :
    FW Tryz.prog 25 #[.slice s1.a s1.len s1.cap, .slice s2.a s2.len s2.cap] [old h0] Q := by
  refine fun h hs => law23_samePackets_calls s1 s2 h Q ((?_ : W [old h0] _ _) h hs)
  clear hs h
  have l1 := h1.len
  have l2 := h2.len
  obtain ⟨T, hT, r1, rr1⟩ := h1
  obtain ⟨U, hU, r2, rr2⟩ := h2
  have hmem : ∀ t ∈ T, PkFit t.2.2 := fun t ht => hf _ (by have := List.mem_map_of_mem (f := fun t : Slc × Slc × PkO => t.2.2) ht; rw [hT] at this; exact this)
  have lT : T.length = os.length := by rw [← hT]; simp
  have lU : U.length = os.length := by rw [← hU]; simp
  unfold law23_samePackets
  refine W.ff (by rw [l1, l2]; simp) ?_
  refine W.for os.length (fun i x => x.1 = (i : Int)) (fun i x => [old h0]) rfl Sub.rfl (fun i x hi hI => by rw [hI, l1]; exact decide_eq_decide.2 (by omega)) ?_ ?_
  · rintro ⟨_, ⟨⟩⟩ hI K hd
    exact W.pure (hd _ _ (W.inl (W.pure hq)))
  · rintro i ⟨_, ⟨⟩⟩ hlt hI K hnx hd
    simp only at hI
    subst hI
    have hyT : T[i]? = some T[i] := List.getElem?_eq_getElem (by omega)
    have hyU : U[i]? = some U[i] := List.getElem?_eq_getElem (by omega)
    have k1 := rr1 _ (List.mem_of_getElem? hyT)
    have k2 := rr2 _ (List.mem_of_getElem? hyU)
    have e1 : T[i].2.2 = U[i].2.2 := by
      have g1 := congrArg (fun l => l[i]?) hT
      have g2 := congrArg (fun l => l[i]?) hU
      simp only [List.getElem?_map, hyT, hyU, Option.map_some] at g1 g2
      rw [← g2] at g1
      exact Option.some.inj g1
    have hfo : PkFit T[i].2.2 := hmem _ (List.mem_of_getElem? hyT)
    have hy1 : (T.map pkF)[i]? = some (pkF T[i]) := by rw [List.getElem?_map, hyT]; rfl
    have hy2 : (U.map pkF)[i]? = some (pkF U[i]) := by rw [List.getElem?_map, hyU]; rfl
    generalize T[i] = t at hy1 k1 e1 hfo
    generalize U[i] = u at hy2 k2 e1
    obtain ⟨c1, p1, o⟩ := t
    obtain ⟨c2, p2, o2⟩ := u
    simp only at e1 k1 k2 hfo
    subst e1
    obtain ⟨kc1, kp1⟩ := k1
    obtain ⟨kc2, kp2⟩ := k2
    have lc1 := kc1.1
    have lc2 := kc2.1
    have lp1 := kp1.1
    have lp2 := kp2.1
    have f1 := hfo.len1
    have f2 := hfo.len2
    refine W.idxo r1 (by rw [List.length_map]; omega) fun a ha => W.loadoN (v := pkT o c1 p1) r1 ha hy1 (W.idxo r2 (by rw [List.length_map]; omega) fun a2 ha2 => W.loadoN (v := pkT o c2 p2) r2 ha2 hy2 ?_)
    refine W.both ?_ ?_
    all_goals
      iterate 2
        refine W.newc fun _ => ?_
        refine W.loadoN (v := pkT o c2 p2) r2 ha2 hy2 (W.req ?_ rfl)
        refine W.loadoN (v := pkT o c1 p1) r1 ha hy1 (W.req ?_ rfl)
      refine W.storeN ?_
      refine W.loadoN (v := pkT o c2 p2) r2 ha2 hy2 (W.req ?_ rfl)
      refine W.storeN ?_
      repeat (first | refine W.bpure ?_ | refine W.bbind ?_ | refine W.newc fun _ => ?_ | refine W.load ?_ | refine W.load0 ?_ | (refine W.loadN ?_; try dsimp only) | (refine W.loadNo ?_; try dsimp only) | refine W.storeN ?_ | refine W.store ?_ | refine W.store0 ?_ | refine W.req ?_ rfl | refine W.bt rfl ?_ | refine W.bf rfl ?_ | refine W.tt rfl ?_ | refine W.ff rfl ?_ | refine W.inl ?_ | refine W.inr ?_ | refine W.nonnil ?_ | refine W.bf (Go.H.nbq _) ?_ | refine W.ff (Go.H.nbq _) ?_ | refine W.bf (Go.H.nbd rfl) ?_ | refine W.ff (Go.H.nbd rfl) ?_)
      refine W.bf (by show (!(IntKind.wrap .i64 o.code == o.code)) = false; rw [wrap_id (by have := hfo.code; omega) (by have := hfo.code; omega)]; simp) ?_
      repeat (first | refine W.bpure ?_ | refine W.bbind ?_ | refine W.newc fun _ => ?_ | refine W.load ?_ | refine W.load0 ?_ | (refine W.loadN ?_; try dsimp only) | (refine W.loadNo ?_; try dsimp only) | refine W.storeN ?_ | refine W.store ?_ | refine W.store0 ?_ | refine W.req ?_ rfl | refine W.bt rfl ?_ | refine W.bf rfl ?_ | refine W.tt rfl ?_ | refine W.ff rfl ?_ | refine W.inl ?_ | refine W.inr ?_ | refine W.nonnil ?_ | refine W.bf (Go.H.nbq _) ?_ | refine W.ff (Go.H.nbq _) ?_ | refine W.bf (Go.H.nbd rfl) ?_ | refine W.ff (Go.H.nbd rfl) ?_)
      refine W.bf (by show (!(((p1.len : Nat) : Int) == ((p2.len : Nat) : Int))) = false; rw [lp1, lp2]; simp) ?_
      repeat (first | refine W.bpure ?_ | refine W.bbind ?_ | refine W.newc fun _ => ?_ | refine W.load ?_ | refine W.load0 ?_ | (refine W.loadN ?_; try dsimp only) | (refine W.loadNo ?_; try dsimp only) | refine W.storeN ?_ | refine W.store ?_ | refine W.store0 ?_ | refine W.req ?_ rfl | refine W.bt rfl ?_ | refine W.bf rfl ?_ | refine W.tt rfl ?_ | refine W.ff rfl ?_ | refine W.inl ?_ | refine W.inr ?_ | refine W.nonnil ?_ | refine W.bf (Go.H.nbq _) ?_ | refine W.ff (Go.H.nbq _) ?_ | refine W.bf (Go.H.nbd rfl) ?_ | refine W.ff (Go.H.nbd rfl) ?_)
      refine W.bf (by show (!(((c1.len : Nat) : Int) == ((c2.len : Nat) : Int))) = false; rw [lc1, lc2]; simp) ?_
      repeat (first | refine W.bpure ?_ | refine W.bbind ?_ | refine W.newc fun _ => ?_ | refine W.load ?_ | refine W.load0 ?_ | (refine W.loadN ?_; try dsimp only) | (refine W.loadNo ?_; try dsimp only) | refine W.storeN ?_ | refine W.store ?_ | refine W.store0 ?_ | refine W.req ?_ rfl | refine W.bt rfl ?_ | refine W.bf rfl ?_ | refine W.tt rfl ?_ | refine W.ff rfl ?_ | refine W.inl ?_ | refine W.inr ?_ | refine W.nonnil ?_ | refine W.bf (Go.H.nbq _) ?_ | refine W.ff (Go.H.nbq _) ?_ | refine W.bf (Go.H.nbd rfl) ?_ | refine W.ff (Go.H.nbd rfl) ?_)
      refine W.for o.props.length (fun i x => x.1 = (i : Int)) (fun i x => _) rfl Sub.rfl (fun i x hi hI => by rw [hI]; simp only [lp1]; exact decide_eq_decide.2 (by omega)) ?_ ?_
      · rintro ⟨_, ⟨⟩⟩ hI2 K2 hd2
        refine W.pure (hd2 _ _ ?_)
        repeat (first | refine W.bpure ?_ | refine W.bbind ?_ | refine W.newc fun _ => ?_ | refine W.load ?_ | refine W.load0 ?_ | (refine W.loadN ?_; try dsimp only) | (refine W.loadNo ?_; try dsimp only) | refine W.storeN ?_ | refine W.store ?_ | refine W.store0 ?_ | refine W.req ?_ rfl | refine W.bt rfl ?_ | refine W.bf rfl ?_ | refine W.tt rfl ?_ | refine W.ff rfl ?_ | refine W.inl ?_ | refine W.inr ?_ | refine W.nonnil ?_ | refine W.bf (Go.H.nbq _) ?_ | refine W.ff (Go.H.nbq _) ?_ | refine W.bf (Go.H.nbd rfl) ?_ | refine W.ff (Go.H.nbd rfl) ?_)
        refine W.for o.codes.length (fun i x => x.1 = (i : Int)) (fun i x => _) rfl Sub.rfl (fun i x hi hI => by rw [hI]; simp only [lc1]; exact decide_eq_decide.2 (by omega)) ?_ ?_
        · rintro ⟨_, ⟨⟩⟩ hI3 K3 hd3
          refine W.pure (hd3 _ _ (W.inl (W.pure ((hnx _ ?_).sub))))
          simp only; rw [wrap_id (by omega) (by omega)]; rfl
        · rintro j ⟨_, ⟨⟩⟩ hlj hI3 K3 hnx3 hd3
          simp only at hI3
          subst hI3
          have hyj := List.getElem?_eq_getElem hlj
          have hcj := hfo.codes _ (List.getElem_mem hlj)
          refine W.load ?_
          refine W.idxo kc1 hlj fun a ha => W.loado0 kc1 ha hyj ?_
          refine W.load ?_
          refine W.idxo kc2 hlj fun a2 ha2 => W.loado0 kc2 ha2 hyj ?_
          refine W.ff (by rw [wrap_id (by omega) (by omega)]; simp only [beq_self_eq_true, Bool.not_true, decide_true, Bool.and_true, Bool.and_self]) (W.pure (hnx3 _ ?_))
          simp only; rw [wrap_id (by omega) (by omega)]; rfl
      · rintro j ⟨_, ⟨⟩⟩ hlj hI2 K2 hnx2 hd2
        simp only at hI2
        subst hI2
        have hyj := List.getElem?_eq_getElem hlj
        refine W.load ?_
        refine W.idxo kp1 hlj fun a ha => W.loadoN kp1 ha hyj ?_
        refine W.load ?_
        refine W.idxo kp2 hlj fun a2 ha2 => W.loadoN kp2 ha2 hyj ?_
        refine W.ff (by simp only [beq_self_eq_true, Bool.not_true, decide_true, Bool.and_true, Bool.and_self]) (W.pure (hnx2 _ ?_))
        simp only; rw [wrap_id (by omega) (by omega)]; rfl
end Go.Proofs.YtfhalebbcbgbdaaGreatDoor
namespace Go.Proofs.YtfhalebbcbgbdaaGreatDoor
open Go.H Go.Proofs
set_option linter.unusedSimpArgs false
set_option linter.unusedVariables false
set_option maxRecDepth 100000
variable {h h0 : Heap} {L L' L1 L2 R : List Asn} {Q : Value → Heap → Prop}
abbrev cLab (y : LabT) : Array Value := #[.int .i64 y.1, .int .i64 y.2.1, .int .i64 y.2.2.1, .int .i64 y.2.2.2]
def hopM (y : LabT) (m : MsT) (p : HopT) : MsT := (p.2.1, m.2.1, 1, m.2.2.2.1, labelText y.1 y.2.1 (y.2.2.1 + 1) p.2.2.1)
def routeB (rs : List RuleT) (y : LabT) (m : MsT) : List MsT :=
  if labelText y.1 y.2.1 y.2.2.1 y.2.2.2 = e0S ∨ 32 ≤ y.2.2.1 then [] else (routeP m.1 y.2.2.2 0 rs).map (hopM y m)
theorem route_good {y : LabT} (h : ¬ (labelText y.1 y.2.1 y.2.2.1 y.2.2.2 = e0S ∨ 32 ≤ y.2.2.1)) : goodLabel y.1 y.2.1 y.2.2.1 y.2.2.2 := by
  simp only [not_or] at h
  by_cases hg : goodLabel y.1 y.2.1 y.2.2.1 y.2.2.2
  · exact hg
  · exact absurd (by unfold labelText; rw [if_neg hg]) h.1
theorem take_snoc {α β : Type} (f : α → β) (l : List α) (i : Nat) (h : i < l.length) : (l.take (i + 1)).map f = (l.take i).map f ++ [f l[i]] := by
  rw [List.take_add_one, List.getElem?_eq_getElem h, List.map_append]; rfl
theorem take_map_len {α β : Type} (f : α → β) (l : List α) (i : Nat) : ((l.take i).map f).length ≤ l.length := by
  rw [List.length_map, List.length_take]; omega
theorem rmRoute_w {s : Slc} {rs : List RuleT} {n : ByteArray} {q : Int} (ht : TP h0) (hz : ∀ r ∈ rs, szR r) (hn : n.size ≤ bigB) (hl : rs.length ≤ 1000) (hq : ∀ S : Slc, At (ownS encHo 3 S (routeP n q 0 rs) :: ownS encRu 5 s rs :: old h0 :: L2) (Q (.slice S.a S.len S.cap)))
    (hx : Has L (ownS encRu 5 s rs) L1 := by repeat (first | with_reducible exact Go.H.has0 | apply Go.H.hasS)) (hy : Has L1 (old h0) L2 := by repeat (first | with_reducible exact Go.H.has0 | apply Go.H.hasS)) : FW Tryz.prog 28 #[.slice s.a s.len s.cap, .string n, .int .i64 q] L Q :=
  fun h hs => rmRoute_spec ((hx.then hy).s hs) ht hz hn hl fun h' S hs' => hq S h' hs'
theorem Text_w {a b c d : Int} (ht : TF h0) (hq : At (old h0 :: L') (Q (.string (labelText a b c d)))) (hx : Has L (old h0) L' := by repeat (first | with_reducible exact Go.H.has0 | apply Go.H.hasS)) :
    FW Tryz.prog 29 #[.agg #[.int .i64 a, .int .i64 b, .int .i64 c, .int .i64 d]] L Q := fun h hs => Text_spec (hx.s hs) ht fun h' hs' => hq h' hs'
theorem rText_w {a b c d : Int} (hq : At L (Q (.string (labelText a b c d)))) :
    FW Tryz.prog 41 #[.agg #[.int .i64 a, .int .i64 b, .int .i64 c, .int .i64 d]] L Q := fun h hs => rText_spec hs fun h' hs' => hq h' hs'
theorem brt_w {b : Nat} {rs : List RuleT} {o : OutS} {y : LabT} {m : MsT} (ht : TP h0) (hx : TF h0) (hz : ∀ r ∈ rs, szR r) (hl : rs.length ≤ 1000) (hm : m.1.size ≤ 1048576)
    (hq : ∀ S : Slc, At (ownS encM 5 S (routeB rs y m) :: brgA b rs o :: old h0 :: L2) (Q (.slice S.a S.len S.cap))) (hA : Has L (brgA b rs o) L1 := by repeat (first | with_reducible exact Go.H.has0 | apply Go.H.hasS)) (hO : Has L1 (old h0) L2 := by repeat (first | with_reducible exact Go.H.has0 | apply Go.H.hasS)) :
    FW Tryz.prog 16 #[at0 b, .agg (cLab y), vMs m] L Q := by
  refine fun h hs => bridge_Bridge_Route_calls (some ⟨b, 0, none⟩) (y.1, y.2.1, y.2.2.1, y.2.2.2, ()) (toU m) h Q ((?_ : W (brgA b rs o :: old h0 :: L2) _ _) h ((hA.then hO).s hs))
  clear hs h hA hO
  unfold bridge_Bridge_Route
  refine W.newc fun x1 => W.newc fun x2 => ?_
  refine W.bf rfl (W.bbind (W.loadN ?_))
  refine W.bbind (W.call1 (Text_w hx (At.un ?_)))
  refine W.cutp (fun z => z.1 = decide (labelText y.1 y.2.1 y.2.2.1 y.2.2.2 = e0S ∨ 32 ≤ y.2.2.1)) (fun _ => old h0 :: cells x2 (encM m).toArray :: cells x1 (cLab y) :: brgA b rs o :: L2) (fun K hK => ?_) (fun z hz1 => ?_)
  · refine W.ite (fun hb => W.pure ((hK (true, ()) ?_).sub)) (fun hb => ?_)
    · simp only [decide_eq_true_eq] at hb; simp [hb]
    · simp only [decide_eq_false_iff_not] at hb
      refine W.load ?_
      exact W.pure ((hK (decide (32 ≤ y.2.2.1), ()) (by simp [hb])).sub)
  unfold routeB at hq
  by_cases hc : labelText y.1 y.2.1 y.2.2.1 y.2.2.2 = e0S ∨ 32 ≤ y.2.2.1
  · rw [if_pos hc] at hq
    refine W.tt (by rw [hz1]; simpa using hc) ?_
    refine W.nils encM 5 ?_
    exact W.pure (hq ⟨none, 0, 0⟩).sub
  rw [if_neg hc] at hq
  have hg := route_good hc
  refine W.ff (by rw [hz1]; simpa using hc) ?_
  refine W.nonnil ?_
  refine W.opn2 (fun h R => brgA_iff.1) fun S ob => ?_
  refine W.load ?_
  refine W.load ?_
  refine W.load ?_
  refine W.call1 (rmRoute_w (s := S) (rs := rs) ht hz (Nat.le_trans hm (by decide)) hl fun S2 => At.un ?_)
  generalize hH : routeP m.1 y.2.2.2 0 rs = H at hq ⊢
  have hHl : H.length ≤ 1000 := by rw [← hH]; exact Nat.le_trans (routeP_len _ _ rs 0) hl
  refine W.fact (A := ownS encHo 3 S2 H) own_len' fun hS2 => ?_
  refine W.nil0 encM 5 ((H.take 0).map (hopM y m)) ?_
  refine W.for H.length (fun i x => x.2.1 = (i : Int)) (fun i x => ownS encM 5 x.1 ((H.take i).map (hopM y m)) :: ownS encHo 3 S2 H :: cells x2 (encM m).toArray :: cells x1 (cLab y) :: old h0 :: cells b #[.slice S.a S.len S.cap, at0 ob] :: ownS encRu 5 S rs :: outA ob o :: L2) rfl (by repeat (first | with_reducible exact Go.H.Sub.rfl | with_reducible exact Go.H.Sub.nil | refine Go.H.Sub.cons (by repeat (first | with_reducible exact Go.H.has0 | apply Go.H.hasS)) ?_ | refine Go.H.Sub.drop ?_))
    (fun i x hi hI => by rw [hI]; simp only [hS2]; exact decide_eq_decide.2 (by omega)) ?_ ?_
  · rintro ⟨out, _, ⟨⟩⟩ hI K hd
    dsimp only
    rw [List.take_length]
    refine W.pure (hd _ _ ?_)
    refine W.cls3 (A := brgA b rs o) (fun h hs => brgA_iff.2 ⟨S, ob, hs⟩) ?_
    exact W.pure (hq out).sub
  · rintro i ⟨out, _, ⟨⟩⟩ hlt hI K hnx hd
    simp only at hI
    subst hI
    dsimp only
    have hy := List.getElem?_eq_getElem hlt
    have hbl := take_map_len (hopM y m) H i
    rw [take_snoc _ _ _ hlt] at hnx
    generalize (H.take i).map (hopM y m) = M at hnx hbl
    generalize H[i] = p at hy hnx
    refine W.idx hlt fun a ha => ?_
    refine W.loadeN (v := p) ha hy ?_
    refine W.newc fun x16 => ?_
    refine W.storeN ?_
    refine W.loadNo ?_
    refine W.load ?_
    refine W.load ?_
    refine W.newc fun x20 => ?_
    refine W.storeN ?_
    repeat (first | refine W.bpure ?_ | refine W.bbind ?_ | refine W.newc fun _ => ?_ | refine W.load ?_ | refine W.load0 ?_ | (refine W.loadN ?_; try dsimp only) | (refine W.loadNo ?_; try dsimp only) | refine W.storeN ?_ | refine W.store ?_ | refine W.store0 ?_ | refine W.req ?_ rfl | refine W.bt rfl ?_ | refine W.bf rfl ?_ | refine W.tt rfl ?_ | refine W.ff rfl ?_ | refine W.inl ?_ | refine W.inr ?_ | refine W.nonnil ?_ | refine W.bf (Go.H.nbq _) ?_ | refine W.ff (Go.H.nbq _) ?_ | refine W.bf (Go.H.nbd rfl) ?_ | refine W.ff (Go.H.nbd rfl) ?_)
    refine W.call1 (Text_w hx (At.un ?_))
    repeat (first | refine W.bpure ?_ | refine W.bbind ?_ | refine W.newc fun _ => ?_ | refine W.load ?_ | refine W.load0 ?_ | (refine W.loadN ?_; try dsimp only) | (refine W.loadNo ?_; try dsimp only) | refine W.storeN ?_ | refine W.store ?_ | refine W.store0 ?_ | refine W.req ?_ rfl | refine W.bt rfl ?_ | refine W.bf rfl ?_ | refine W.tt rfl ?_ | refine W.ff rfl ?_ | refine W.inl ?_ | refine W.inr ?_ | refine W.nonnil ?_ | refine W.bf (Go.H.nbq _) ?_ | refine W.ff (Go.H.nbq _) ?_ | refine W.bf (Go.H.nbd rfl) ?_ | refine W.ff (Go.H.nbd rfl) ?_)
    have e : IntKind.wrap .i64 (y.2.2.1 + 1) = y.2.2.1 + 1 := wrap_id (by have := hg.2.1; omega) (by omega)
    refine W.app1b (xs := M) (hopM y m p) (fun s' => ?_) (by omega) (by repeat (first | with_reducible exact Go.H.has0 | apply Go.H.hasS)) (by repeat (first | with_reducible exact Go.H.has0 | apply Go.H.hasS)) (by show _ = (encM (hopM y m p)).toArray; simp only [hopM, e]) rfl (by decide)
    exact W.pure ((hnx (s', IntKind.wrap .i64 ((i : Int) + 1), ()) (by simp only; rw [wrap_id (by omega) (by omega)]; rfl)).sub)
def rbrgA (b : Nat) (rs : List RuleT) (o : OutS) : Asn := exA fun x : Slc × Nat => star (cells b #[.slice x.1.a x.1.len x.1.cap, at0 x.2]) (star (ownS encRu 5 x.1 rs) (routA x.2 o))
theorem rbrgA_iff {b : Nat} {rs : List RuleT} {o : OutS} : sat h (rbrgA b rs o :: R) ↔ ∃ (S : Slc) (ob : Nat), sat h (cells b #[.slice S.a S.len S.cap, at0 ob] :: ownS encRu 5 S rs :: routA ob o :: R) := by
  unfold rbrgA
  rw [sat.ex_iff]
  constructor
  · rintro ⟨⟨S, ob⟩, hs⟩
    rw [sat.star_iff] at hs
    exact ⟨S, ob, (sat.star_iff.1 hs.p1).re [2, 0, 1]⟩
  · rintro ⟨S, ob, hs⟩
    refine ⟨(S, ob), ?_⟩
    rw [sat.star_iff]
    exact (sat.star_iff.2 (hs.re [1, 2, 0])).p1
theorem rbrt_w {b : Nat} {rs : List RuleT} {o : OutS} {y : LabT} {m : MsT} (hz : ∀ r ∈ rs, szR r) (hl : rs.length ≤ 1000) (hm : m.1.size ≤ 1048576)
    (hq : ∀ S : Slc, At (ownS encM 5 S (routeB rs y m) :: rbrgA b rs o :: L1) (Q (.slice S.a S.len S.cap))) (hA : Has L (rbrgA b rs o) L1 := by repeat (first | with_reducible exact Go.H.has0 | apply Go.H.hasS)) :
    FW Tryz.prog 17 #[at0 b, .agg (cLab y), vMs m] L Q := by
  refine fun h hs => ref23_Route_calls (some ⟨b, 0, none⟩) (y.1, y.2.1, y.2.2.1, y.2.2.2, ()) (toU m) h Q ((?_ : W (rbrgA b rs o :: L1) _ _) h (hA.s hs))
  clear hs h hA
  unfold ref23_Route
  refine W.newc fun x1 => W.newc fun x2 => ?_
  refine W.loadN ?_
  refine W.call1 (rText_w (At.un ?_))
  refine W.cutp (fun z => z.1 = decide (labelText y.1 y.2.1 y.2.2.1 y.2.2.2 = e0S ∨ 32 ≤ y.2.2.1)) (fun _ => cells x2 (encM m).toArray :: cells x1 (cLab y) :: rbrgA b rs o :: L1) (fun K hK => ?_) (fun z hz1 => ?_)
  · refine W.ite (fun hb => W.pure ((hK (true, ()) ?_).sub)) (fun hb => ?_)
    · simp only [decide_eq_true_eq] at hb; simp [hb]
    · simp only [decide_eq_false_iff_not] at hb
      refine W.load ?_
      refine W.pure ((hK (y.2.2.1 == 32, ()) ?_).sub)
      have hg : goodLabel y.1 y.2.1 y.2.2.1 y.2.2.2 := by
        by_cases hg : goodLabel y.1 y.2.1 y.2.2.1 y.2.2.2
        · exact hg
        · exact absurd (by unfold labelText; rw [if_neg hg]) hb
      have h32 := hg.2.2.1
      have : (y.2.2.1 == 32) = decide (32 ≤ y.2.2.1) := by
        by_cases e : y.2.2.1 = 32
        · simp [e]
        · have : ¬ 32 ≤ y.2.2.1 := by omega
          simp [e, this]
      simp only [this]
      simp [show ¬ labelText y.1 y.2.1 y.2.2.1 y.2.2.2 = e0S from hb]
  unfold routeB at hq
  by_cases hc : labelText y.1 y.2.1 y.2.2.1 y.2.2.2 = e0S ∨ 32 ≤ y.2.2.1
  · rw [if_pos hc] at hq
    refine W.tt (by rw [hz1]; simpa using hc) ?_
    refine W.nils encM 5 ?_
    exact W.pure (hq ⟨none, 0, 0⟩).sub
  rw [if_neg hc] at hq
  have hg := route_good hc
  refine W.ff (by rw [hz1]; simpa using hc) ?_
  refine W.nonnil ?_
  refine W.opn2 (fun h R => rbrgA_iff.1) fun S ob => ?_
  refine W.load ?_
  refine W.load ?_
  refine W.load ?_
  refine W.call1 (rRoute_w (s := S) (rs := rs) hz hm hl fun S2 => At.un ?_)
  generalize hH : routeP m.1 y.2.2.2 0 rs = H at hq ⊢
  have hHl : H.length ≤ 1000 := by rw [← hH]; exact Nat.le_trans (routeP_len _ _ rs 0) hl
  refine W.fact (A := ownS encHo 3 S2 H) own_len' fun hS2 => ?_
  refine W.nil0 encM 5 ((H.take 0).map (hopM y m)) ?_
  refine W.for H.length (fun i x => x.2.1 = (i : Int)) (fun i x => ownS encM 5 x.1 ((H.take i).map (hopM y m)) :: ownS encHo 3 S2 H :: cells x2 (encM m).toArray :: cells x1 (cLab y) :: cells b #[.slice S.a S.len S.cap, at0 ob] :: ownS encRu 5 S rs :: routA ob o :: L1) rfl (by repeat (first | with_reducible exact Go.H.Sub.rfl | with_reducible exact Go.H.Sub.nil | refine Go.H.Sub.cons (by repeat (first | with_reducible exact Go.H.has0 | apply Go.H.hasS)) ?_ | refine Go.H.Sub.drop ?_))
    (fun i x hi hI => by rw [hI]; simp only [hS2]; exact decide_eq_decide.2 (by omega)) ?_ ?_
  · rintro ⟨out, _, ⟨⟩⟩ hI K hd
    dsimp only
    rw [List.take_length]
    refine W.pure (hd _ _ ?_)
    refine W.cls3 (A := rbrgA b rs o) (fun h hs => rbrgA_iff.2 ⟨S, ob, hs⟩) ?_
    exact W.pure (hq out).sub
  · rintro i ⟨out, _, ⟨⟩⟩ hlt hI K hnx hd
    simp only at hI
    subst hI
    dsimp only
    have hy := List.getElem?_eq_getElem hlt
    have hbl := take_map_len (hopM y m) H i
    rw [take_snoc _ _ _ hlt] at hnx
    generalize (H.take i).map (hopM y m) = M at hnx hbl
    generalize H[i] = p at hy hnx
    refine W.loadNo ?_
    refine W.load ?_
    refine W.idx hlt fun a ha => ?_
    refine W.loade ha hy ?_
    refine W.call1 (rText_w (At.un ?_))
    refine W.idx hlt fun a ha => ?_
    refine W.loade ha hy ?_
    refine W.load ?_
    refine W.load ?_
    have e : IntKind.wrap .i64 (y.2.2.1 + 1) = y.2.2.1 + 1 := wrap_id (by have := hg.2.1; omega) (by omega)
    refine W.app1 (xs := M) (hopM y m p) (fun s' => ?_) (by omega) (by repeat (first | with_reducible exact Go.H.has0 | apply Go.H.hasS)) (by show _ = (encM (hopM y m p)).toArray; simp only [hopM, e]) rfl (by decide)
    exact W.pure ((hnx (s', IntKind.wrap .i64 ((i : Int) + 1), ()) (by simp only; rw [wrap_id (by omega) (by omega)]; rfl)).sub)
theorem brgNew_big {s : Slc} (hl : 16 < s.len) (hq : At L (Q (.tuple #[.pointer none, .int .u8 149]))) : FW Tryz.prog 12 #[.slice s.a s.len s.cap] L Q := by
  refine fun h hs => bridge_New_calls s h Q ((?_ : W L _ _) h hs)
  clear hs h
  unfold bridge_New
  refine W.tt (by simp only [decide_eq_true_eq]; omega) ?_
  exact W.pure hq
theorem rCheck_w {r : RuleT} (hz : szR r) (hq : At L (Q (.int .i64 (chkR r)))) : FW Tryz.prog 39 #[vR r] L Q := fun h hs => rCheck_spec hs hz fun h' hs' => hq h' hs'
theorem codeRs_drop {rs : List RuleT} {i : Nat} (hlt : i < rs.length) : codeRs (rs.drop i) = if chkR rs[i] = 0 then codeRs (rs.drop (i + 1)) else chkR rs[i] := by
  rw [List.drop_eq_getElem_cons hlt]; rfl
theorem rbrgNew_w {s : Slc} {rs : List RuleT} (hz : ∀ r ∈ rs, szR r) (hl : rs.length ≤ 1000)
    (hbig : 16 < rs.length → At (ownS encRu 5 s rs :: L1) (Q (.tuple #[.pointer none, .int .i64 149])))
    (hbad : rs.length ≤ 16 → codeRs rs ≠ 0 → At (ownS encRu 5 s rs :: L1) (Q (.tuple #[.pointer none, .int .i64 (codeRs rs)])))
    (hok : rs.length ≤ 16 → codeRs rs = 0 → ∀ b, At (rbrgA b rs freshO :: L1) (Q (.tuple #[at0 b, .int .i64 0]))) (hx : Has L (ownS encRu 5 s rs) L1 := by repeat (first | with_reducible exact Go.H.has0 | apply Go.H.hasS)) :
    FW Tryz.prog 13 #[.slice s.a s.len s.cap] L Q := by
  refine fun h hs => ref23_New_calls s h Q ((?_ : W (ownS encRu 5 s rs :: L1) _ _) h (hx.s hs))
  clear hs h hx
  unfold ref23_New
  refine W.fact (A := ownS encRu 5 s rs) own_len' fun hsl => ?_
  refine W.ite (fun hb => ?_) (fun hb => ?_)
  · simp only [decide_eq_true_eq] at hb
    exact W.pure (hbig (by omega)).sub
  simp only [decide_eq_false_iff_not] at hb
  have hl16 : rs.length ≤ 16 := by omega
  refine W.for rs.length (fun i x => x.1 = (i : Int) ∧ codeRs rs = codeRs (rs.drop i)) (fun i x => ownS encRu 5 s rs :: L1) ⟨rfl, rfl⟩ Sub.rfl (fun i x hi hI => by rw [hI.1, hsl]; exact decide_eq_decide.2 (by omega)) ?_ ?_
  · rintro ⟨_, ⟨⟩⟩ ⟨hI, hc⟩ K hd
    rw [List.drop_length] at hc
    refine W.pure (hd _ _ (W.inl ?_))
    refine W.call1 fun h hs => rfNew_spec hs 64 fun ob h' hs' => ?_
    refine (show At (routA ob freshO :: ownS encRu 5 s rs :: L1) _ from At.un (x := (some ⟨ob, 0, none⟩ : Option Addr)) ?_) h' hs'
    refine W.newc fun x => ?_
    refine W.cls3 (A := rbrgA x rs freshO) (fun h hs => rbrgA_iff.2 ⟨s, ob, hs⟩) ?_
    exact W.pure (hok hl16 hc x).sub
  · rintro i ⟨_, ⟨⟩⟩ hlt ⟨hI, hc⟩ K hnx hd
    simp only at hI
    subst hI
    dsimp only
    have hy := List.getElem?_eq_getElem hlt
    have hzr := hz _ (List.getElem_mem hlt)
    rw [codeRs_drop hlt] at hc
    generalize rs[i] = r at hy hzr hc
    refine W.idx hlt fun a ha => ?_
    refine W.loadeN (v := r) ha hy ?_
    refine W.call1 (rCheck_w (r := r) hzr (At.un ?_))
    by_cases h0 : chkR r = 0
    · rw [if_pos h0] at hc
      refine W.ff (by rw [h0]; rfl) ?_
      exact W.pure ((hnx (IntKind.wrap .i64 ((i : Int) + 1), ()) ⟨by simp only; rw [wrap_id (by omega) (by omega)]; rfl, hc⟩).sub)
    · rw [if_neg h0] at hc
      refine W.tt (by simp [h0]) ?_
      refine W.pure (hd _ _ (W.inr (W.pure ?_)))
      have := hbad hl16 (by rw [hc]; exact h0)
      rw [hc] at this
      exact this
theorem putC_try (m : MsT) (d : Bool) : putC (pubO (msg1 m) 1 d) m.2.2.2.2 = putC (tryP m false) m.2.2.2.2 := rfl
theorem pubOK_of {m : MsT} (h1 : m.1.size ≤ 100000000) (h2 : m.2.1.size ≤ 100000000) (h3 : m.2.2.2.2.size ≤ 100000000) : PubOK (pubO (msg1 m) 1 false) m.2.2.2.2 :=
  ⟨rfl, rfl, .inr (.inl rfl), fun e => absurd e (show ¬ (false = true) by decide), fun _ => ⟨(by decide : (1 : Int) ≤ 1), (by decide : (1 : Int) ≤ 65535)⟩, h1, h2, h3⟩
theorem rput_own {o : PkO} {t : ByteArray} {c p : Slc} (hk : PubOK o t) (hp : o.props = tagP t) (hq : At (pkB .i64 (c, p, o) :: L1) (Q (.tuple #[.string (putB o t), .int .i64 (putC o t)])))
    (hx : Has L (pkB .i64 (c, p, o)) L1 := by repeat (first | with_reducible exact Go.H.has0 | apply Go.H.hasS)) : FW Tryz.prog 52 #[vPkK .i64 (pkT o c p)] L Q := fun h hs => by
  have h1 := hx.s hs
  have h2 := (pkB_iff.1 h1).p1.own_row ePr_len
  simp only [hp] at h2
  exact rput_spec (R := []) (sat_old h) hk h2 fun h' hs' => hq h' (h1.grow fun k o ho => hs'.old_get ho)
theorem rfSend_w {b : Nat} {o : OutS} {m : MsT} (hok : FlowOK o) (hq : ∀ S : Slc, At (routA b (sendF o m).1.1 :: pksA .i64 S (sendF o m).1.2 :: L1) (Q (.tuple #[.slice S.a S.len S.cap, .int .i64 (sendF o m).2]))) (hx : Has L (routA b o) L1 := by repeat (first | with_reducible exact Go.H.has0 | apply Go.H.hasS)) :
    FW Tryz.prog 53 #[at0 b, vMs m] L Q := fun h hs => rfSend_spec (hx.s hs) hok fun S h' hs' => hq S h' hs'
theorem rfBegin_w {b : Nat} {o : OutS} {most : Int} (hok : FlowOK o) (hq : ∀ S : Slc, At (routA b (beginF o most).1 :: pksA .i64 S (beginF o most).2 :: L1) (Q (.slice S.a S.len S.cap))) (hx : Has L (routA b o) L1 := by repeat (first | with_reducible exact Go.H.has0 | apply Go.H.hasS)) :
    FW Tryz.prog 21 #[at0 b, .int .i64 most] L Q := fun h hs => rfBegin_spec (hx.s hs) hok fun S h' hs' => hq S h' hs'
theorem rfAns_w {b : Nat} {o : OutS} {p : Pk} (hok : FlowOK o) (hq : ∀ S : Slc, At (routA b (ansF o p.1 p.2.2.2.2.1 p.2.2.2.2.2.2.2.1).1.1 :: pksA .i64 S (ansF o p.1 p.2.2.2.2.1 p.2.2.2.2.2.2.2.1).1.2 :: L1) (Q (.tuple #[.slice S.a S.len S.cap, .int .i64 (ansF o p.1 p.2.2.2.2.1 p.2.2.2.2.2.2.2.1).2])))
    (hx : Has L (routA b o) L1 := by repeat (first | with_reducible exact Go.H.has0 | apply Go.H.hasS)) : FW Tryz.prog 19 #[at0 b, vPkK .i64 p] L Q := fun h hs => rfAns_spec (hx.s hs) hok fun S h' hs' => hq S h' hs'
theorem rbsend_w {b : Nat} {rs : List RuleT} {o : OutS} {m : MsT} (hok : FlowOK o) (z1 : m.1.size ≤ 100000000) (z2 : m.2.1.size ≤ 100000000) (z3 : m.2.2.2.2.size ≤ 100000000)
    (hq : ∀ S : Slc, At (rbrgA b rs (bsendF o m).1.1 :: pksA .i64 S (bsendF o m).1.2 :: L1) (Q (.tuple #[.slice S.a S.len S.cap, .int .i64 (bsendF o m).2]))) (hx : Has L (rbrgA b rs o) L1 := by repeat (first | with_reducible exact Go.H.has0 | apply Go.H.hasS)) :
    FW Tryz.prog 24 #[at0 b, vMs m] L Q := by
  refine fun h hs => ref23_Send_calls (some ⟨b, 0, none⟩) (toU m) h Q ((?_ : W (rbrgA b rs o :: L1) _ _) h (hx.s hs))
  clear hs h hx
  unfold ref23_Send
  refine W.newc fun x1 => ?_
  refine W.store (cs' := (encM (msg1 m)).toArray) ?_
  refine W.loadN (v := toU (msg1 m)) ?_
  refine W.call1 fun h hs => rpub_of (m := msg1 m) (id := 1) (dup := false) hs fun c p h' hs' => ?_
  refine (show At (pkB .i64 (c, p, pubO (msg1 m) 1 false) :: cells x1 (encM (msg1 m)).toArray :: rbrgA b rs o :: L1) _ from At.un (x := pkT (pubO (msg1 m) 1 false) c p) ?_) h' hs'
  refine W.newc fun x4 => ?_
  refine W.storeN ?_
  refine W.loadN (v := pkT (pubO (msg1 m) 1 false) c p) ?_
  refine W.callN (rput_own (o := pubO (msg1 m) 1 false) (t := m.2.2.2.2) (c := c) (p := p) (pubOK_of z1 z2 z3) rfl (At.unN ?_))
  by_cases hc : putC (tryP m false) m.2.2.2.2 = 0
  · have e : bsendF o m = sendF o (msg1 m) := if_neg (by simp [hc])
    rw [e] at hq
    refine W.ff (by show (!(putC (pubO (msg1 m) 1 false) m.2.2.2.2 == 0)) = false; rw [putC_try, hc]; rfl) ?_
    refine W.nonnil ?_
    refine W.opn2 (fun h R => rbrgA_iff.1) fun S ob => ?_
    refine W.load ?_
    refine W.loadN (v := toU (msg1 m)) ?_
    refine W.callN (rfSend_w (b := ob) (o := o) (m := msg1 m) hok fun S' => At.unN ?_)
    refine W.cls3 (A := rbrgA b rs (sendF o (msg1 m)).1.1) (fun h hs => rbrgA_iff.2 ⟨S, ob, hs⟩) ?_
    exact W.pure (hq S').sub
  · have e : bsendF o m = ((o, []), putC (tryP m false) m.2.2.2.2) := if_pos hc
    rw [e] at hq
    refine W.tt (by show (!(putC (pubO (msg1 m) 1 false) m.2.2.2.2 == 0)) = true; rw [putC_try]; simp [hc]) ?_
    intro h hs
    exact (show At (pksA .i64 ⟨none, 0, 0⟩ [] :: rbrgA b rs o :: L1) _ from (hq ⟨none, 0, 0⟩).sub) h (pks_nil ((show Go.H.Sub _ (rbrgA b rs o :: L1) from (by repeat (first | with_reducible exact Go.H.Sub.rfl | with_reducible exact Go.H.Sub.nil | refine Go.H.Sub.cons (by repeat (first | with_reducible exact Go.H.has0 | apply Go.H.hasS)) ?_ | refine Go.H.Sub.drop ?_))).s hs))
theorem rbleft_w {b : Nat} {rs : List RuleT} {o : OutS} (hok : FlowOK o) (hq : ∀ S : Slc, At (ownS encM 5 S (leftF o) :: rbrgA b rs o :: L1) (Q (.slice S.a S.len S.cap))) (hx : Has L (rbrgA b rs o) L1 := by repeat (first | with_reducible exact Go.H.has0 | apply Go.H.hasS)) :
    FW Tryz.prog 27 #[at0 b] L Q := by
  refine fun h hs => ref23_Left_calls (some ⟨b, 0, none⟩) h Q ((?_ : W (rbrgA b rs o :: L1) _ _) h (hx.s hs))
  clear hs h hx
  unfold ref23_Left
  have hf64 := hok.f64
  have hwl := hok.wl
  refine W.opn2 (fun h R => rbrgA_iff.1) fun S ob => ?_
  refine W.opn3 (fun h R => routA_iff.1) fun pb fl wt => ?_
  refine W.fact (A := ownS encF 7 fl o.flights) own_len' fun hfl => ?_
  refine W.fact (A := ownS encM 5 wt o.waiting) own_len' fun hwt => ?_
  refine W.nil0 encM 5 ((o.flights.take 0).map (·.2.1)) ?_
  refine W.loop (γ := Nat) (fun i x => x.2.1 = (i : Int) ∧ i ≤ o.flights.length) (fun i x => ownS encM 5 x.1 ((o.flights.take i).map (·.2.1)) :: cells ob #[at0 pb, .int .i64 o.most, .bool o.on, .slice fl.a fl.len fl.cap, .slice wt.a wt.len wt.cap] :: rpoA pb o.pool :: ownS encF 7 fl o.flights :: ownS encM 5 wt o.waiting :: cells b #[.slice S.a S.len S.cap, at0 ob] :: ownS encRu 5 S rs :: L1)
    (fun i => o.flights.length - i) 0 ⟨rfl, Nat.zero_le _⟩ (by repeat (first | with_reducible exact Go.H.Sub.rfl | with_reducible exact Go.H.Sub.nil | refine Go.H.Sub.cons (by repeat (first | with_reducible exact Go.H.has0 | apply Go.H.hasS)) ?_ | refine Go.H.Sub.drop ?_)) ?_
  rintro i ⟨out, _, ⟨⟩⟩ ⟨hI, hle⟩ K hnx hd
  simp only at hI
  subst hI
  dsimp only
  refine W.nonnil ?_
  refine W.load ?_
  refine W.nonnil ?_
  refine W.load ?_
  refine W.ite (fun hb => ?_) (fun hb => ?_)
  · have hlt : i < o.flights.length := by simp only [hfl, decide_eq_true_eq] at hb; omega
    have hy := List.getElem?_eq_getElem hlt
    have hbl := take_map_len (fun f : FlT => f.2.1) o.flights i
    have hnx' := hnx (i + 1)
    rw [take_snoc _ _ _ hlt] at hnx'
    generalize (o.flights.take i).map (fun f : FlT => f.2.1) = M at hnx' hbl
    generalize o.flights[i] = f at hy hnx'
    refine W.nonnil ?_
    refine W.load ?_
    refine W.nonnil ?_
    refine W.load ?_
    refine W.idx hlt fun a ha => ?_
    refine W.loadeNo (v := toU f.2.1) ha hy ?_
    refine W.app1 (xs := M) f.2.1 (fun s' => ?_) (by omega)
    exact W.pure ((hnx' (s', IntKind.wrap .i64 ((i : Int) + 1), ()) (by omega) ⟨by simp only; rw [wrap_id (by omega) (by omega)]; rfl, hlt⟩).sub)
  have hi : i = o.flights.length := by simp only [hfl, decide_eq_false_iff_not] at hb; omega
  subst hi
  rw [List.take_length]
  refine W.pure (hd _ _ ?_)
  have e0 : o.flights.map (fun f : FlT => f.2.1) = o.flights.map (fun f : FlT => f.2.1) ++ o.waiting.take 0 := by simp
  rw [e0]
  refine W.loop (γ := Nat) (fun i x => x.2.1 = (i : Int) ∧ i ≤ o.waiting.length) (fun i x => ownS encM 5 x.1 (o.flights.map (fun f : FlT => f.2.1) ++ o.waiting.take i) :: cells ob #[at0 pb, .int .i64 o.most, .bool o.on, .slice fl.a fl.len fl.cap, .slice wt.a wt.len wt.cap] :: rpoA pb o.pool :: ownS encF 7 fl o.flights :: ownS encM 5 wt o.waiting :: cells b #[.slice S.a S.len S.cap, at0 ob] :: ownS encRu 5 S rs :: L1)
    (fun i => o.waiting.length - i) 0 ⟨rfl, Nat.zero_le _⟩ (by repeat (first | with_reducible exact Go.H.Sub.rfl | with_reducible exact Go.H.Sub.nil | refine Go.H.Sub.cons (by repeat (first | with_reducible exact Go.H.has0 | apply Go.H.hasS)) ?_ | refine Go.H.Sub.drop ?_)) ?_
  rintro i ⟨out, _, ⟨⟩⟩ ⟨hI, hle⟩ K hnx hd
  simp only at hI
  subst hI
  dsimp only
  refine W.nonnil ?_
  refine W.load ?_
  refine W.nonnil ?_
  refine W.load ?_
  refine W.ite (fun hb => ?_) (fun hb => ?_)
  · have hlt : i < o.waiting.length := by simp only [hwt, decide_eq_true_eq] at hb; omega
    have hy := List.getElem?_eq_getElem hlt
    have hbl : (o.flights.map (fun f : FlT => f.2.1) ++ o.waiting.take i).length ≤ 400 := by rw [List.length_append, List.length_map, List.length_take]; omega
    have hnx' := hnx (i + 1)
    rw [List.take_add_one, hy, Option.toList_some, ← List.append_assoc] at hnx'
    generalize o.flights.map (fun f : FlT => f.2.1) ++ o.waiting.take i = M at hnx' hbl
    generalize o.waiting[i] = f at hy hnx'
    refine W.nonnil ?_
    refine W.load ?_
    refine W.nonnil ?_
    refine W.load ?_
    refine W.idx hlt fun a ha => ?_
    refine W.loadeN (v := toU f) ha hy ?_
    refine W.app1 (xs := M) f (fun s' => ?_) (by omega)
    exact W.pure ((hnx' (s', IntKind.wrap .i64 ((i : Int) + 1), ()) (by omega) ⟨by simp only; rw [wrap_id (by omega) (by omega)]; rfl, hlt⟩).sub)
  have hi : i = o.waiting.length := by simp only [hwt, decide_eq_false_iff_not] at hb; omega
  subst hi
  rw [List.take_length]
  refine W.pure (hd _ _ ?_)
  refine W.cls4 (A := routA ob o) (fun h hs => routA_iff.2 ⟨pb, fl, wt, hs⟩) ?_
  refine W.cls3 (A := rbrgA b rs o) (fun h hs => rbrgA_iff.2 ⟨S, ob, hs⟩) ?_
  unfold leftF at hq
  exact W.pure (hq out).sub
end Go.Proofs.YtfhalebbcbgbdaaGreatDoor
namespace Go.Proofs.YtfhalebbcbgbdaaGreatDoor
open Go.H Go.Proofs Go.Lib
set_option linter.unusedSimpArgs false
set_option linter.unusedVariables false
set_option synthInstance.maxSize 100000
set_option synthInstance.maxHeartbeats 400000
set_option maxRecDepth 100000
variable {h h0 : Heap} {R : List Asn}
abbrev cLb (a b c d : Int) : Array Value := #[.int .i64 a, .int .i64 b, .int .i64 c, .int .i64 d]
theorem labels_spec (hs : sat h R) {a b c d : Int} {Q : Value → Heap → Prop} (hq : ∀ h', sat h' R → Q (.tuple #[.agg (cLb a b c d), .agg (cLb a b c d)]) h') : HCalls Tryz.prog 14 #[.agg (cLb a b c d)] h Q := by
  refine law23_labels_calls (a, b, c, d, ()) h Q ?_
  unfold law23_labels
  refine new_cells hs fun x1 h1 hs1 => ?_
  refine new_cells hs1 fun x2 h2 hs2 => ?_
  refine new_cells hs2 fun x3 h3 hs3 => ?_
  have g : ∀ {h' : Heap} {R' : List Asn}, sat h' (cells x1 (cLb a b c d) :: R') → cellH h' ⟨x1, 0, none⟩ = some (.int .i64 a) ∧ cellH h' ⟨x1, 1, none⟩ = some (.int .i64 b) ∧ cellH h' ⟨x1, 2, none⟩ = some (.int .i64 c) ∧ cellH h' ⟨x1, 3, none⟩ = some (.int .i64 d) := fun hs' => ⟨hs'.cell 0, hs'.cell 1, hs'.cell 2, hs'.cell 3⟩
  obtain ⟨g0, g1, g2, g3⟩ := g hs3.p2
  refine ⟨a, by rw [add_own]; exact g0, b, by rw [add_own]; exact g1, c, by rw [add_own]; exact g2, d, by rw [add_own]; exact g3, a, by rw [add_own]; exact g0, b, by rw [add_own]; exact g1, c, by rw [add_own]; exact g2, d, by rw [add_own]; exact g3, ?_⟩
  (try dsimp only); rw [HM.bind_apply]
  refine storeN_all' hs3.p1 rfl rfl fun h4 hs4 => ?_
  have hs4' : sat h4 (cells x1 (cLb a b c d) :: cells x2 (cLb a b c d) :: cells x3 (cLb 0 0 0 0) :: R) := hs4.p2
  clear hs4 hs3 hs2 hs1 g0 g1 g2 g3
  obtain ⟨g0, g1, g2, g3⟩ := g hs4'
  refine ⟨d, by rw [add_own]; exact g3, rfl, c, by rw [add_own]; exact g2, rfl, b, by rw [add_own]; exact g1, rfl, a, by rw [add_own]; exact g0, rfl, ?_⟩
  (try dsimp only); rw [HM.bind_apply]
  refine storeN_all' hs4'.p2 rfl rfl fun h5 hs5 => ?_
  have hs5' : sat h5 (cells x2 (cLb a b c d) :: cells x3 (cLb a b c d) :: cells x1 (cLb a b c d) :: R) := hs5.re [2, 0, 1]
  refine loadN_cells (ts := [.int .i64, .int .i64, .int .i64, .int .i64]) (a, b, c, d, ()) hs5' rfl ?_
  refine loadN_cells (ts := [.int .i64, .int .i64, .int .i64, .int .i64]) (a, b, c, d, ()) hs5'.p1 rfl ?_
  exact hq h5 hs5'.drop.drop.drop
end Go.Proofs.YtfhalebbcbgbdaaGreatDoor
namespace Go.Proofs.YtfhalebbcbgbdaaGreatDoor
open Go.H Go.Proofs
set_option linter.unusedSimpArgs false
set_option linter.unusedVariables false
set_option maxRecDepth 100000
variable {h h0 : Heap} {L L' L1 L2 R : List Asn} {Q : Value → Heap → Prop}
theorem pub_fit (m : MsT) (id : Int) (d : Bool) : PkFit (pubO m id d) := ⟨⟨Int.le_refl 0, (by decide : (0 : Int) < 256)⟩, by simp [pubO], by simp [pubO], by simp only [pubO, tagP]; split <;> simp⟩
theorem ack_fit (k id : Int) : PkFit (ackO k id 0) := ⟨⟨Int.le_refl 0, (by decide : (0 : Int) < 256)⟩, by simp [ackO], by simp [ackO], by simp [ackO]⟩
theorem goF_fit : ∀ (w : List MsT) (o : OutS), ∀ p ∈ (goF o w).2, PkFit p
  | [], o, p, hp => by simp [goF] at hp
  | m :: w, o, p, hp => by
    unfold goF at hp
    split at hp
    · simp at hp
    · split at hp
      · rcases List.mem_cons.1 hp with rfl | hp
        · exact pub_fit _ _ _
        · exact goF_fit w _ p hp
      · rcases List.mem_cons.1 hp with rfl | hp
        · exact pub_fit _ _ _
        · exact goF_fit w _ p hp
theorem goOnF_fit (o : OutS) : ∀ p ∈ (goOnF o).2, PkFit p := by
  unfold goOnF
  split
  · exact goF_fit _ _
  · simp
theorem sendF_fit (o : OutS) (m : MsT) : (∀ p ∈ (sendF o m).1.2, PkFit p) ∧ 0 ≤ (sendF o m).2 ∧ (sendF o m).2 < 256 := by
  unfold sendF
  split
  · exact ⟨by simp, by simp, by simp⟩
  · split
    · exact ⟨by simp, by simp, by simp⟩
    · split
      · exact ⟨by simp, by simp, by simp⟩
      · exact ⟨goOnF_fit _, by simp, by simp⟩
theorem ansF_fit (o : OutS) (k id c : Int) : (∀ p ∈ (ansF o k id c).1.2, PkFit p) ∧ 0 ≤ (ansF o k id c).2 ∧ (ansF o k id c).2 < 256 := by
  have n : ∀ (o : OutS) (c : Int), 0 ≤ c → c < 256 → (∀ p ∈ ((o, ([] : List PkO)), c).1.2, PkFit p) ∧ 0 ≤ ((o, ([] : List PkO)), c).2 ∧ ((o, ([] : List PkO)), c).2 < 256 := fun o c h1 h2 => ⟨by simp, h1, h2⟩
  unfold ansF
  split
  · exact n _ _ (by decide) (by decide)
  · split
    · exact n _ _ (by decide) (by decide)
    · split
      · split
        · exact n _ _ (by decide) (by decide)
        · exact ⟨goOnF_fit _, by simp, by simp⟩
      · split
        · split
          · exact n _ _ (by decide) (by decide)
          · split
            · exact ⟨goOnF_fit _, by simp, by simp⟩
            · refine ⟨fun p hp => ?_, by simp, by simp⟩
              rcases List.mem_cons.1 hp with rfl | hp
              · exact ack_fit _ _
              · exact goOnF_fit _ p hp
        · split
          · exact n _ _ (by decide) (by decide)
          · exact ⟨goOnF_fit _, by simp, by simp⟩
theorem beginF_fit (o : OutS) (most : Int) : ∀ p ∈ (beginF o most).2, PkFit p := by
  unfold beginF
  intro p hp
  rcases List.mem_append.1 hp with hp | hp
  · obtain ⟨f, -, rfl⟩ := List.mem_map.1 hp
    unfold againF
    split
    · exact ack_fit _ _
    · exact pub_fit _ _ _
  · exact goOnF_fit _ p hp
theorem putC_code (o : PkO) (t : ByteArray) : 0 ≤ putC o t ∧ putC o t < 256 := by
  have ht : ∀ s, 0 ≤ textC s ∧ textC s < 256 := by
    intro s; unfold textC; split
    · exact ⟨by decide, by decide⟩
    · split <;> exact ⟨by decide, by decide⟩
  have hp : 0 ≤ propC t ∧ propC t < 256 := by
    unfold propC; split
    · exact ⟨by decide, by decide⟩
    · exact ht _
  have hb : 0 ≤ bodyC o t ∧ bodyC o t < 256 := by
    unfold bodyC firstC; split
    · exact hp
    · exact ht _
  unfold putC
  split
  · exact hb
  · split <;> exact ⟨by decide, by decide⟩
theorem bsendF_fit (o : OutS) (m : MsT) : (∀ p ∈ (bsendF o m).1.2, PkFit p) ∧ 0 ≤ (bsendF o m).2 ∧ (bsendF o m).2 < 256 := by
  unfold bsendF
  split
  · exact ⟨by simp, putC_code _ _⟩
  · exact sendF_fit _ _
theorem bsendF_ok {o : OutS} (h : FlowOK o) (m : MsT) : FlowOK (bsendF o m).1.1 ∧ (bsendF o m).1.2.length ≤ 256 := by
  unfold bsendF
  split
  · exact ⟨h, by simp⟩
  · exact sendF_ok h _
theorem chkR_code (r : RuleT) : 0 ≤ chkR r ∧ chkR r < 256 := by
  unfold chkR
  split
  · exact ⟨by decide, by decide⟩
  · split
    · exact ⟨by decide, by decide⟩
    · split
      · exact ⟨by decide, by decide⟩
      · split <;> exact ⟨by decide, by decide⟩
theorem codeRs_code : ∀ rs : List RuleT, 0 ≤ codeRs rs ∧ codeRs rs < 256
  | [] => ⟨by decide, by decide⟩
  | r :: rs => by
    unfold codeRs
    split
    · exact codeRs_code rs
    · exact chkR_code r
theorem leftF_len {o : OutS} (h : FlowOK o) : (leftF o).length ≤ 320 := by
  have := h.f64
  have := h.wl
  unfold leftF
  rw [List.length_append, List.length_map]; omega
theorem sameMs_own {s1 s2 : Slc} {ms : List MsT} (hl : ms.length ≤ 1000000) (hq : At L (Q (.bool true))) (hx : Has L (ownS encM 5 s1 ms) L1 := by repeat (first | with_reducible exact Go.H.has0 | apply Go.H.hasS)) (hy : Has L1 (ownS encM 5 s2 ms) L2 := by repeat (first | with_reducible exact Go.H.has0 | apply Go.H.hasS)) :
    FW Tryz.prog 15 #[.slice s1.a s1.len s1.cap, .slice s2.a s2.len s2.cap] L Q :=
  FW.ro (fun h0 hs Q' hq' => sameMs_w ((hx.s hs).own_row eMs_len) (((hx.then hy).s hs).p1.own_row eMs_len) hl hq') hq
theorem samePk_own {s1 s2 : Slc} {os : List PkO} (hl : os.length ≤ 1000000) (hf : ∀ o ∈ os, PkFit o) (hq : At L (Q (.bool true))) (hx : Has L (pksA .u8 s1 os) L1 := by repeat (first | with_reducible exact Go.H.has0 | apply Go.H.hasS)) (hy : Has L1 (pksA .i64 s2 os) L2 := by repeat (first | with_reducible exact Go.H.has0 | apply Go.H.hasS)) :
    FW Tryz.prog 25 #[.slice s1.a s1.len s1.cap, .slice s2.a s2.len s2.cap] L Q :=
  FW.ro (fun h0 hs Q' hq' => samePk_w (pks_rows (hx.s hs)) (pks_rows ((hx.then hy).s hs).p1) hl hf hq') hq
theorem rule_w {r : RuleT} (hq : At L (Q (.tuple #[vR r, vR r]))) : FW Tryz.prog 35 #[vR r] L Q := by
  refine fun h hs => law23_rule_calls r h Q ((?_ : W L _ _) h hs)
  clear hs h
  unfold law23_rule
  repeat (first | refine W.bpure ?_ | refine W.bbind ?_ | refine W.newc fun _ => ?_ | refine W.load ?_ | refine W.load0 ?_ | (refine W.loadN ?_; try dsimp only) | (refine W.loadNo ?_; try dsimp only) | refine W.storeN ?_ | refine W.store ?_ | refine W.store0 ?_ | refine W.req ?_ rfl | refine W.bt rfl ?_ | refine W.bf rfl ?_ | refine W.tt rfl ?_ | refine W.ff rfl ?_ | refine W.inl ?_ | refine W.inr ?_ | refine W.nonnil ?_ | refine W.bf (Go.H.nbq _) ?_ | refine W.ff (Go.H.nbq _) ?_ | refine W.bf (Go.H.nbd rfl) ?_ | refine W.ff (Go.H.nbd rfl) ?_)
  exact W.pure hq.sub
theorem rules_w {s : Slc} {rs : List RuleT} (hr : RowAt encRu 5 h0 s rs) (hq : ∀ S1 S2 : Slc, At (ownS encRu 5 S1 (rs.take 20) :: ownS encRu 5 S2 (rs.take 20) :: old h0 :: L1) (Q (.tuple #[.slice S1.a S1.len S1.cap, .slice S2.a S2.len S2.cap]))) (hx : Has L (old h0) L1 := by repeat (first | with_reducible exact Go.H.has0 | apply Go.H.hasS)) :
    FW Tryz.prog 11 #[.slice s.a s.len s.cap] L Q := by
  refine fun h hs => law23_rules_calls s h Q ((?_ : W (old h0 :: L1) _ _) h (hx.s hs))
  clear hs h hx
  unfold law23_rules
  have hmn : (if 20 < ((s.len : Nat) : Int) then (20 : Int) else ((s.len : Nat) : Int)) = ((min 20 rs.length : Nat) : Int) := by rw [hr.1]; split <;> omega
  rw [hmn]
  refine W.slo hr (Nat.min_le_right _ _) fun s' hr' => ?_
  have e20 : rs.take (min 20 rs.length) = rs.take 20 := by
    by_cases h : 20 ≤ rs.length
    · rw [Nat.min_eq_left h]
    · rw [Nat.min_eq_right (by omega), List.take_length, List.take_of_length_le (by omega)]
  rw [e20] at hr'
  have hyl : (rs.take 20).length ≤ 20 := by rw [List.length_take]; omega
  generalize rs.take 20 = xs at hr' hq hyl
  have hsl : s'.len = xs.length := hr'.1
  refine W.nil0 encRu 5 (xs.take 0) ?_
  refine W.nil0 encRu 5 (xs.take 0) ?_
  refine W.for xs.length (fun i x => x.2.2.1 = (i : Int)) (fun i x => ownS encRu 5 x.1 (xs.take i) :: ownS encRu 5 x.2.1 (xs.take i) :: old h0 :: L1) rfl (by repeat (first | with_reducible exact Go.H.Sub.rfl | with_reducible exact Go.H.Sub.nil | refine Go.H.Sub.cons (by repeat (first | with_reducible exact Go.H.has0 | apply Go.H.hasS)) ?_ | refine Go.H.Sub.drop ?_)) (fun i x hi hI => by rw [hI, hsl]; exact decide_eq_decide.2 (by omega)) ?_ ?_
  · rintro ⟨o1, o2, _, ⟨⟩⟩ hI K hd
    dsimp only
    rw [List.take_length]
    refine W.pure (hd _ _ ?_)
    exact W.pure (hq o1 o2).sub
  · rintro i ⟨o1, o2, _, ⟨⟩⟩ hlt hI K hnx hd
    simp only at hI
    subst hI
    dsimp only
    have hy := List.getElem?_eq_getElem hlt
    have hbl : (xs.take i).length ≤ 20 := by rw [List.length_take]; omega
    have htk : xs.take (i + 1) = xs.take i ++ [xs[i]] := by rw [List.take_add_one, hy]; rfl
    rw [htk] at hnx
    generalize xs.take i = M at hnx hbl
    generalize xs[i] = r at hy hnx
    have hb : (M.length + 1) * 64 ≤ 140737488355328 := by omega
    refine W.idxo hr' hlt fun a ha => ?_
    refine W.loadoN (v := r) hr' ha hy ?_
    refine W.newc fun x6 => ?_
    refine W.storeN ?_
    refine W.loadN (v := r) ?_
    refine W.callN (rule_w (r := r) (At.unN ?_))
    refine W.newc fun x9 => ?_
    refine W.newc fun x10 => ?_
    refine W.storeN ?_
    refine W.storeN ?_
    refine W.loadN (v := r) ?_
    refine W.loadN (v := r) ?_
    repeat' (first | refine W.app1b (xs := M) r (fun s' => ?_) hb | refine W.newc fun _ => ?_ | refine W.loadN (v := r) ?_ | refine W.req ?_ rfl | refine W.both ?_ ?_)
    all_goals
      refine W.pure ?_
      refine At.sub (hnx (_, _, IntKind.wrap .i64 ((i : Int) + 1), ()) ?_) ?_
      · simp only; rw [wrap_id (by omega) (by omega)]; rfl
      · repeat (first | with_reducible exact Go.H.Sub.rfl | with_reducible exact Go.H.Sub.nil | refine Go.H.Sub.cons (by repeat (first | with_reducible exact Go.H.has0 | apply Go.H.hasS)) ?_ | refine Go.H.Sub.drop ?_)
theorem routeB_len {rs : List RuleT} {y : LabT} {m : MsT} {n : Nat} (hl : rs.length ≤ n) : (routeB rs y m).length ≤ n := by
  unfold routeB
  split
  · simp
  · rw [List.length_map]; exact Nat.le_trans (routeP_len _ _ rs 0) hl
abbrev ActT := Int × MsT × Int × Int
abbrev encAc (a : ActT) : List Value := [.int .i64 a.1, .string a.2.1.1, .string a.2.1.2.1, .int .i64 a.2.1.2.2.1, .bool a.2.1.2.2.2.1, .string a.2.1.2.2.2.2, .int .i64 a.2.2.1, .int .u8 a.2.2.2]
structure szM (m : MsT) : Prop where
  t : m.1.size ≤ 1048576
  p : m.2.1.size ≤ 1048576
  g : m.2.2.2.2.size ≤ 1048576
abbrev lawB (b rb : Nat) (rs : List RuleT) (o : OutS) (x9 x10 : Nat) (y : LabT) (h0 : Heap) : List Asn := [brgA b rs o, rbrgA rb rs o, cells x9 (cLab y), cells x10 (cLab y), old h0]
set_option maxHeartbeats 2000000 in
theorem BridgePlays_w (ht : TP h0) (hx : TF h0) {s1 s2 : Slc} {rs0 : List RuleT} {acts : List ActT} {y : LabT} (hr : RowAt encRu 5 h0 s1 rs0) (hz0 : ∀ r ∈ rs0, szR r) (ha : RowAt encAc 8 h0 s2 acts) (hza : ∀ a ∈ acts, szM a.2.1 ∧ 0 ≤ a.2.2.2 ∧ a.2.2.2 < 256)
    (hq : ∀ h' R, sat h' (old h0 :: R) → Q (.bool true) h') : FW Tryz.prog 4 #[.slice s1.a s1.len s1.cap, .slice s2.a s2.len s2.cap, .agg (cLab y)] [old h0] Q := by
  have hfin : ∀ L, Has L (old h0) L → True := fun _ _ => trivial
  have fin : ∀ {L L'}, Has L (old h0) L' → At L (Q (.bool true)) := fun hx h hs => hq h _ (hx.s hs)
  have hu := ht.u8
  refine fun h hs => law23_BridgePlays_calls s1 s2 (y.1, y.2.1, y.2.2.1, y.2.2.2, ()) h Q ((?_ : W [old h0] _ _) h hs)
  clear hs h hfin
  unfold law23_BridgePlays
  refine W.newc fun x1 => ?_
  refine W.callN (rules_w hr fun S1 S2 => At.unN ?_)
  have hz : ∀ r ∈ rs0.take 20, szR r := fun r hr => hz0 r (List.mem_of_mem_take hr)
  have hl20 : (rs0.take 20).length ≤ 20 := by rw [List.length_take]; omega
  generalize rs0.take 20 = rs at hz hl20
  refine W.fact (A := ownS encRu 5 S1 rs) own_len' fun hl1 => ?_
  by_cases hbig : 16 < rs.length
  · refine W.callN (brgNew_big (s := S1) (by omega) (At.unN ?_))
    refine W.callN (rbrgNew_w (s := S2) (rs := rs) hz (by omega) (fun _ => At.unN ?_) (fun h => by omega) (fun h => by omega))
    refine W.bbind (W.call1 (wakes23_w ht (At.un ?_)))
    repeat (first | refine W.bpure ?_ | refine W.bbind ?_ | refine W.newc fun _ => ?_ | refine W.load ?_ | refine W.load0 ?_ | (refine W.loadN ?_; try dsimp only) | (refine W.loadNo ?_; try dsimp only) | refine W.storeN ?_ | refine W.store ?_ | refine W.store0 ?_ | refine W.req ?_ rfl | refine W.bt rfl ?_ | refine W.bf rfl ?_ | refine W.tt rfl ?_ | refine W.ff rfl ?_ | refine W.inl ?_ | refine W.inr ?_ | refine W.nonnil ?_ | refine W.bf (Go.H.nbq _) ?_ | refine W.ff (Go.H.nbq _) ?_ | refine W.bf (Go.H.nbd rfl) ?_ | refine W.ff (Go.H.nbd rfl) ?_)
    exact W.pure (fin (by repeat (first | with_reducible exact Go.H.has0 | apply Go.H.hasS)))
  by_cases hc : codeRs rs = 0
  rotate_left
  · refine W.callN (brgNew_w (s := S1) (rs := rs) ht hz (by omega) (fun _ => At.unN ?_) (fun h => absurd h hc))
    refine W.callN (rbrgNew_w (s := S2) (rs := rs) hz (by omega) (fun h => by omega) (fun _ _ => At.unN ?_) (fun _ h => absurd h hc))
    refine W.bbind (W.call1 (wakes23_w ht (At.un ?_)))
    refine W.bf rfl ?_
    have h1 := codeRs_code rs
    refine W.bf (by show (!(IntKind.wrap .i64 (codeRs rs) == codeRs rs)) = false; rw [wrap_id (by omega) (by omega)]; simp) ?_
    repeat (first | refine W.bpure ?_ | refine W.bbind ?_ | refine W.newc fun _ => ?_ | refine W.load ?_ | refine W.load0 ?_ | (refine W.loadN ?_; try dsimp only) | (refine W.loadNo ?_; try dsimp only) | refine W.storeN ?_ | refine W.store ?_ | refine W.store0 ?_ | refine W.req ?_ rfl | refine W.bt rfl ?_ | refine W.bf rfl ?_ | refine W.tt rfl ?_ | refine W.ff rfl ?_ | refine W.inl ?_ | refine W.inr ?_ | refine W.nonnil ?_ | refine W.bf (Go.H.nbq _) ?_ | refine W.ff (Go.H.nbq _) ?_ | refine W.bf (Go.H.nbd rfl) ?_ | refine W.ff (Go.H.nbd rfl) ?_)
    refine W.tt (by show (!(codeRs rs == 0)) = true; simp [hc]) ?_
    exact W.pure (fin (by repeat (first | with_reducible exact Go.H.has0 | apply Go.H.hasS)))
  refine W.callN (brgNew_w (s := S1) (rs := rs) ht hz (by omega) (fun h => absurd hc h) fun _ b => At.unN ?_)
  refine W.callN (rbrgNew_w (s := S2) (rs := rs) hz (by omega) (fun h => by omega) (fun _ h => absurd hc h) fun _ _ rb => At.unN ?_)
  refine W.bbind (W.call1 (wakes23_w ht (At.un ?_)))
  repeat (first | refine W.bpure ?_ | refine W.bbind ?_ | refine W.newc fun _ => ?_ | refine W.load ?_ | refine W.load0 ?_ | (refine W.loadN ?_; try dsimp only) | (refine W.loadNo ?_; try dsimp only) | refine W.storeN ?_ | refine W.store ?_ | refine W.store0 ?_ | refine W.req ?_ rfl | refine W.bt rfl ?_ | refine W.bf rfl ?_ | refine W.tt rfl ?_ | refine W.ff rfl ?_ | refine W.inl ?_ | refine W.inr ?_ | refine W.nonnil ?_ | refine W.bf (Go.H.nbq _) ?_ | refine W.ff (Go.H.nbq _) ?_ | refine W.bf (Go.H.nbd rfl) ?_ | refine W.ff (Go.H.nbd rfl) ?_)
  refine W.callN fun h hs => labels_spec (a := y.1) (b := y.2.1) (c := y.2.2.1) (d := y.2.2.2) hs fun h' hs' => ?_
  refine (At.unN ?_ : At _ _) h' hs'
  refine W.newc fun x9 => ?_
  refine W.newc fun x10 => ?_
  refine W.storeN ?_
  refine W.storeN ?_
  have hmn : (if 60 < ((s2.len : Nat) : Int) then (60 : Int) else ((s2.len : Nat) : Int)) = ((min 60 acts.length : Nat) : Int) := by rw [ha.1]; split <;> omega
  rw [hmn]
  refine W.slo ha (Nat.min_le_right _ _) fun s' ha' => ?_
  have hzt : ∀ a ∈ acts.take (min 60 acts.length), szM a.2.1 ∧ 0 ≤ a.2.2.2 ∧ a.2.2.2 < 256 := fun a hm => hza a (List.mem_of_mem_take hm)
  have hxl : (acts.take (min 60 acts.length)).length ≤ 60 := by rw [List.length_take]; omega
  generalize acts.take (min 60 acts.length) = xs at ha' hzt hxl
  have hsl : s'.len = xs.length := ha'.1
  refine W.loop (γ := Nat × OutS) (fun g x => x.1 = (g.1 : Int) ∧ g.1 ≤ xs.length ∧ FlowOK g.2) (fun g x => lawB b rb rs g.2 x9 x10 y h0) (fun g => xs.length - g.1) (0, freshO) ⟨rfl, Nat.zero_le _, FlowOK.new⟩ (by repeat (first | with_reducible exact Go.H.Sub.rfl | with_reducible exact Go.H.Sub.nil | refine Go.H.Sub.cons (by repeat (first | with_reducible exact Go.H.has0 | apply Go.H.hasS)) ?_ | refine Go.H.Sub.drop ?_)) ?_
  rintro ⟨i, o⟩ ⟨_, ⟨⟩⟩ ⟨hI, hle, hok⟩ K hnx hd
  simp only at hI hle hok
  subst hI
  dsimp only
  refine W.ite (fun hb => ?_) (fun hb => W.pure (hd _ _ (W.inl (W.pure (fin (by repeat (first | with_reducible exact Go.H.has0 | apply Go.H.hasS)))))))
  have hlt : i < xs.length := by simp only [hsl, decide_eq_true_eq] at hb; omega
  have hy := List.getElem?_eq_getElem hlt
  have hm := hzt _ (List.getElem_mem hlt)
  generalize xs[i] = a at hy hm
  obtain ⟨hm, hc0, hc1⟩ := hm
  have ew : IntKind.wrap .i64 a.2.2.2 = a.2.2.2 := wrap_id (by omega) (by omega)
  refine W.idxo ha' hlt fun p hp => ?_
  refine W.loadoN (v := (a.1, a.2.1.1, a.2.1.2.1, a.2.1.2.2.1, a.2.1.2.2.2.1, a.2.1.2.2.2.2, a.2.2.1, a.2.2.2, ())) ha' hp hy ?_
  refine W.newc fun x16 => ?_
  refine W.storeN ?_
  refine W.loadNo (v := toU a.2.1) ?_
  refine W.loadNo (v := toU a.2.1) ?_
  refine W.both ?_ ?_
  all_goals
    repeat (first | refine W.bpure ?_ | refine W.bbind ?_ | refine W.newc fun _ => ?_ | refine W.load ?_ | refine W.load0 ?_ | (refine W.loadN ?_; try dsimp only) | (refine W.loadNo ?_; try dsimp only) | refine W.storeN ?_ | refine W.store ?_ | refine W.store0 ?_ | refine W.req ?_ rfl | refine W.bt rfl ?_ | refine W.bf rfl ?_ | refine W.tt rfl ?_ | refine W.ff rfl ?_ | refine W.inl ?_ | refine W.inr ?_ | refine W.nonnil ?_ | refine W.bf (Go.H.nbq _) ?_ | refine W.ff (Go.H.nbq _) ?_ | refine W.bf (Go.H.nbd rfl) ?_ | refine W.ff (Go.H.nbd rfl) ?_)
    refine W.call1 (brt_w (y := y) (m := a.2.1) ht hx hz (by omega) hm.t fun SA => At.un ?_)
    repeat (first | refine W.bpure ?_ | refine W.bbind ?_ | refine W.newc fun _ => ?_ | refine W.load ?_ | refine W.load0 ?_ | (refine W.loadN ?_; try dsimp only) | (refine W.loadNo ?_; try dsimp only) | refine W.storeN ?_ | refine W.store ?_ | refine W.store0 ?_ | refine W.req ?_ rfl | refine W.bt rfl ?_ | refine W.bf rfl ?_ | refine W.tt rfl ?_ | refine W.ff rfl ?_ | refine W.inl ?_ | refine W.inr ?_ | refine W.nonnil ?_ | refine W.bf (Go.H.nbq _) ?_ | refine W.ff (Go.H.nbq _) ?_ | refine W.bf (Go.H.nbd rfl) ?_ | refine W.ff (Go.H.nbd rfl) ?_)
    refine W.call1 (rbrt_w (y := y) (m := a.2.1) hz (by omega) hm.t fun SB => At.un ?_)
    refine W.call1 (sameMs_own (s1 := SA) (s2 := SB) (ms := routeB rs y a.2.1) (routeB_len (by omega)) (At.un ?_))
    repeat (first | refine W.bpure ?_ | refine W.bbind ?_ | refine W.newc fun _ => ?_ | refine W.load ?_ | refine W.load0 ?_ | (refine W.loadN ?_; try dsimp only) | (refine W.loadNo ?_; try dsimp only) | refine W.storeN ?_ | refine W.store ?_ | refine W.store0 ?_ | refine W.req ?_ rfl | refine W.bt rfl ?_ | refine W.bf rfl ?_ | refine W.tt rfl ?_ | refine W.ff rfl ?_ | refine W.inl ?_ | refine W.inr ?_ | refine W.nonnil ?_ | refine W.bf (Go.H.nbq _) ?_ | refine W.ff (Go.H.nbq _) ?_ | refine W.bf (Go.H.nbd rfl) ?_ | refine W.ff (Go.H.nbd rfl) ?_)
    refine W.req ?_ (by decide)
    refine W.anyb rfl rfl fun z1 => ?_
    refine W.cutx (X := Slc × Slc × List PkO × OutS × Int) (fun x a => a = (x.1, x.2.2.2.2, x.2.1, x.2.2.2.2, ()) ∧ FlowOK x.2.2.2.1 ∧ (∀ p ∈ x.2.2.1, PkFit p) ∧ x.2.2.1.length ≤ 1000 ∧ 0 ≤ x.2.2.2.2 ∧ x.2.2.2.2 < 256)
      (fun x _ => pksA .u8 x.1 x.2.2.1 :: pksA .i64 x.2.1 x.2.2.1 :: lawB b rb rs x.2.2.2.1 x9 x10 y h0) (fun K2 hK => ?_) ?_
    · refine W.ite (fun _ => ?_) (fun _ => ?_)
      · refine W.load ?_
        refine W.load ?_
        have hfit := ansF_fit o 4 a.2.2.1 a.2.2.2
        have hok2 := ansF_ok hok 4 a.2.2.1 a.2.2.2
        refine W.callN (bans_w (p := Pk_a 4 a.2.2.1 a.2.2.2) hok fun SC => At.unN ?_)
        refine W.nonnil ?_
        refine W.opn2 (A := rbrgA rb rs o) (fun h R => rbrgA_iff.1) fun S ob => ?_
        refine W.load ?_
        refine W.load ?_
        refine W.load ?_
        refine W.callN (rfAns_w (b := ob) (p := Pk_a 4 a.2.2.1 (IntKind.wrap .i64 a.2.2.2)) hok fun SD => ?_)
        rw [ew]
        refine At.unN ?_
        refine W.cls3 (A := rbrgA rb rs (ansF o 4 a.2.2.1 a.2.2.2).1.1) (fun h hs => rbrgA_iff.2 ⟨S, ob, hs⟩) ?_
        exact W.pure ((hK (SC, SD, (ansF o 4 a.2.2.1 a.2.2.2).1.2, (ansF o 4 a.2.2.1 a.2.2.2).1.1, (ansF o 4 a.2.2.1 a.2.2.2).2) _ ⟨rfl, hok2.1, hfit.1, Nat.le_trans hok2.2 (by decide), hfit.2⟩).sub)
      · refine W.anyb rfl rfl fun z2 => ?_
        refine W.bite (fun _ => ?_) (fun _ => ?_)
        · have hfit := beginF_fit o 64
          have hok2 := beginF_ok hok 64
          refine W.bbind (W.call1 (bbegin_w hok fun SC => At.un ?_))
          refine W.bbind (W.nonnil ?_)
          refine W.opn2 (A := rbrgA rb rs o) (fun h R => rbrgA_iff.1) fun S ob => ?_
          refine W.bbind (W.load ?_)
          refine W.bbind (W.call1 (rfBegin_w (b := ob) (most := 64) hok fun SD => At.un ?_))
          refine W.cls3 (A := rbrgA rb rs (beginF o 64).1) (fun h hs => rbrgA_iff.2 ⟨S, ob, hs⟩) ?_
          refine W.bpure ?_
          exact W.pure ((hK (SC, SD, (beginF o 64).2, (beginF o 64).1, 0) _ ⟨rfl, hok2.1, hfit, Nat.le_trans hok2.2 (by decide), Int.le_refl 0, (by decide : (0 : Int) < 256)⟩).sub)
        · refine W.bbind (W.anyb rfl rfl fun z3 => ?_)
          refine W.bbind (W.bite (fun _ => ?_) (fun _ => ?_))
          · refine W.bbind (W.callN (bend_w (At.unN ?_)))
            refine W.bbind (W.nonnil ?_)
            refine W.opn2 (A := rbrgA rb rs o) (fun h R => rbrgA_iff.1) fun S ob => ?_
            refine W.bbind (W.load ?_)
            refine W.bbind (W.nonnil ?_)
            refine W.opn3 (A := routA ob o) (fun h R => routA_iff.1) fun pb fl wt => ?_
            refine W.bbind (W.store (cs' := #[at0 pb, .int .i64 o.most, .bool false, .slice fl.a fl.len fl.cap, .slice wt.a wt.len wt.cap]) ?_)
            refine W.cls4 (A := routA ob { o with on := false }) (fun h hs => routA_iff.2 ⟨pb, fl, wt, hs⟩) ?_
            refine W.cls3 (A := rbrgA rb rs { o with on := false }) (fun h hs => rbrgA_iff.2 ⟨S, ob, hs⟩) ?_
            refine W.bpure (W.bpure ?_)
            intro h hs
            refine (show At (pksA .u8 ⟨none, 0, 0⟩ [] :: pksA .i64 ⟨none, 0, 0⟩ [] :: lawB b rb rs { o with on := false } x9 x10 y h0) _ from W.pure ((hK (⟨none, 0, 0⟩, ⟨none, 0, 0⟩, [], { o with on := false }, 0) _ ⟨rfl, hok.off false, by simp, by simp, Int.le_refl 0, (by decide : (0 : Int) < 256)⟩).sub)) h ?_
            exact pks_nil (pks_nil ((show Go.H.Sub _ (lawB b rb rs { o with on := false } x9 x10 y h0) from (by repeat (first | with_reducible exact Go.H.Sub.rfl | with_reducible exact Go.H.Sub.nil | refine Go.H.Sub.cons (by repeat (first | with_reducible exact Go.H.has0 | apply Go.H.hasS)) ?_ | refine Go.H.Sub.drop ?_))).s hs))
          · have hfit := bsendF_fit o a.2.1
            have hok2 := bsendF_ok hok a.2.1
            refine W.bbind (W.loadN (v := toU a.2.1) ?_)
            refine W.bbind (W.callN (bsend_w (m := a.2.1) hu hok (Nat.le_trans hm.t (by decide)) (Nat.le_trans hm.p (by decide)) (Nat.le_trans hm.g (by decide)) fun SC => At.unN ?_))
            refine W.bbind (W.loadN (v := toU a.2.1) ?_)
            refine W.bbind (W.callN (rbsend_w (m := a.2.1) hok (Nat.le_trans hm.t (by decide)) (Nat.le_trans hm.p (by decide)) (Nat.le_trans hm.g (by decide)) fun SD => At.unN ?_))
            refine W.bpure (W.bpure ?_)
            exact W.pure ((hK (SC, SD, (bsendF o a.2.1).1.2, (bsendF o a.2.1).1.1, (bsendF o a.2.1).2) _ ⟨rfl, hok2.1, hfit.1, Nat.le_trans hok2.2 (by decide), hfit.2⟩).sub)
    · rintro ⟨SA, SB, os, o', c⟩ z ⟨rfl, hok', hfit, hlen, hd0, hd1⟩
      dsimp only at hok' hfit hlen hd0 hd1 ⊢
      refine W.bf (by rw [wrap_id (by omega) (by omega)]; simp) ?_
      refine W.bbind (W.call1 (samePk_own (s1 := SA) (s2 := SB) (os := os) (by omega) hfit (At.un ?_)))
      refine W.bf rfl ?_
      refine W.bbind (W.call1 (bleft_w hok' fun SE => At.un ?_))
      refine W.bbind (W.call1 (rbleft_w hok' fun SF => At.un ?_))
      refine W.bbind (W.call1 (sameMs_own (s1 := SE) (s2 := SF) (ms := leftF o') (Nat.le_trans (leftF_len hok') (by decide)) (At.un ?_)))
      refine W.bpure ?_
      refine W.ff rfl ?_
      exact W.pure ((hnx (i + 1, o') (IntKind.wrap .i64 ((i : Int) + 1), ()) (by simp only; omega) ⟨by simp only; rw [wrap_id (by omega) (by omega)]; rfl, hlt, hok'⟩).sub)
end Go.Proofs.YtfhalebbcbgbdaaGreatDoor
namespace Go.Proofs.YtfhalebbcbgbdaaGreatDoor
open Go.ChangeShapes Go.WideShapes Go.ChangeAt Go.RowKit Go.Proofs Go.Lib Go.H
set_option linter.unusedSimpArgs false
set_option linter.unusedVariables false
set_option maxRecDepth 100000
noncomputable def laidWorld (os : Os) : World :=
  let w0 := World.doorLaid Tryz.prog 400 os
  { w0 with heap := w0.heap.modify 6 fun
      | .cells _ t frozen => .cells ((List.range 256).map fun c => Value.int .u8 (firstT c)).toArray t frozen
      | o => o }
theorem u8_extra : U8Extra Tryz.prog u8_ren where
  n3 := by kernel_rfl
  n4 := by kernel_rfl
  y3 := by kernel_rfl
  y4 := by kernel_rfl
  c5 := by kernel_rfl
  c119 := by kernel_rfl
  c138 := by kernel_rfl
theorem accept_eq : (Rows.laid_unicode_utf8_acceptRanges : DataW Unit) = acceptData := by kernel_rfl
theorem first_eq : (Rows.laid_unicode_utf8_first : DataW Unit) = firstData := Pinned.utf8First_eq
theorem block_of_tab {P : Program} {W : World} {n : String} {k : IntKind} {zs : List Int} {g c : Nat} {t e : TypeId} (h : VarReads P W n (tabData k zs)) (hg : P.globalNamed n = some g)
    (hty : (P.globals[g]?).map (·.type) = some t) (ht : P.underlying t = some (.array c e)) (he : P.underlying e = some (.int k)) (hce : P.cellsOf e = 1) (hct : P.cellsOf t = c) :
    ∃ t' f, W.heap[g]? = some (.cells (zs.map fun z => Value.int k z).toArray t' f) := by
  obtain ⟨g', t', cs, fuel, p, hg', ht', hvar, hd⟩ := h
  obtain rfl := Option.some.inj (hg.symm.trans hg')
  obtain rfl := Option.some.inj (hty.symm.trans ht')
  have hc := cells_of_tab ht he hce hct hd
  unfold World.var? at hvar
  rw [hg] at hvar
  simp only [Option.bind_some] at hvar
  cases hb : W.heap[g]? with
  | none => rw [hb] at hvar; cases hvar
  | some o =>
    rw [hb] at hvar
    cases o with
    | cells cs' t' f =>
      cases hvar
      rw [← hc]
      exact ⟨t', f, by simp⟩
    | _ => cases hvar
def okB {H : Type} (t : TypeId) (d : DataW H) : Prop := Rows.uptoBulk d ≤ 1048576
theorem bulk_mem {H : Type} : ∀ {l : List (DataW H)} {d : DataW H}, d ∈ l → Rows.uptoBulk d ≤ Rows.uptoBulkAll l
  | x :: l, d, h => by
    simp only [Rows.uptoBulkAll]
    rcases List.mem_cons.1 h with rfl | h
    · omega
    · have := bulk_mem h
      omega
theorem bulk_pos {H : Type} (d : DataW H) : 1 ≤ Rows.uptoBulk d := by
  cases d with
  | lit l => cases l <;> simp [Rows.uptoBulk]
  | _ => simp [Rows.uptoBulk]
theorem bulk_len {H : Type} : ∀ (l : List (DataW H)), l.length ≤ Rows.uptoBulkAll l
  | [] => Nat.zero_le _
  | d :: l => by
    have := bulk_len l
    have := bulk_pos d
    simp only [List.length_cons, Rows.uptoBulkAll]
    omega
theorem okB_law {H : Type} : Go.R.OkLaw (H := H) Tryz.prog okB 1048576 (fun _ => 1) where
  str h := by simp only [okB, Rows.uptoBulk] at h; omega
  elem _ h hd := by simp only [okB, Rows.uptoBulk] at h ⊢; have := bulk_mem hd; omega
  cnt {t e elems rest} _ h := by simp only [okB, Rows.uptoBulk] at h; have := bulk_len elems; omega
  field _ h _ hd := by simp only [okB, Rows.uptoBulk] at h ⊢; have := bulk_mem (List.mem_of_getElem? hd); omega
  arr _ h hd := by simp only [okB, Rows.uptoBulk] at h ⊢; have := bulk_mem hd; omega
abbrev MsG := ByteArray × ByteArray × Int × Bool × ByteArray
abbrev encMG (x : MsG) : List Value := [.string x.1, .string x.2.1, .int .i64 x.2.2.1, .bool x.2.2.2.1, .string x.2.2.2.2]
abbrev goodM23 (top : Nat) (x : MsG) : Prop := x.1.size ≤ top ∧ x.2.1.size ≤ top ∧ (Lit.int .i64 x.2.2.1).wf = true ∧ True ∧ x.2.2.2.2.size ≤ top
section
variable {H : Type} {ec : TypeId × Value → H} {w : World} {base : Nat} {sp : Nat → Bool} {held : Bool} {ok : TypeId → DataW H → Prop} {top : Nat} {wt : TypeId → Nat}
theorem rd_Msg23 (hk : Go.R.OkLaw Tryz.prog ok top wt) : Go.R.RdG ec Tryz.prog w base sp held ok 23 encMG (goodM23 top) :=
  Go.R.rg_struct hk Tryz.underlying23 (n := 5) (by kernel_rfl)
    (Go.R.rf_cons (c := 1) (by kernel_rfl) (by rfl) (Go.R.rg_str hk Tryz.underlying9) (Go.R.rf_cons (c := 1) (by kernel_rfl) (by rfl) (Go.R.rg_str hk Tryz.underlying9) (Go.R.rf_cons (c := 1) (by kernel_rfl) (by rfl) (Go.R.rg_int Tryz.underlying3)
      (Go.R.rf_cons (c := 1) (by kernel_rfl) (by rfl) (Go.R.rg_bool Tryz.underlying4) (Go.R.rf_one (c := 1) (by kernel_rfl) (by rfl) (by decide) (Go.R.rg_str hk Tryz.underlying9))))))
end
end Go.Proofs.YtfhalebbcbgbdaaGreatDoor
namespace Go.Proofs.YtfhalebbcbgbdaaGreatDoor
open Go.ChangeShapes Go.WideShapes Go.ChangeAt Go.RowKit Go.Proofs Go.Lib Go.H
set_option linter.unusedSimpArgs false
set_option linter.unusedVariables false
set_option maxRecDepth 100000
def laid23p : List (String × DataW Unit) := Rows.bridgePlaysUptoRow.laid
theorem laid_met23p (os : Os) (args : Array Value) : laidMetH Tryz.prog laid23p ((laidWorld os).forCall (fun _ _ => 0) ⟨#[], args, []⟩).memory :=
  laidMetH_of_parts3 (fuel := 8) (laidMet_of_run' 8 (by kernel_rfl) (by kernel_rfl)) (by kernel_rfl) (by kernel_rfl)
def TB (h0 : Heap) : Prop := TF h0 ∧ TP h0
theorem tb_of_laid {W : World} (h : laidMetH Tryz.prog laid23p W) (hsh : W.ShapedOpen Tryz.prog) : TB W.heap := by
  rw [MakeChecks.laidMetH_plain _ _ _ (by kernel_rfl)] at h
  have hmax : ∃ m, cellH W.heap ⟨3, 0, none⟩ = some (.int .i64 m) := cell_of_shapedOpen_int (t := 3) (zero := #[.int .i64 0]) hsh (of_decide_eq_true (by kernel_rfl)) (by kernel_rfl) rfl (by kernel_rfl) (by kernel_rfl) Tryz.underlying3
  refine ⟨?_, ⟨?_, hmax⟩⟩
  · have h1 := laidMet.reads h (n := "internal/strconv.uint64pow10") (d := Rows.laid_internal_strconv_uint64pow10) (by unfold laid23p Rows.bridgePlaysUptoRow; simp)
    rw [show (Rows.laid_internal_strconv_uint64pow10 : DataW Unit) = tabData .u64 pow10Tab by kernel_rfl] at h1
    exact block_of_tab h1 (by kernel_rfl) (by kernel_rfl) Tryz.underlying274 Tryz.underlying125 (by kernel_rfl) (by kernel_rfl)
  · have h4 := laidMet.reads h (n := "unicode/utf8.acceptRanges") (d := Rows.laid_unicode_utf8_acceptRanges) (by unfold laid23p Rows.bridgePlaysUptoRow; simp)
    have h3 := laidMet.reads h (n := "unicode/utf8.first") (d := Rows.laid_unicode_utf8_first) (by unfold laid23p Rows.bridgePlaysUptoRow; simp)
    rw [accept_eq] at h4
    rw [first_eq] at h3
    have ht := utf8Tabs_of_readsT (L := { u8 with }) u8_extra h3 h4
    exact ⟨fun c hc => ht.1 c hc, fun i hi => ht.2 i hi⟩
abbrev RuleQ := ByteArray × Int × Int × ByteArray × ByteArray
abbrev encRq (x : RuleQ) : List Value := [.string x.1, .int .i64 x.2.1, .int .i64 x.2.2.1, .string x.2.2.2.1, .string x.2.2.2.2]
abbrev goodRq (top : Nat) (x : RuleQ) : Prop := x.1.size ≤ top ∧ (Lit.int .i64 x.2.1).wf = true ∧ (Lit.int .i64 x.2.2.1).wf = true ∧ x.2.2.2.1.size ≤ top ∧ x.2.2.2.2.size ≤ top
abbrev ActQ := Int × MsG × Int × Int
abbrev encAq (a : ActQ) : List Value := [.int .i64 a.1] ++ (encMG a.2.1 ++ ([.int .i64 a.2.2.1] ++ [.int .u8 a.2.2.2]))
abbrev goodAq (top : Nat) (a : ActQ) : Prop := (Lit.int .i64 a.1).wf = true ∧ goodM23 top a.2.1 ∧ (Lit.int .i64 a.2.2.1).wf = true ∧ (Lit.int .u8 a.2.2.2).wf = true
section
variable {H : Type} {ec : TypeId × Value → H} {w : World} {base : Nat} {sp : Nat → Bool} {held : Bool} {ok : TypeId → DataW H → Prop} {top : Nat} {wt : TypeId → Nat}
theorem rd_Rule23 (hk : Go.R.OkLaw Tryz.prog ok top wt) : Go.R.RdG ec Tryz.prog w base sp held ok 127 encRq (goodRq top) :=
  Go.R.rg_struct hk Tryz.underlying127 (n := 5) (by kernel_rfl)
    (Go.R.rf_cons (c := 1) (by kernel_rfl) (by rfl) (Go.R.rg_str hk Tryz.underlying9) (Go.R.rf_cons (c := 1) (by kernel_rfl) (by rfl) (Go.R.rg_int Tryz.underlying3) (Go.R.rf_cons (c := 1) (by kernel_rfl) (by rfl) (Go.R.rg_int Tryz.underlying3)
      (Go.R.rf_cons (c := 1) (by kernel_rfl) (by rfl) (Go.R.rg_str hk Tryz.underlying9) (Go.R.rf_one (c := 1) (by kernel_rfl) (by rfl) (by decide) (Go.R.rg_str hk Tryz.underlying9))))))
theorem rd_Rules23 (hk : Go.R.OkLaw Tryz.prog ok top wt) : Go.R.RdG ec Tryz.prog w base sp held ok 61 (fun x : Slc × List RuleQ => [.slice x.1.a x.1.len x.1.cap]) (Go.R.GoodG encRq 5 (wt 127) top w.heap (goodRq top)) :=
  Go.R.rg_slice hk Tryz.underlying61 (by kernel_rfl) rfl (rd_Rule23 hk)
theorem rd_Act23 (hk : Go.R.OkLaw Tryz.prog ok top wt) : Go.R.RdG ec Tryz.prog w base sp held ok 78 encAq (goodAq top) :=
  Go.R.rg_struct hk Tryz.underlying78 (n := 8) (by kernel_rfl)
    (Go.R.rf_cons (c := 1) (by kernel_rfl) (by rfl) (Go.R.rg_int Tryz.underlying3) (Go.R.rf_cons (c := 5) (by kernel_rfl) (by rfl) (rd_Msg23 hk) (Go.R.rf_cons (c := 1) (by kernel_rfl) (by rfl) (Go.R.rg_int Tryz.underlying3)
      (Go.R.rf_one (c := 1) (by kernel_rfl) (by rfl) (by decide) (Go.R.rg_int Tryz.underlying5)))))
theorem rd_Acts23 (hk : Go.R.OkLaw Tryz.prog ok top wt) : Go.R.RdG ec Tryz.prog w base sp held ok 62 (fun x : Slc × List ActQ => [.slice x.1.a x.1.len x.1.cap]) (Go.R.GoodG encAq 8 (wt 78) top w.heap (goodAq top)) :=
  Go.R.rg_slice hk Tryz.underlying62 (by kernel_rfl) rfl (rd_Act23 hk)
theorem rd_Lab23 (hk : Go.R.OkLaw Tryz.prog ok top wt) : Go.R.RdG ec Tryz.prog w base sp held ok 64 (fun x : Int × Int × Int × Int => [.int .i64 x.1, .int .i64 x.2.1, .int .i64 x.2.2.1, .int .i64 x.2.2.2]) (fun x => (Lit.int .i64 x.1).wf = true ∧ (Lit.int .i64 x.2.1).wf = true ∧ (Lit.int .i64 x.2.2.1).wf = true ∧ (Lit.int .i64 x.2.2.2).wf = true) :=
  Go.R.rg_struct hk Tryz.underlying64 (n := 4) (by kernel_rfl)
    (Go.R.rf_cons (c := 1) (by kernel_rfl) (by rfl) (Go.R.rg_int Tryz.underlying3) (Go.R.rf_cons (c := 1) (by kernel_rfl) (by rfl) (Go.R.rg_int Tryz.underlying2) (Go.R.rf_cons (c := 1) (by kernel_rfl) (by rfl) (Go.R.rg_int Tryz.underlying3)
      (Go.R.rf_one (c := 1) (by kernel_rfl) (by rfl) (by decide) (Go.R.rg_int Tryz.underlying3)))))
end
theorem rules_row {h : Heap} {s : Slc} {xs : List RuleQ} (hr : RowAt encRq 5 h s xs) : RowAt encRu 5 h s (xs.map fun x => ((x.1, x.2.1, x.2.2.1, x.2.2.2.1, x.2.2.2.2, ()) : RuleT)) := by
  refine ⟨by rw [hr.1, List.length_map], hr.2.1, fun i x hx => ?_⟩
  rw [List.getElem?_map] at hx
  cases hy : xs[i]? with
  | none => rw [hy] at hx; cases hx
  | some y => rw [hy] at hx; cases hx; exact hr.2.2 i y hy
theorem u8_wf {n : Int} (h : (Lit.int .u8 n).wf = true) : 0 ≤ n ∧ n < 256 := by
  have : 0 ≤ n ∧ n ≤ 255 := by simpa [Lit.wf, IntKind.min, IntKind.max, IntKind.bits, IntKind.signed] using h
  omega
end Go.Proofs.YtfhalebbcbgbdaaGreatDoor
