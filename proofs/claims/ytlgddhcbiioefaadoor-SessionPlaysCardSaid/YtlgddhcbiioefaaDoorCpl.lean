/-
  Cpl: contracts: flows that are off; what is known of sessions.
-/
import Derived.Test.YtlgddhcbiioefaaDoorCsel
import Derived.Test.YtlgddhcbiioefaaDoorCidu
namespace Go.Proofs.YtlgddhcbiioefaaDoor
open Go.H Go.Proofs
set_option linter.unusedSimpArgs false
set_option linter.unusedVariables false
set_option synthInstance.maxSize 100000
set_option synthInstance.maxHeartbeats 400000

variable {h : Heap} {R : List Asn}

theorem own_reads {α : Type} {enc : α → List Value} {size : Nat} (henc : ∀ x, (enc x).length = size) {s : Slc} {xs : List α} (hs : sat h (ownS enc size s xs :: R)) : srcSlc size s h (xs.flatMap enc).toArray := by
  rcases ownS_cases hs with ⟨h1, h2, rfl, -⟩ | ⟨b, o, cs, ho, hs'⟩
  · unfold srcSlc
    rw [h1, Nat.zero_mul]
    cases s.a with
    | none => simp [readsH]
    | some a => exact ⟨rfl, fun i v hv => by simp at hv⟩
  · unfold srcSlc
    rw [ho.a]
    refine ⟨by rw [List.size_toArray, flat_len henc, ← ho.len], fun i v hv => ?_⟩
    have hf := ho.front
    have hv' : (xs.flatMap enc)[i]? = some v := by simpa using hv
    rw [← hf] at hv'
    have hi : i < s.len * size := by
      have := (List.getElem?_eq_some_iff.1 hv').1
      rw [List.length_take] at this
      omega
    rw [List.getElem?_take_of_lt hi, List.getElem?_drop] at hv'
    rw [Addr.add_at, hs'.cell]
    simpa using hv'

theorem eM_len (x : MsT) : (encM x).length = 5 := rfl
theorem eM_cell (x : MsT) : ∀ v ∈ encM x, v.oneCell' = true := by
  intro v hv; simp at hv; rcases hv with rfl | rfl | rfl | rfl | rfl <;> rfl

/-! ### flows that are off -/

theorem goOn_off {b : Nat} {o : OutS} (hs : sat h (outA b o :: R)) (hoff : o.on = false) (s : Slc) {Q : Value → Heap → Prop} (hq : Q (.slice s.a s.len s.cap) h) :
    HCalls Tryd.prog 50 #[at0 b, .slice s.a s.len s.cap] h Q := by
  refine outflow_Flow_goOn_calls (some ⟨b, 0, none⟩) s h Q ?_
  obtain ⟨pb, fl, wt, hs⟩ := outA_iff.1 hs
  have c2 : cellH h ⟨b, 2, none⟩ = some (.bool false) := by rw [← hoff]; exact hs.cell 2
  unfold outflow_Flow_goOn
  refine loop_of (fun s' h' => s' = (s, ()) ∧ h' = h) (fun _ _ => 0) ⟨rfl, rfl⟩ ?_
  rintro _ h0 ⟨rfl, rfl⟩
  refine bind_cut (fun x h' => h' = h0 ∧ x.1 = false) ?_ ?_
  · refine ⟨_, rfl, false, by rw [add_own]; exact c2, ?_⟩
    (try dsimp only); rw [HM.ite_apply, if_neg (by simp)]
    exact ⟨rfl, rfl⟩
  rintro ⟨x, ⟨⟩⟩ h1 ⟨rfl, hx⟩
  simp only at hx
  subst hx
  rw [HM.ite_apply, if_neg (by simp)]
  exact hq

/-- what one is told of a message to be sent while it is off, and what is there then -/
def sendR (o : OutS) (m : MsT) : Int × OutS := if 256 ≤ o.waiting.length then (151, o) else (0, { o with waiting := o.waiting ++ [m] })

/-- the message that the law sends -/
abbrev mT : MsT := (ByteArray.mk #[116], ByteArray.mk #[], 1, false, ByteArray.mk #[])
abbrev vT : Value := .agg #[.string (ByteArray.mk #[116]), .string (ByteArray.mk #[]), .int .i64 1, .bool false, .string (ByteArray.mk #[])]

theorem Send_off {b : Nat} {o : OutS} (hs : sat h (outA b o :: R)) (hoff : o.on = false) {Q : Value → Heap → Prop}
    (hq : ∀ h', sat h' (outA b (sendR o mT).2 :: R) → Q (.tuple #[.slice none 0 0, .int .u8 (sendR o mT).1]) h') :
    HCalls Tryd.prog 16 #[at0 b, vT] h Q := by
  refine outflow_Flow_Send_calls (some ⟨b, 0, none⟩) (ByteArray.mk #[116], ByteArray.mk #[], 1, false, ByteArray.mk #[], ()) h Q ?_
  obtain ⟨pb, fl, wt, hs⟩ := outA_iff.1 hs
  have hwl : wt.len = o.waiting.length := (hs.re [3, 0, 1, 2]).own_len
  unfold outflow_Flow_Send
  refine new_cells hs fun mb h1 hs1 => ?_
  have hM : ∀ {h' : Heap} {R' : List Asn}, sat h' (cells mb (encM mT).toArray :: R') → cellH h' ⟨mb, 2, none⟩ = some (.int .i64 1) := fun hs' => hs'.cell 2
  have hs1' : sat h1 (cells mb (encM mT).toArray :: cells b #[at0 pb, .int .i64 o.most, .bool o.on, .slice fl.a fl.len fl.cap, .slice wt.a wt.len wt.cap] :: poolA pb o.pool :: ownS encF 7 fl o.flights :: ownS encM 5 wt o.waiting :: R) := hs1
  clear hs1
  have c4 : cellH h1 ⟨b, 4, none⟩ = some (.slice wt.a wt.len wt.cap) := hs1'.p1.cell 4
  (try dsimp only); rw [HM.ite_apply, if_neg (by simp)]
  refine bind_cut (fun x h' => h' = h1 ∧ x.1 = false) ?_ ?_
  · refine ⟨1, by rw [add_own]; exact hM hs1', ?_⟩
    (try dsimp only); rw [HM.ite_apply, if_neg (by decide)]
    exact ⟨1, by rw [add_own]; exact hM hs1', rfl, rfl⟩
  rintro ⟨x, ⟨⟩⟩ h2 ⟨rfl, hx⟩
  simp only at hx
  subst hx
  rw [HM.ite_apply, if_neg (by simp)]
  refine bind_cut (fun x h' => h' = h2 ∧ x.1 = false) ?_ ?_
  · refine ⟨1, by rw [add_own]; exact hM hs1', ?_⟩
    (try dsimp only); rw [HM.ite_apply, if_neg (by decide)]
    exact ⟨rfl, rfl⟩
  rintro ⟨x, ⟨⟩⟩ h3 ⟨rfl, hx⟩
  simp only at hx
  subst hx
  rw [HM.ite_apply, if_neg (by simp)]
  refine ⟨_, rfl, wt, by rw [add_own]; exact c4, ?_⟩
  (try dsimp only); rw [HM.ite_apply]
  unfold sendR at hq
  by_cases hf : 256 ≤ o.waiting.length
  · rw [if_pos (by simp only [decide_eq_true_eq]; omega)]
    rw [if_pos hf] at hq
    exact hq h3 (outA_iff.2 ⟨pb, fl, wt, hs1'.drop⟩)
  rw [if_neg (by simp only [decide_eq_true_eq]; omega)]
  rw [if_neg hf] at hq
  refine ⟨_, rfl, wt, by rw [add_own]; exact c4, ?_⟩
  refine loadN_cells (ts := [.str, .str, .int .i64, .bool, .str]) (ByteArray.mk #[116], ByteArray.mk #[], 1, false, ByteArray.mk #[], ()) hs1' rfl ?_
  refine new_cells hs1' fun nb h4 hs4 => ?_
  have hs4' : sat h4 (cells nb (encM mT).toArray :: cells mb (encM mT).toArray :: cells b #[at0 pb, .int .i64 o.most, .bool o.on, .slice fl.a fl.len fl.cap, .slice wt.a wt.len wt.cap] :: poolA pb o.pool :: ownS encF 7 fl o.flights :: ownS encM 5 wt o.waiting :: R) := hs4
  clear hs4
  refine ⟨wt, by rw [add_own]; exact (hs4'.re [2, 0, 1]).cell 4, rfl, ?_⟩
  rw [HM.bind_apply]
  refine append_own (ys := [mT]) eM_len eM_cell rfl (hs4'.re [5, 0, 1, 2, 3, 4]) rfl ?_ (by decide) (by decide) (by omega) fun wt' h5 hs5 => ?_
  · simp only [srcSlc, Nat.one_mul, List.flatMap_cons, List.flatMap_nil, List.append_nil]
    exact hs4'.reads rfl
  refine ⟨_, rfl, ?_⟩
  (try dsimp only); rw [HM.bind_apply, add_own]
  refine store1_cells (hs5.re [3, 0, 1, 2, 4, 5]) (by simp) rfl fun h6 hs6 => ?_
  have hs7 : sat h6 (cells b #[at0 pb, .int .i64 o.most, .bool o.on, .slice fl.a fl.len fl.cap, .slice wt'.a wt'.len wt'.cap] :: poolA pb o.pool :: ownS encF 7 fl o.flights :: ownS encM 5 wt' (o.waiting ++ [mT]) :: R) :=
    (hs6.re [2, 3, 0, 4, 5, 1]).drop.drop
  have hs8 : sat h6 (outA b { o with waiting := o.waiting ++ [mT] } :: R) := outA_iff.2 ⟨pb, fl, wt', hs7⟩
  refine bind_call1 (goOn_off hs8 hoff ⟨none, 0, 0⟩ ⟨⟨none, 0, 0⟩, rfl, ?_⟩)
  exact hq h6 hs8

theorem Send_nil (hs : sat h R) {Q : Value → Heap → Prop} (hq : ∀ h', sat h' R → Q (.tuple #[.slice none 0 0, .int .u8 128]) h') :
    HCalls Tryd.prog 16 #[.pointer none, vT] h Q := by
  refine outflow_Flow_Send_calls none (ByteArray.mk #[116], ByteArray.mk #[], 1, false, ByteArray.mk #[], ()) h Q ?_
  unfold outflow_Flow_Send
  refine new_cells hs fun mb h1 hs1 => ?_
  (try dsimp only); rw [HM.ite_apply, if_pos (by rfl)]
  exact hq h1 hs1.drop

theorem Clone_spec {s : Slc} {xs : List MsT} (hs : sat h (ownS encM 5 s xs :: R)) (hl : xs.length ≤ 300) {Q : Value → Heap → Prop}
    (hq : ∀ (s' : Slc) h', s'.len = xs.length → sat h' (ownS encM 5 s xs :: R) → Q (.slice s'.a s'.len s'.cap) h') :
    HCalls Tryd.prog 52 #[.slice s.a s.len s.cap] h Q := by
  refine slices_Clone_calls s h Q ?_
  unfold slices_Clone
  rw [HM.ite_apply]
  cases ha : s.a with
  | none =>
    rw [if_pos (by rfl)]
    refine hq ⟨none, 0, 0⟩ h ?_ hs
    rcases ownS_cases hs with ⟨h1, h2, rfl, -⟩ | ⟨b, o, cs, ho, -⟩
    · rfl
    · rw [ho.a] at ha; cases ha
  | some a =>
    rw [if_neg (by simp)]
    refine new_cells hs fun b h1 hs1 => ?_
    have hlen : s.len = xs.length := hs.own_len
    have hsrc := own_reads eM_len hs1.p1
    have hs2 := ownS_none (enc := encM) (size := 5) (a := some ⟨b, 0, none⟩) hs1.drop
    dsimp only
    rw [HM.bind_apply]
    refine append_own (ys := xs) eM_len eM_cell rfl hs2 hlen.symm ?_ (by decide) (by decide) (by rw [hlen]; simp; omega) fun s' h2 hs3 => ?_
    · exact hsrc
    · have := hs3.own_len
      exact hq s' h2 (by simpa using this) hs3.drop

theorem Waiting_spec {b : Nat} {o : OutS} (hs : sat h (outA b o :: R)) (hl : o.waiting.length ≤ 300) {Q : Value → Heap → Prop}
    (hq : ∀ (s' : Slc) h', s'.len = o.waiting.length → sat h' (outA b o :: R) → Q (.slice s'.a s'.len s'.cap) h') :
    HCalls Tryd.prog 18 #[at0 b] h Q := by
  refine outflow_Flow_Waiting_calls (some ⟨b, 0, none⟩) h Q ?_
  obtain ⟨pb, fl, wt, hs⟩ := outA_iff.1 hs
  have c4 : cellH h ⟨b, 4, none⟩ = some (.slice wt.a wt.len wt.cap) := hs.cell 4
  unfold outflow_Flow_Waiting
  rw [HM.ite_apply, if_neg (by simp)]
  refine ⟨_, rfl, wt, by rw [add_own]; exact c4, ?_⟩
  refine bind_call1 (Clone_spec (hs.re [3, 0, 1, 2]) hl fun s' h1 h2 hs1 => ⟨s', rfl, ?_⟩)
  exact hq s' h1 h2 (outA_iff.2 ⟨pb, fl, wt, hs1.re [1, 2, 3, 0]⟩)

theorem Open_spec {f : Nat} {s : PoolS} (hs : sat h (flowA f s :: R)) {Q : Value → Heap → Prop}
    (hq : ∀ (sl : Slc) h', sl.len = s.used.length → sat h' (flowA f s :: R) → Q (.slice sl.a sl.len sl.cap) h') : HCalls Tryd.prog 27 #[at0 f] h Q := by
  refine inflow_Flow_Open_calls (some ⟨f, 0, none⟩) h Q ?_
  obtain ⟨b, hs⟩ := flowA_iff.1 hs
  have c0 : cellH h ⟨f, 0, none⟩ = some (at0 b) := hs.cell 0
  unfold inflow_Flow_Open
  rw [HM.ite_apply, if_neg (by simp)]
  refine ⟨_, rfl, some ⟨b, 0, none⟩, by rw [add_own]; exact c0, ?_⟩
  refine bind_call1 (Used_spec hs.p1 fun sl h1 hs1 => ⟨sl, rfl, ?_⟩)
  refine hq sl h1 ?_ (flowA_iff.2 ⟨b, (hs1.re [2, 1, 0]).p2.drop⟩)
  have := hs1.own_len
  rw [this]
  simp [sortI, List.length_mergeSort]

end Go.Proofs.YtlgddhcbiioefaaDoor
