/-
  Crep: contracts: the document's reading of labels.
-/
import Derived.Test.YtfhalebbcbgbdaaGreatDoorCref
namespace Go.Proofs.YtfhalebbcbgbdaaGreatDoor
open Go.H Go.Proofs Go.Lib
set_option linter.unusedSimpArgs false
set_option linter.unusedVariables false
set_option synthInstance.maxSize 100000
set_option synthInstance.maxHeartbeats 400000

variable {h : Heap} {R : List Asn}

theorem byte_atR {s : ByteArray} {k : Nat} {b : UInt8} (hb : s.data.toList[k]? = some b) : s[k]? = some b := by
  rw [Array.getElem?_toList] at hb
  obtain ⟨hlt, he⟩ := Array.getElem?_eq_some_iff.1 hb
  have hlt' : k < s.size := hlt
  rw [getElem?_pos s k hlt']
  exact congrArg some he
theorem byte_drop {s : ByteArray} {at' k : Nat} {b : UInt8} (hb : (s.data.toList.drop at')[k]? = some b) : s[at' + k]? = some b := by
  rw [List.getElem?_drop] at hb
  exact byte_atR hb
theorem digs_stop : ∀ (l : List UInt8) (c : UInt8), l[(digs l).length]? = some c → isDig c = false
  | [], c, h => by simp at h
  | a :: l, c, h => by
    by_cases ha : isDig a = true
    · have e : digs (a :: l) = a :: digs l := by simp [digs, List.takeWhile_cons, ha]
      rw [e] at h
      exact digs_stop l c (by simpa using h)
    · have e : digs (a :: l) = [] := by simp [digs, List.takeWhile_cons, ha]
      rw [e] at h
      simp at h
      rw [← h]
      simpa using ha
theorem digs_le (l : List UInt8) : (digs l).length ≤ l.length := by
  have := congrArg List.length (digs_take l)
  rw [List.length_take] at this
  omega
theorem digs_get {l : List UInt8} {i : Nat} (hi : i < (digs l).length) : l[i]? = some ((digs l)[i]) := by
  have : (l.take (digs l).length)[i]? = (digs l)[i]? := by rw [digs_take]
  rw [List.getElem?_take_of_lt hi] at this
  rw [this]
  exact List.getElem?_eq_getElem hi

def numV (at' : Nat) : Option (Nat × Nat) → Value
  | some (n, k) => .tuple #[.int .i64 n, .int .i64 ((at' + k : Nat) : Int)]
  | none => .tuple #[.int .i64 (-1), .int .i64 at']

set_option maxRecDepth 100000 in
theorem number_spec (hs : sat h R) {s : ByteArray} {at' : Nat} (hat : at' ≤ s.size) (hsz : s.size ≤ 1048576) {Q : Value → Heap → Prop} (hq : ∀ h', sat h' R → Q (numV at' (numR (s.data.toList.drop at'))) h') :
    HCalls Tryz.prog 63 #[.string s, .int .i64 at'] h Q := by
  refine ref16_number_calls s at' h Q ?_
  unfold ref16_number
  generalize hl : s.data.toList.drop at' = l at hq
  have hll : l.length = s.size - at' := by
    rw [← hl, List.length_drop]
    show s.data.toList.length - at' = s.data.size - at'
    rw [Array.length_toList]
  have hdl := digs_le l
  refine loop_gx (γ := Nat) (hb := fun s => by
    repeat' with_reducible first
      | refine @mono_bind _ _ _ _ ?_ (fun _ => ?_)
      | refine @mono_ite _ _ _ _ ?_ ?_
      | refine @mono_req _ _ _ ?_
    all_goals infer_instance)
    (fun i c h' => c.1 = ((valD 0 ((digs l).take i) : Nat) : Int) ∧ c.2.1 = ((at' + i : Nat) : Int) ∧ i ≤ (digs l).length ∧ i ≤ 17 ∧ sat h' R)
    (fun i => (digs l).length - i) 0 ⟨by simp [valD], by simp, Nat.zero_le _, by omega, hs⟩ ?_
  rintro i ⟨c1, c2, ⟨⟩⟩ h1 ⟨e1, e2, hi, hi17, hs1⟩
  simp only at e1 e2
  subst e1 e2
  have hbyte : ∀ (b : UInt8), l[i]? = some b → s[((at' + i : Nat) : Int).toNat]? = some b := fun b hb => by
    rw [← hl] at hb
    rw [Int.toNat_natCast]
    exact byte_drop hb
  by_cases hid : i < (digs l).length
  · have hg := digs_get hid
    have hdg := digs_all l _ (List.getElem_mem hid)
    have hsn : (digs l).take (i + 1) = (digs l).take i ++ [(digs l)[i]] := List.take_succ_eq_append_getElem hid
    generalize (digs l)[i] = b at hg hdg hsn
    have hb := hbyte b hg
    have hbn : 48 ≤ b.toNat ∧ b.toNat ≤ 57 := by simpa [isDig] using hdg
    refine bind_cut (fun x h' => h' = h1 ∧ x.1 = true) ?_ ?_
    · (try dsimp only); rw [HM.ite_apply, if_pos (by simp only [decide_eq_true_eq]; omega)]
      refine ⟨b, by omega, hb, ?_⟩
      (try dsimp only); rw [HM.ite_apply, if_pos (by simp only [decide_eq_true_eq]; omega)]
      refine ⟨b, by omega, hb, rfl, ?_⟩
      simp only [decide_eq_true_eq]; omega
    rintro ⟨x, ⟨⟩⟩ h2 ⟨rfl, hx⟩
    simp only at hx
    subst hx
    (try dsimp only); rw [HM.ite_apply, if_pos rfl, HM.ite_apply]
    have hw : IntKind.wrap .i64 (((at' + i : Nat) : Int) - (at' : Int)) = (i : Int) := by rw [wrap_id (by omega) (by omega)]; omega
    (try dsimp only)
    rw [hw]
    by_cases h17 : 17 ≤ i
    · rw [if_pos (by simp only [decide_eq_true_eq]; omega)]
      simp only [Sum.elim_inl, Sum.elim_inr, HM.pure_apply]
      have : numR l = none := by
        unfold numR
        rw [if_pos (.inl (by omega))]
      have hq' := hq h2 hs1
      rw [this] at hq'
      exact hq'
    · rw [if_neg (by simp only [decide_eq_true_eq]; omega)]
      refine ⟨b, by omega, hb, ?_⟩
      simp only [Sum.elim_inl, Sum.elim_inr, HM.pure_apply]
      have hv : valD 0 ((digs l).take i) < 10 ^ (0 + ((digs l).take i).length) := valD_lt _ 0 0 (by decide) (fun c hc => digs_all l c (List.mem_of_mem_take hc))
      have hti : ((digs l).take i).length = i := by rw [List.length_take]; omega
      rw [hti, Nat.zero_add] at hv
      have hv17 : valD 0 ((digs l).take i) < 10 ^ 17 := Nat.lt_of_lt_of_le hv (Nat.pow_le_pow_right (by decide) (by omega))
      have hsv := valD_snoc 0 ((digs l).take i) b
      rw [← hsn] at hsv
      generalize valD 0 ((digs l).take i) = v at hv17 hsv
      refine .mk (i + 1) (by omega) ⟨?_, ?_, by omega, by omega, hs1⟩
      · rw [hsv]
        have w1 : IntKind.wrap .i64 (10 * (v : Int)) = 10 * (v : Int) := wrap_id (by omega) (by omega)
        have w2 : IntKind.wrap .u8 ((b.toNat : Int) - 48) = ((b.toNat - 48 : Nat) : Int) := by
          simp [IntKind.wrap, IntKind.bits, IntKind.signed]; omega
        have w3 : IntKind.wrap .i64 ((b.toNat - 48 : Nat) : Int) = ((b.toNat - 48 : Nat) : Int) := wrap_id (by omega) (by omega)
        simp only []
        rw [w1, w2, w3, wrap_id (by omega) (by omega)]
        omega
      · simp only []
        rw [wrap_id (by omega) (by omega)]
        omega
  · have hie : i = (digs l).length := by omega
    refine bind_cut (fun x h' => h' = h1 ∧ x.1 = false) ?_ ?_
    · (try dsimp only); rw [HM.ite_apply]
      by_cases hlt : at' + i < s.size
      · rw [if_pos (by simp only [decide_eq_true_eq]; omega)]
        have hil : i < l.length := by omega
        have hg : l[i]? = some l[i] := List.getElem?_eq_getElem hil
        have hst := digs_stop l l[i] (by rw [← hie]; exact hg)
        generalize l[i] = b at hg hst
        have hb := hbyte b hg
        have hbn : ¬ (48 ≤ b.toNat ∧ b.toNat ≤ 57) := by simpa [isDig] using hst
        refine ⟨b, by omega, hb, ?_⟩
        (try dsimp only); rw [HM.ite_apply]
        by_cases h48 : 48 ≤ b.toNat
        · rw [if_pos (by simp only [decide_eq_true_eq]; omega)]
          refine ⟨b, by omega, hb, rfl, ?_⟩
          simp only [decide_eq_false_iff_not]; omega
        · rw [if_neg (by simp only [decide_eq_true_eq]; omega)]
          exact ⟨rfl, rfl⟩
      · rw [if_neg (by simp only [decide_eq_true_eq]; omega)]
        exact ⟨rfl, rfl⟩
    rintro ⟨x, ⟨⟩⟩ h2 ⟨rfl, hx⟩
    simp only at hx
    subst hx
    (try dsimp only); rw [HM.ite_apply, if_neg (by simp)]
    simp only [Sum.elim_inl, Sum.elim_inr, HM.pure_apply]
    have htk : (digs l).take i = digs l := List.take_of_length_le (by omega)
    rw [htk]
    refine bind_cut (fun x h' => h' = h2 ∧ (x.1 = true ↔ numR l = none)) ?_ ?_
    · (try dsimp only); rw [HM.ite_apply]
      by_cases h0 : i = 0
      · rw [if_pos (by simp [h0])]
        refine ⟨rfl, ?_⟩
        have : digs l = [] := List.eq_nil_of_length_eq_zero (by omega)
        simp [numR, this]
      · rw [if_neg (by simp; omega)]
        have hid0 : 0 < (digs l).length := by omega
        have hg := digs_get hid0
        have hhd : (digs l).head? = some (digs l)[0] := List.head?_eq_getElem? ▸ List.getElem?_eq_getElem hid0
        have hne : digs l ≠ [] := List.length_pos_iff.1 hid0
        generalize (digs l)[0] = b at hg hhd
        have hb : s[((at' : Nat) : Int).toNat]? = some b := by
          rw [← hl] at hg
          rw [Int.toNat_natCast]
          exact byte_drop hg
        refine ⟨b, by omega, hb, ?_⟩
        have h18 : ¬ 18 ≤ (digs l).length := by omega
        have hnr : numR l = none ↔ (b = 48 ∧ 1 < (digs l).length) := by
          unfold numR
          rw [hhd]
          simp [h18, hne]
        (try dsimp only); rw [HM.ite_apply]
        by_cases hb48 : b.toNat = 48
        · rw [if_pos (by simp [hb48])]
          refine ⟨rfl, ?_⟩
          have : b = 48 := UInt8.toNat_inj.1 hb48
          simp only [decide_eq_true_eq, hnr, this, true_and]
          rw [wrap_id (by omega) (by omega)]
          omega
        · rw [if_neg (by simp; omega)]
          refine ⟨rfl, ?_⟩
          have : b ≠ 48 := fun e => hb48 (by rw [e]; rfl)
          simp [hnr, this]
    rintro ⟨x, ⟨⟩⟩ h3 ⟨rfl, hx⟩
    simp only at hx
    have hq' := hq h3 hs1
    (try dsimp only); rw [HM.ite_apply]
    by_cases hn : numR l = none
    · rw [if_pos (hx.2 hn)]
      rw [hn] at hq'
      exact hq'
    · rw [if_neg (fun hh => hn (hx.1 hh))]
      have hn' : numR l = some (valD 0 (digs l), (digs l).length) := by
        unfold numR at hn ⊢
        split
        · rename_i hc
          rw [if_pos hc] at hn
          exact absurd rfl hn
        · rfl
      rw [hn', ← hie] at hq'
      exact hq'

end Go.Proofs.YtfhalebbcbgbdaaGreatDoor
