/-
  L23d: law BridgeDelays over heaps.
-/
import Derived.Test.YtmdagnoknmfhcaaDoorCbrg
import Derived.Test.YtmdagnoknmfhcaaDoorHar
namespace Go.Proofs.YtmdagnoknmfhcaaDoor
open Go.H Go.Proofs Go.Lib
set_option linter.unusedSimpArgs false
set_option linter.unusedVariables false
set_option synthInstance.maxSize 100000
set_option synthInstance.maxHeartbeats 400000
set_option maxRecDepth 100000

variable {h h0 : Heap} {R : List Asn}

theorem delay_zero (t l m : Int) : delayN t l m 0 = baseN t l m := by unfold delayN; simp
theorem delay_ge (t l m : Int) (d : Nat) : baseN t l m ≤ delayN t l m d := by unfold delayN; omega
theorem base_pos (t l m : Int) : 1 ≤ baseN t l m := by
  have h1 := leastN_le l
  have h2 := mostN_le l m
  have h3 := (dblN_le t.toNat (leastN l) (mostN l m) h2.1 h2.2).1
  unfold baseN
  omega
theorem base_next (t l m : Int) : baseN t l m ≤ baseN ((if 1099511627776 < t then 1099511627776 else t) + 1) l m := by
  unfold baseN
  have h1 := leastN_le l
  have h2 := mostN_le l m
  by_cases h3 : 1099511627776 < t
  · rw [if_pos h3]
    have e := dblN_long (1099511627776 + 1 : Int).toNat (leastN l) (mostN l m) h1.1 (by
      refine Nat.le_trans h2.2 ?_
      refine Nat.le_trans (show 1048576 ≤ 1 * 2 ^ 20 by decide) ?_
      exact Nat.mul_le_mul h1.1 (Nat.pow_le_pow_right (by decide) (by decide)))
    rw [e]
    omega
  · rw [if_neg h3]
    by_cases h4 : 0 ≤ t
    · have e : (t + 1).toNat = t.toNat + 1 := by omega
      rw [e]
      exact dblN_mono _ _ _
    · have e : t.toNat = 0 := by omega
      have e2 : (t + 1).toNat = 0 := by omega
      rw [e, e2]
      exact Nat.le_refl _
theorem delay_top (t l m : Int) (d : Nat) : (delayN t l m d : Int) ≤ (mostN l m : Int) + (mostN l m : Int) / 2 := by
  unfold delayN
  have h1 : baseN t l m ≤ mostN l m := by unfold baseN; omega
  have h2 := Nat.mod_lt d (show baseN t l m / 2 + 1 > 0 by omega)
  omega
theorem top_eq (l m : Int) : (if (if 1 < (if 1048576 < (l : Int) then 1048576 else l) then (if 1048576 < (l : Int) then 1048576 else l) else 1 : Int) < (if 1048576 < (m : Int) then 1048576 else m) then (if 1048576 < (m : Int) then 1048576 else m) else (if 1 < (if 1048576 < (l : Int) then 1048576 else l) then (if 1048576 < (l : Int) then 1048576 else l) else 1 : Int)) = ((mostN l m : Nat) : Int) := by
  rw [least_eq, most_eq]

theorem wf_u64 {x : Int} (h : (Lit.int .u64 x).wf = true) : 0 ≤ x ∧ x < 18446744073709551616 := by
  simp [Lit.wf, IntKind.min, IntKind.max, IntKind.signed, IntKind.bits] at h
  omega
theorem wf_i64 {x : Int} (h : (Lit.int .i64 x).wf = true) : -9223372036854775808 ≤ x ∧ x ≤ 9223372036854775807 := by
  simp [Lit.wf, IntKind.min, IntKind.max, IntKind.signed, IntKind.bits] at h
  omega

set_option maxHeartbeats 4000000 in
theorem BridgeDelays_spec {t l : Int} {a d : Nat} (hs : sat h (old h0 :: R)) (ht : TP h0) (ht1 : t ≤ 9223372036854775807) (ha : a < 18446744073709551616) (hd : d < 18446744073709551616) (ht0 : -9223372036854775808 ≤ t)
    {Q : Value → Heap → Prop} (hq : ∀ h' R', sat h' (old h0 :: R') → Q (.bool true) h') :
    HCalls Tryd.prog 11 #[.int .i64 t, .int .i64 l, .agg #[.int .u64 (a : Int), .int .u64 (d : Int)]] h Q := by
  refine law23_BridgeDelays_calls t l ((a : Int), (d : Int), ()) h Q ?_
  unfold law23_BridgeDelays
  refine new_cells hs fun x1 h1 hs1 => ?_
  have c0 : ∀ {h : Heap} {R : List Asn}, sat h (cells x1 #[.int .u64 (a : Int), .int .u64 (d : Int)] :: R) → cellH h ⟨x1, 0, none⟩ = some (.int .u64 (a : Int)) := fun hh => hh.cell 0
  have c1 : ∀ {h : Heap} {R : List Asn}, sat h (cells x1 #[.int .u64 (a : Int), .int .u64 (d : Int)] :: R) → cellH h ⟨x1, 1, none⟩ = some (.int .u64 (d : Int)) := fun hh => hh.cell 1
  generalize hm : IntKind.wrap .i64 (a : Int) = m
  refine ⟨⟨x1, 0, none⟩, rfl, by decide, by decide, ?_⟩
  refine ⟨(a : Int), by rw [add_own]; exact c0 hs1, ?_⟩
  refine ⟨⟨x1, 0, none⟩, rfl, by decide, by decide, ?_⟩
  refine ⟨(d : Int), by rw [add_own]; exact c1 hs1, ?_⟩
  (try dsimp only); rw [hm]
  refine bind_call1 (Delay_spec (t := t) (l := l) (m := m) (d := d) ht1 hd ⟨_, rfl, ?_⟩)
  refine bind_call1 (Delay_spec (t := t) (l := l) (m := m) (d := 0) ht1 (by decide) ⟨_, rfl, ?_⟩)
  have e1 : IntKind.wrap .i64 ((if 1099511627776 < (t : Int) then 1099511627776 else t) + 1) = (if 1099511627776 < (t : Int) then 1099511627776 else t) + 1 := wrap_id (by split <;> omega) (by split <;> omega)
  (try dsimp only); rw [e1]
  refine bind_call1 (Delay_spec (t := (if 1099511627776 < (t : Int) then 1099511627776 else t) + 1) (l := l) (m := m) (d := 0) (by split <;> omega) (by decide) ⟨_, rfl, ?_⟩)
  refine bind_cut (fun z h' => z.1 = true ∧ ∃ R', sat h' (old h0 :: R')) ?_ ?_
  · refine bind_call1 (wakes23_spec (R := cells x1 #[.int .u64 (a : Int), .int .u64 (d : Int)] :: R) hs1.p1 ht fun h2 hs2 => ⟨true, rfl, ?_⟩)
    have hs3 := hs2.p1
    (try dsimp only); rw [HM.ite_apply, if_pos rfl]
    refine ⟨⟨x1, 0, none⟩, rfl, by decide, by decide, ?_⟩
    refine ⟨(d : Int), by rw [add_own]; exact c1 hs3, ?_⟩
    refine bind_call1 (rDelay_spec (t := t) (l := l) (m := m) (d := d) hd ht1 ⟨_, rfl, ?_⟩)
    (try dsimp only); rw [HM.ite_apply, if_pos (by simp)]
    have b0 := base_pos t l m
    have b1 := delay_ge t l m d
    have b2 := base_next t l m
    have b3 := delay_top t l m d
    have b4 := mostN_le l m
    (try dsimp only); rw [delay_zero, delay_zero, HM.ite_apply, if_pos (by simp only [decide_eq_true_eq]; omega)]
    (try dsimp only); rw [HM.ite_apply, if_pos (by simp only [decide_eq_true_eq]; omega)]
    (try dsimp only); rw [HM.ite_apply, if_pos (by simp only [decide_eq_true_eq]; omega)]
    refine ⟨by decide, ?_⟩
    refine ⟨?_, _, hs2⟩
    (try dsimp only)
    rw [top_eq, decide_eq_true_eq]
    have e2 : Int.tdiv ((mostN l m : Nat) : Int) 2 = ((mostN l m : Nat) : Int) / 2 := Int.tdiv_eq_ediv_of_nonneg (by omega)
    rw [e2, wrap_id (n := ((mostN l m : Nat) : Int) / 2) (by omega) (by omega), wrap_id (by omega) (by omega)]
    exact b3
  rintro ⟨z, ⟨⟩⟩ h2 ⟨hz, R2, hs2⟩
  simp only at hz
  subst hz
  exact hq _ _ hs2

end Go.Proofs.YtmdagnoknmfhcaaDoor
