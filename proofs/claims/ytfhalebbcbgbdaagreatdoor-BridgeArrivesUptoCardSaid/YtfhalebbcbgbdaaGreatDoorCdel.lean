/-
  Cdel: contracts: how long a bridge waits ahead of a try (the program, the document).
-/
import Derived.Test.YtfhalebbcbgbdaaGreatDoorHB
import Derived.Test.YtfhalebbcbgbdaaGreatDoorSh
namespace Go.Proofs.YtfhalebbcbgbdaaGreatDoor
open Go.H Go.Proofs
set_option linter.unusedSimpArgs false
set_option linter.unusedVariables false
set_option synthInstance.maxSize 100000
set_option synthInstance.maxHeartbeats 400000
set_option maxRecDepth 100000

/-- doubled as often as may be -/
def dblN : Nat → Nat → Nat → Nat
  | 0, n, _ => n
  | k + 1, n, m => if n < m then dblN k (2 * n) m else n
def leastN (l : Int) : Nat := (max 1 (min l 1048576)).toNat
def mostN (l m : Int) : Nat := (max ((leastN l : Nat) : Int) (min m 1048576)).toNat
/-- the delay without its draw -/
def baseN (t l m : Int) : Nat := min (dblN t.toNat (leastN l) (mostN l m)) (mostN l m)
def delayN (t l m : Int) (d : Nat) : Nat := baseN t l m + d % (baseN t l m / 2 + 1)

theorem leastN_le (l : Int) : 1 ≤ leastN l ∧ leastN l ≤ 1048576 := by unfold leastN; omega
theorem mostN_le (l m : Int) : leastN l ≤ mostN l m ∧ mostN l m ≤ 1048576 := by
  have := leastN_le l
  unfold mostN
  omega
theorem dblN_le : ∀ (k n m : Nat), n ≤ m → m ≤ 1048576 → n ≤ dblN k n m ∧ dblN k n m ≤ 2097152
  | 0, n, m, h1, h2 => by unfold dblN; omega
  | k + 1, n, m, h1, h2 => by
    unfold dblN
    split
    · rename_i h
      by_cases h3 : 2 * n ≤ m
      · have := dblN_le k (2 * n) m h3 h2
        omega
      · have e : dblN k (2 * n) m = 2 * n := by
          cases k with
          | zero => rfl
          | succ k => unfold dblN; rw [if_neg (by omega)]
        rw [e]
        omega
    · omega
theorem dblN_full {k n m : Nat} (h : ¬ n < m) : dblN k n m = n := by
  cases k with
  | zero => rfl
  | succ k => unfold dblN; rw [if_neg h]
theorem dblN_mono : ∀ (k n m : Nat), min (dblN k n m) m ≤ min (dblN (k + 1) n m) m
  | 0, n, m => by
    show min n m ≤ min (if n < m then dblN 0 (2 * n) m else n) m
    split
    · show min n m ≤ min (2 * n) m
      omega
    · omega
  | k + 1, n, m => by
    by_cases h : n < m
    · have e1 : dblN (k + 1) n m = dblN k (2 * n) m := by conv => lhs; unfold dblN; rw [if_pos h]
      have e2 : dblN (k + 2) n m = dblN (k + 1) (2 * n) m := by conv => lhs; unfold dblN; rw [if_pos h]
      rw [e1, e2]
      exact dblN_mono k (2 * n) m
    · rw [dblN_full h, dblN_full h]
      exact Nat.le_refl _
theorem dblN_long : ∀ (k n m : Nat), 1 ≤ n → m ≤ n * 2 ^ k → min (dblN k n m) m = m
  | 0, n, m, h1, h2 => by unfold dblN; omega
  | k + 1, n, m, h1, h2 => by
    unfold dblN
    split
    · refine dblN_long k (2 * n) m (by omega) ?_
      rw [Nat.pow_succ] at h2
      rw [Nat.mul_comm 2 n, Nat.mul_assoc, Nat.mul_comm 2]
      exact h2
    · omega

variable {h : Heap}

theorem least_eq (l : Int) : (if 1 < ((if 1048576 < (l : Int) then 1048576 else l) : Int) then (if 1048576 < (l : Int) then 1048576 else l) else 1) = ((leastN l : Nat) : Int) := by
  unfold leastN
  split <;> split <;> omega
theorem most_eq (l m : Int) : (if ((leastN l : Nat) : Int) < ((if 1048576 < (m : Int) then 1048576 else m) : Int) then (if 1048576 < (m : Int) then 1048576 else m) else ((leastN l : Nat) : Int)) = ((mostN l m : Nat) : Int) := by
  unfold mostN
  split <;> split <;> omega
theorem draw_eq {B d : Nat} (hB : 1 ≤ B ∧ B ≤ 1048576) (hd : d < 18446744073709551616) :
    IntKind.wrap .u64 (IntKind.wrap .i64 ((IntKind.wrap .i64 (Int.tdiv (B : Int) 2)) + 1)) = ((B / 2 + 1 : Nat) : Int) ∧
    IntKind.wrap .i64 ((B : Int) + (IntKind.wrap .i64 (Int.tmod (d : Int) ((B / 2 + 1 : Nat) : Int)))) = ((B + d % (B / 2 + 1) : Nat) : Int) := by
  have e0 : Int.tdiv (B : Int) 2 = ((B / 2 : Nat) : Int) := by rw [Int.tdiv_eq_ediv_of_nonneg (by omega)]; omega
  have e1 : IntKind.wrap .i64 ((B / 2 : Nat) : Int) = ((B / 2 : Nat) : Int) := wrap_id (by omega) (by omega)
  have e2 : IntKind.wrap .i64 (((B / 2 : Nat) : Int) + 1) = ((B / 2 + 1 : Nat) : Int) := by rw [wrap_id (by omega) (by omega)]; omega
  have e3 : IntKind.wrap .u64 ((B / 2 + 1 : Nat) : Int) = ((B / 2 + 1 : Nat) : Int) := by
    simp [IntKind.wrap, IntKind.bits, IntKind.signed]; omega
  have e4 : Int.tmod (d : Int) ((B / 2 + 1 : Nat) : Int) = ((d % (B / 2 + 1) : Nat) : Int) := by
    rw [Int.tmod_eq_emod_of_nonneg (by omega)]
    omega
  have hlt := Nat.mod_lt d (show B / 2 + 1 > 0 by omega)
  refine ⟨by rw [e0, e1, e2, e3], ?_⟩
  rw [e4, wrap_id (n := ((d % (B / 2 + 1) : Nat) : Int)) (by omega) (by omega), wrap_id (by omega) (by omega)]
  omega

theorem Delay_spec {t l m : Int} {d : Nat} (ht : t ≤ 9223372036854775807) (hd : d < 18446744073709551616) {Q : Value → Heap → Prop} (hq : Q (.int .i64 ((delayN t l m d : Nat) : Int)) h) :
    HCalls Tryz.prog 34 #[.int .i64 t, .int .i64 l, .int .i64 m, .int .u64 (d : Int)] h Q := by
  refine bridge_Delay_calls t l m d h Q ?_
  unfold bridge_Delay
  have hl := leastN_le l
  have hm := mostN_le l m
  simp only [least_eq l, most_eq l m]
  (try dsimp only); rw [HM.bind_apply]
  refine loop_gx (γ := Nat × Nat) (hb := fun s => by
      repeat' with_reducible first
        | refine @mono_bind _ _ _ _ ?_ (fun _ => ?_)
        | refine @mono_ite _ _ _ _ ?_ ?_
      all_goals infer_instance)
    (fun g c h' => h' = h ∧ c.1 = ((g.2 : Nat) : Int) ∧ c.2.1.toNat = g.1 ∧ c.2.1 ≤ 9223372036854775807 ∧ 1 ≤ g.2 ∧ g.2 ≤ 2097152 ∧ dblN t.toNat (leastN l) (mostN l m) = dblN g.1 g.2 (mostN l m)) (fun g => g.1) (t.toNat, leastN l)
    ⟨rfl, rfl, rfl, ht, hl.1, by omega, rfl⟩ ?_
  rintro ⟨k, n⟩ ⟨x, c, ⟨⟩⟩ h1 ⟨rfl, hx, hc, hc2, hn1, hn2, he⟩
  simp only at hx hc hc2 hn1 hn2 he
  subst hx
  refine bind_cut (fun z h' => h' = h1 ∧ z.1 = decide (0 < c ∧ n < mostN l m)) ?_ ?_
  · (try dsimp only); rw [HM.ite_apply]
    by_cases h0 : 0 < c
    · rw [if_pos (by simpa using h0)]
      refine ⟨rfl, ?_⟩
      simp [h0]
    · rw [if_neg (by simpa using h0)]
      exact ⟨rfl, by simp [h0]⟩
  rintro ⟨z, ⟨⟩⟩ h2 ⟨rfl, hz⟩
  simp only at hz
  subst hz
  (try dsimp only); rw [HM.ite_apply]
  by_cases hgo : 0 < c ∧ n < mostN l m
  · rw [if_pos (by simpa using hgo)]
    simp only [Sum.elim_inl, Sum.elim_inr, HM.pure_apply]
    obtain ⟨k, rfl⟩ : ∃ k', k = k' + 1 := ⟨k - 1, by omega⟩
    refine .mk (k, 2 * n) (by simp only; omega) ⟨rfl, ?_, ?_, ?_, by simp only; omega, by simp only; omega, ?_⟩
    · simp only
      rw [wrap_id (by omega) (by omega)]
      omega
    · simp only
      rw [wrap_id (by omega) (by omega)]
      omega
    · simp only
      rw [wrap_id (by omega) (by omega)]
      omega
    · rw [he]
      conv => lhs; unfold dblN
      rw [if_pos hgo.2]
  · rw [if_neg (by simpa using hgo)]
    simp only [Sum.elim_inl, Sum.elim_inr, HM.pure_apply]
    have hend : dblN k n (mostN l m) = n := by
      by_cases h0 : 0 < c
      · exact dblN_full fun e => hgo ⟨h0, e⟩
      · have : k = 0 := by omega
        subst this
        rfl
    rw [hend] at he
    have hB : baseN t l m = min n (mostN l m) := by unfold baseN; rw [he]
    have eB : (if ((mostN l m : Nat) : Int) < (n : Int) then ((mostN l m : Nat) : Int) else (n : Int)) = ((baseN t l m : Nat) : Int) := by
      rw [hB]
      split <;> omega
    have hBl : 1 ≤ baseN t l m ∧ baseN t l m ≤ 1048576 := by rw [hB]; omega
    obtain ⟨d1, d2⟩ := draw_eq (d := d) hBl hd
    refine ⟨by decide, ?_⟩
    rw [eB, d1, d2]
    refine ⟨by omega, ?_⟩
    exact hq



end Go.Proofs.YtfhalebbcbgbdaaGreatDoor
