/-
  L13p: the law IdsPlays over heaps.
-/
import Derived.Test.YthedaikdfhopoaaC13p
namespace Go.Proofs.Ythedaikdfhopoaa
open Go.H Go.Proofs
set_option linter.unusedVariables false
set_option synthInstance.maxSize 100000
set_option synthInstance.maxHeartbeats 400000

abbrev encA' (x : Int × Int × Int) : List Value := [.int .i64 x.1, .int .i64 x.2.1, .int .i64 x.2.2]

theorem claimCode_cases (p : PoolS) (k : Int) : claimCode p k = 0 ∨ claimCode p k = 145 ∨ claimCode p k = 147 ∨ claimCode p k = 129 := by
  unfold claimCode
  split
  · simp
  split
  · simp
  split <;> simp

set_option maxRecDepth 100000 in
theorem IdsPlays_spec {h h0 : Heap} {s : Slc} {xs : List (Int × Int × Int)} {k : Int} (hr : RowAt encA' 3 h0 s xs) (hs : sat h [old h0]) {Q : Value → Heap → Prop}
    (hq : ∀ h' R, sat h' (old h0 :: R) → Q (.bool true) h') : HCalls Try.prog 4 #[.int .i64 k, .slice s.a s.len s.cap] h Q := by
  refine law13_IdsPlays_calls k s h Q ?_
  have he : (if 60 < ((s.len : Nat) : Int) then (60 : Int) else ((s.len : Nat) : Int)) = ((min 60 xs.length : Nat) : Int) := by
    rw [hr.1]; split <;> omega
  unfold law13_IdsPlays
  rw [he]
  simp only [HM.bind_apply, HM.call1_apply]
  refine New_spec hs k fun b1 h1 hs1 => ?_
  simp only [un_ptr, HM.bind_apply, HM.call1_apply]
  refine refNew_spec hs1 k fun b2 h2 hs2 => ?_
  simp only [un_ptr, HM.bind_apply, HM.call1_apply]
  refine wakes_spec hs2 fun h3 hs3 => ?_
  simp only [un_bool, HM.bind_apply, HM.call1_apply, HM.ite_apply, Bool.not_true, Bool.false_eq_true, if_false]
  refine slice_row hr (Nat.min_le_right _ _) fun s' hr' => ?_
  generalize hys : xs.take (min 60 xs.length) = ys at hr'
  have hys1 : ys.length ≤ 60 := by rw [← hys]; simp; omega
  refine loop_gx (γ := Nat × PoolS)
    (fun g c h => g.1 ≤ ys.length ∧ c.1 = (g.1 : Int) ∧ sat h (poolA b1 g.2 :: refA b2 g.2 :: [old h0]))
    (fun g => ys.length - g.1) (0, ⟨max 1 (min k 64), 0, []⟩) ⟨Nat.zero_le _, rfl, hs3.p1⟩ ?_
  rintro ⟨i, p⟩ ⟨c, ⟨⟩⟩ h4 ⟨hi, hc, hs4⟩
  simp only at hi hc hs4
  subst hc
  have hlen := hr'.1
  simp only [HM.ite_apply, decide_eq_true_eq]
  by_cases hlt : i < ys.length
  · rw [if_pos (by omega)]
    have next : IntKind.wrap .i64 ((i : Int) + 1) = ((i + 1 : Nat) : Int) := by rw [wrap_id (by omega) (by omega)]; rfl
    simp only [HM.bind_apply]
    refine idx_row hr' (List.getElem?_eq_getElem hlt) fun a ha => ?_
    generalize ys[i] = x at ha
    obtain ⟨x1, x2, x3⟩ := x
    refine loadN_of (ts := [.int .i64, .int .i64, .int .i64]) (x1, x2, x3, ()) (fun j v hv => hs4.p2.old_cell (ha j v hv)) ?_
    refine new_cells hs4 fun ab h5 hs5 => ?_
    refine storeN_all hs5 (by simp) (by intro v hv; simp at hv; rcases hv with rfl | rfl | rfl <;> rfl) fun h6 hs6 => ?_
    have d0 : cellH h6 ⟨ab, 0, none⟩ = some (.int .i64 x1) := hs6.cell 0
    have d1 : cellH h6 ⟨ab, 1, none⟩ = some (.int .i64 x2) := hs6.cell 1
    have d2 : cellH h6 ⟨ab, 2, none⟩ = some (.int .i64 x3) := hs6.cell 2
    obtain ⟨mm, hok, -⟩ := poolA_iff.1 hs4
    have tail : ∀ (p' : PoolS) (h' : Heap), sat h' [poolA b1 p', refA b2 p', old h0] →
        ∃ x, slcOf (cellH h' ⟨b2, 2, none⟩) = some x ∧ HCalls Try.prog 18 #[at0 b1] h' ((Kind.one Tag.slc).un fun b h' =>
          ∃ x_1, slcOf (cellH h' ⟨b2, 2, none⟩) = some x_1 ∧ (x_1.a = x.a ∧ x_1.len = x.len ∧ x_1.cap = x.cap) ∧
            HCalls Try.prog 17 #[Value.slice b.a b.len b.cap, Value.slice x.a x.len x.cap] h' ((Kind.one Tag.bool).un fun b h' =>
              if b = true then ∃ x, cellH h' ⟨b2, 0, none⟩ = some (Value.int IntKind.i64 x) ∧ ∃ x_2, slcOf (cellH h' ⟨b2, 2, none⟩) = some x_2 ∧
                HCalls Try.prog 8 #[at0 b1] h' ((Kind.one (Tag.int IntKind.i64)).un fun b h' =>
                  ∃ x_3, slcOf (cellH h' ⟨b2, 2, none⟩) = some x_3 ∧ (x_3.a = x_2.a ∧ x_3.len = x_2.len ∧ x_3.cap = x_2.cap) ∧
                    ∃ x_4, cellH h' ⟨b2, 0, none⟩ = some (Value.int IntKind.i64 x_4) ∧ x_4 = x ∧
                      if b = IntKind.i64.wrap (x - (x_2.len : Int)) then Go.H.Next (fun (g : Nat × PoolS) (c : Int × Unit) h => g.1 ≤ ys.length ∧ c.1 = (g.1 : Int) ∧ sat h [poolA b1 g.2, refA b2 g.2, old h0])
                        (fun g => ys.length - g.1) (i, p) (IntKind.i64.wrap (↑i + 1), ()) h'
                      else Q (Value.bool false) h')
              else Q (Value.bool false) h')) := by
      intro p' h' hs'
      obtain ⟨sl, hs'⟩ := refA_iff.1 hs'.p1
      have e2 : cellH h' ⟨b2, 2, none⟩ = some (.slice sl.a sl.len sl.cap) := hs'.cell 2
      refine ⟨sl, by rw [e2]; rfl, ?_⟩
      refine Used_spec hs'.p2 fun ul h7 hs7 => ?_
      obtain ⟨_, hok', -⟩ := poolA_iff.1 hs7.p1
      have hl' := hok'.len
      have hm' := hok'.most64
      have hm1 := hok'.most1
      have f0 : cellH h7 ⟨b2, 0, none⟩ = some (.int .i64 p'.most) := hs7.p2.cell 0
      have f2 : cellH h7 ⟨b2, 2, none⟩ = some (.slice sl.a sl.len sl.cap) := hs7.p2.cell 2
      have hsl : sl.len = p'.used.length := by rw [hs7.p3.own_len, sortI_len]
      simp only [un_slc]
      refine ⟨sl, by rw [f2]; rfl, ⟨rfl, rfl, rfl⟩, ?_⟩
      refine equal_spec (R := []) (hs7.own_row eI_len) (hs7.p3.own_row eI_len) (by rw [sortI_len]; omega) ?_
      simp only [un_bool, decide_true, if_true]
      refine ⟨_, f0, sl, by rw [f2]; rfl, ?_⟩
      refine Left_spec hs7.p1 ?_
      simp only [un_int]
      refine ⟨sl, by rw [f2]; rfl, ⟨rfl, rfl, rfl⟩, _, f0, rfl, ?_⟩
      rw [hsl, wrap_id (by omega) (by omega), if_pos rfl]
      exact .mk (i + 1, p') (by simp only []; omega) ⟨by omega, next, (refA_iff.2 ⟨sl, hs7.drop.p2.p2⟩).p1⟩
    simp [d0, d1]
    have hA : ∀ {h' : Heap} {A : Asn} {R : List Asn}, sat h' (A :: cells ab #[.int .i64 x1, .int .i64 x2, .int .i64 x3] :: R) → cellH h' ⟨ab, 1, none⟩ = some (.int .i64 x2) := fun hs' => hs'.p1.cell 1
    by_cases t1 : x1.tmod 4 = 1 ∨ x1.tmod 4 = -1
    · rcases t1 with t1 | t1
      all_goals
        simp [t1]
        have hcc := claimCode_cases p x2
        refine Claim_spec hs6.p1 (fun hx => ?_) (fun hx h7 hs7 => ?_)
        · simp [d1]
          refine refClaim_spec hs6.p2 hok (fun hx' => ?_) (fun hx' => absurd hx' hx)
          have e1 : IntKind.wrap .i64 (claimCode p x2) = claimCode p x2 := by rcases hcc with e | e | e | e <;> rw [e] <;> decide
          simp [e1]
          exact tail p h6 hs6.drop
        · simp [hA hs7]
          refine refClaim_spec hs7.p2 hok (fun hx' => absurd hx hx') (fun hx' h8 hs8 => ?_)
          simp
          exact tail ⟨p.most, p.taken, p.used ++ [x2]⟩ h8 hs8.p2.drop.p1
    · have t2 : ¬ x1.tmod 4 = 1 := fun e => t1 (.inl e)
      have t3 : ¬ x1.tmod 4 = -1 := fun e => t1 (.inr e)
      simp [t2, t3]
      by_cases t4 : x1.tmod 4 = 2 ∨ x1.tmod 4 = -2
      · rcases t4 with t4 | t4
        all_goals
          simp [t4]
          refine Free_spec hs6.p1 fun h7 hs7 => ?_
          simp [hA hs7]
          refine refFree_spec hs7.p2 hok fun h8 hs8 => ?_
          simp
          exact tail ⟨p.most, p.taken, p.used.erase x2⟩ h8 hs8.p2.drop.p1
      · have t5 : ¬ x1.tmod 4 = 2 := fun e => t4 (.inl e)
        have t6 : ¬ x1.tmod 4 = -2 := fun e => t4 (.inr e)
        simp [t5, t6, d2]
        have hnn : (if 0 < x3 then x3 else 0).tmod 70 < 70 := Int.tmod_lt_of_pos _ (by omega)
        have hnn0 : 0 ≤ (if 0 < x3 then x3 else 0).tmod 70 := Int.tmod_nonneg _ (by split <;> omega)
        rw [wrap_id (by omega) (by omega)]
        generalize hn : (1 + (if 0 < x3 then x3 else 0).tmod 70) = n
        have hn1 : 1 ≤ n := by omega
        have hn2 : n ≤ 70 := by omega
        clear hn hnn hnn0
        refine loop_gx (γ := Nat × PoolS) (fun g c h => c.1 = (g.1 : Int) ∧ (g.1 : Int) ≤ n ∧ sat h (poolA b1 g.2 :: refA b2 g.2 :: [old h0]))
          (fun g => n.toNat - g.1) (0, p) ⟨rfl, by simp; omega, hs6.drop⟩ ?_
        rintro ⟨j, p2⟩ ⟨c, ⟨⟩⟩ h7 ⟨hc, hj, hs7⟩
        simp only at hc hj hs7
        subst hc
        simp
        by_cases hjn : (j : Int) < n
        · simp [hjn]
          obtain ⟨_, hok2, -⟩ := poolA_iff.1 hs7
          have nextj : IntKind.wrap .i64 ((j : Int) + 1) = ((j + 1 : Nat) : Int) := by rw [wrap_id (by omega) (by omega)]; rfl
          have w147 : IntKind.wrap .i64 147 = 147 := by decide
          have w0 : IntKind.wrap .i64 0 = 0 := by decide
          refine Take_spec hs7 (fun hf => ?_) (fun hf n1 u1 hu1 h8 hs8 => ?_)
          · simp
            refine refTake_spec hs7.p1 hok2 (fun hf' => ?_) (fun hf' => absurd hf hf')
            simp [w147, w0]
            exact .mk (j + 1, p2) (by simp only []; omega) ⟨nextj, by simp only []; omega, hs7⟩
          · simp
            refine refTake_spec hs8.p1 hok2 (fun hf' => absurd hf' hf) (fun hf' n2 u2 hu2 h9 hs9 => ?_)
            obtain rfl := hu1.det hu2
            simp [w147, w0]
            exact .mk (j + 1, ⟨p2.most, u1, p2.used ++ [u1]⟩) (by simp only []; omega) ⟨nextj, by simp only []; omega, hs9.p1⟩
        · simp [hjn]
          exact tail p2 h7 hs7
  · rw [if_neg (by omega)]
    simp
    exact hq _ _ hs4.p2

end Go.Proofs.Ythedaikdfhopoaa
