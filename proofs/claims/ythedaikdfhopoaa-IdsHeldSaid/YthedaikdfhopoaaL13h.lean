/-
  L13h: the law IdsHeld over heaps.
-/
import Derived.Test.YthedaikdfhopoaaC13u
namespace Go.Proofs.Ythedaikdfhopoaa
open Go.H Go.Proofs
set_option linter.unusedVariables false
set_option synthInstance.maxSize 100000
set_option synthInstance.maxHeartbeats 400000

abbrev encA (x : Int × Int × Int) : List Value := [.int .i64 x.1, .int .i64 x.2.1, .int .i64 x.2.2]

set_option maxRecDepth 100000 in
theorem IdsHeld_spec {h h0 : Heap} {s : Slc} {xs : List (Int × Int × Int)} {k : Int} (hr : RowAt encA 3 h0 s xs) (hs : sat h [old h0]) {Q : Value → Heap → Prop}
    (hq : ∀ h' R, sat h' (old h0 :: R) → Q (.bool true) h') : HCalls Try.prog 5 #[.int .i64 k, .slice s.a s.len s.cap] h Q := by
  refine law13_IdsHeld_calls k s h Q ?_
  have he : (if 100 < ((s.len : Nat) : Int) then (100 : Int) else ((s.len : Nat) : Int)) = ((min 100 xs.length : Nat) : Int) := by
    rw [hr.1]; split <;> omega
  unfold law13_IdsHeld
  rw [he]
  simp only [HM.bind_apply, HM.call1_apply]
  refine New_spec hs k fun b h1 hs1 => ?_
  simp only [un_ptr, HM.bind_apply]
  refine new_map (ek := fun n : Int => Value.int .i64 n) (ev := Kind.val (.one .bool)) hs1 fun m h2 hs2 => ?_
  refine slice_row hr (Nat.min_le_right _ _) fun s' hr' => ?_
  generalize hys : xs.take (min 100 xs.length) = ys at hr'
  have hys1 : ys.length ≤ 100 := by rw [← hys]; simp; omega
  have hm0 : (if 1 < (if 64 < k then (64 : Int) else k) then (if 64 < k then 64 else k) else 1) = max 1 (min k 64) := by
    split <;> split <;> omega
  simp only [hm0]
  generalize max 1 (min k 64) = most at *
  refine loop_gh (γ := Nat × PoolS)
    (fun g c h => g.1 ≤ ys.length ∧ c.1 = (g.1 : Int) ∧ g.2.most = most ∧ sat h (mapA (fun n : Int => .int .i64 n) (Kind.val (.one .bool)) m (asMap g.2.used) :: poolA b g.2 :: [old h0]))
    (fun g => ys.length - g.1) (0, ⟨most, 0, []⟩) ⟨Nat.zero_le _, rfl, rfl, hs2⟩ ?_
  rintro ⟨i, p⟩ ⟨c, ⟨⟩⟩ h3 ⟨hi, hc, hp, hs3⟩
  simp only at hi hc hp hs3
  subst hc hp
  have hlen := hr'.1
  simp only [HM.ite_apply, decide_eq_true_eq]
  by_cases hlt : i < ys.length
  · rw [if_pos (by omega)]
    have next : IntKind.wrap .i64 ((i : Int) + 1) = ((i + 1 : Nat) : Int) := by rw [wrap_id (by omega) (by omega)]; rfl
    simp only [HM.bind_apply]
    refine idx_row hr' (List.getElem?_eq_getElem hlt) fun a ha => ?_
    generalize ys[i] = x at ha
    obtain ⟨x1, x2, x3⟩ := x
    refine loadN_of (ts := [.int .i64, .int .i64, .int .i64]) (x1, x2, x3, ()) (fun j v hv => hs3.p1.p1.p2.old_cell (ha j v hv)) ?_
    refine new_cells hs3 fun ab h4 hs4 => ?_
    refine storeN_all hs4 (by simp) (by intro v hv; simp at hv; rcases hv with rfl | rfl | rfl <;> rfl) fun h5 hs5 => ?_
    have d0 : cellH h5 ⟨ab, 0, none⟩ = some (.int .i64 x1) := hs5.cell 0
    have d1 : cellH h5 ⟨ab, 1, none⟩ = some (.int .i64 x2) := hs5.cell 1
    obtain ⟨mm, hok, -⟩ := poolA_iff.1 hs3.p1
    have tail : ∀ (p' : PoolS) (h' : Heap), p'.most = p.most → sat h' [mapA (fun n : Int => .int .i64 n) (Kind.val (.one .bool)) m (asMap p'.used), poolA b p', old h0] →
        HCalls Try.prog 18 #[at0 b] h' ((Kind.one Tag.slc).un fun b_2 h' => HM.mapLen (some m) h' fun b_3 h' =>
          if (b_2.len : Int) = b_3 then HM.mapLen (some m) h' fun b_4 h' =>
            if p.most < b_4 then Q (.bool false) h'
            else HCalls Try.prog 8 #[at0 b] h' ((Kind.one (Tag.int IntKind.i64)).un fun b_5 h' =>
              if b_5 < 0 then Q (.bool false) h'
              else ∃ a, ys.length - a < ys.length - i ∧ a ≤ ys.length ∧ IntKind.i64.wrap (↑i + 1) = ↑a ∧ ∃ x : PoolS, x.most = p.most ∧
                sat h' [mapA (fun n : Int => .int .i64 n) (Kind.val (.one .bool)) m (asMap x.used), poolA b x, old h0])
          else Q (.bool false) h') := by
      intro p' h' hp' hs'
      refine Used_spec hs'.p1 fun sl h6 hs6 => ?_
      have hsl : sl.len = p'.used.length := by rw [hs6.own_len]; simp [sortI, List.length_mergeSort]
      simp only [un_slc]
      refine len_map hs6.p2 ?_
      rw [if_pos (by simp [hsl, asMap])]
      refine len_map hs6.p2 ?_
      obtain ⟨_, hok', -⟩ := poolA_iff.1 hs6.p1
      have hl' := hok'.len
      rw [if_neg (by simp [asMap]; omega)]
      refine Left_spec hs6.p1 ?_
      simp only [un_int]
      rw [if_neg (show ¬ (p'.most - (p'.used.length : Int) < 0) by omega)]
      exact ⟨i + 1, by omega, by omega, next, p', hp', hs6.drop.p1⟩
    simp [d0, d1]
    have claim : ∀ {Q' : Value → Heap → Prop}, (∀ c, c ≠ 0 → Q' (.int .u8 c) h5) → (1 ≤ x2 → x2 ≤ 65535 → x2 ∉ p.used → ∀ h', sat h' (poolA b ⟨p.most, p.taken, p.used ++ [x2]⟩ :: [cells ab #[.int .i64 x1, .int .i64 x2, .int .i64 x3], mapA (fun n : Int => .int .i64 n) (Kind.val (.one .bool)) m (asMap p.used), old h0]) → Q' (.int .u8 0) h') →
        HCalls Try.prog 9 #[at0 b, .int .i64 x2] h5 Q' := by
      intro Q' q1 q2
      refine Claim_spec hs5.p2 (fun hx => q1 _ hx) (fun hx h6 hs6 => ?_)
      have hx' := hx
      unfold claimCode at hx'
      by_cases e1 : x2 < 1 ∨ 65535 < x2
      · rw [if_pos e1] at hx'; cases hx'
      by_cases e2 : x2 ∈ p.used
      · rw [if_neg e1, if_pos e2] at hx'; cases hx'
      exact q2 (by omega) (by omega) e2 h6 hs6
    by_cases t1 : x1.tmod 4 = 1 ∨ x1.tmod 4 = -1
    · rcases t1 with t1 | t1
      all_goals
        simp [t1]
        refine claim (fun c hc => ?_) (fun g1 g2 g3 h6 hs6 => ?_)
        · simp [hc]
          exact tail p h5 rfl hs5.drop
        · have e1 : cellH h6 ⟨ab, 1, none⟩ = some (.int .i64 x2) := hs6.p1.cell 1
          have n1 : ¬ x2 < 1 := by omega
          have n2 : ¬ 65535 < x2 := by omega
          simp [e1]
          refine lookup_map kI (kind := .one .bool) (z := false) rfl hs6.p2 ?_
          rw [mget_asMap]
          simp [g3, e1, n1, n2]
          refine set_map kI (inj_int .i64) (ev := Kind.val (.one .bool)) (x := true) hs6.p2 fun h7 hs7 => ?_
          rw [mset_asMap _ _ g3] at hs7
          exact tail ⟨p.most, p.taken, p.used ++ [x2]⟩ h7 rfl (hs7.p2.drop)
    · have t2 : ¬ x1.tmod 4 = 1 := fun e => t1 (.inl e)
      have t3 : ¬ x1.tmod 4 = -1 := fun e => t1 (.inr e)
      simp [t2, t3]
      by_cases t4 : x1.tmod 4 = 2 ∨ x1.tmod 4 = -2
      · rcases t4 with t4 | t4
        all_goals
          simp [t4]
          refine lookup_map kI (kind := .one .bool) (z := false) rfl hs5.p1 ?_
          rw [mget_asMap]
          refine Free_spec hs5.p2 fun h6 hs6 => ?_
          simp only [un_bool]
          refine lookup_map kI (kind := .one .bool) (z := false) rfl hs6.p2 ?_
          rw [mget_asMap]
          have e1 : cellH h6 ⟨ab, 1, none⟩ = some (.int .i64 x2) := hs6.p1.cell 1
          have fin : HM.mapDel (.int .i64) (some m) (.int .i64 x2) h6 fun _ h' => sat h' [mapA (fun n : Int => .int .i64 n) (Kind.val (.one .bool)) m (asMap (p.used.erase x2)), poolA b ⟨p.most, p.taken, p.used.erase x2⟩, old h0] := by
            refine del_map kI (ev := Kind.val (.one .bool)) hs6.p2 fun h7 hs7 => ?_
            rw [mdel_asMap] at hs7
            exact hs7.p2.drop
          have fin2 := fun {Q'} hh => Mono.mono (m := HM.mapDel (.int .i64) (some m) (.int .i64 x2)) h6 _ Q' hh fin
          by_cases g : x2 ∈ p.used
          · simp [g, e1]
            refine fin2 fun _ h7 hs7 => ?_
            exact tail ⟨p.most, p.taken, p.used.erase x2⟩ h7 rfl hs7
          · simp [g, e1]
            refine fin2 fun _ h7 hs7 => ?_
            exact tail ⟨p.most, p.taken, p.used.erase x2⟩ h7 rfl hs7
      · have t5 : ¬ x1.tmod 4 = 2 := fun e => t4 (.inl e)
        have t6 : ¬ x1.tmod 4 = -2 := fun e => t4 (.inr e)
        simp [t5, t6]
        refine Take_spec hs5.p2 (fun _ => ?_) (fun _ n u hu h6 hs6 => ?_)
        · simp
          exact tail p h5 rfl hs5.drop
        · obtain ⟨r1, r2, r3⟩ := hu.range hok.taken0
          have n1 : ¬ u < 1 := by omega
          have n2 : ¬ 65535 < u := by omega
          simp
          refine lookup_map kI (kind := .one .bool) (z := false) rfl hs6.p2 ?_
          rw [mget_asMap]
          simp [r3, n1, n2]
          refine set_map kI (inj_int .i64) (ev := Kind.val (.one .bool)) (x := true) hs6.p2 fun h7 hs7 => ?_
          rw [mset_asMap _ _ r3] at hs7
          exact tail ⟨p.most, u, p.used ++ [u]⟩ h7 rfl (hs7.p2.drop)
  · rw [if_neg (by omega)]
    simp
    refine wakes_spec hs3.p2 fun h4 hs4 => ?_
    simp
    exact hq _ _ hs4

end Go.Proofs.Ythedaikdfhopoaa
