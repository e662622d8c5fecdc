/-
  L13r: the law IdsRound over heaps.
-/
import Derived.Test.YthedaikdfhopoaaC13
import Derived.Test.YthedaikdfhopoaaHw
namespace Go.Proofs.Ythedaikdfhopoaa
open Go.H Go.Proofs
set_option linter.unusedVariables false
set_option synthInstance.maxSize 100000
set_option synthInstance.maxHeartbeats 400000

theorem Reach.det {used : List Int} {n n' : Nat} {t u u' : Int} (h : Reach used n t u) (h' : Reach used n' t u') : u = u' := by
  induction h generalizing n' with
  | here hn =>
    cases h' with
    | here _ => rfl
    | on hm _ => exact absurd hm hn
  | on hm _ ih =>
    cases h' with
    | here hn => exact absurd hm hn
    | on _ h2 => exact ih h2

theorem wrap_i {n : Int} (h1 : -9223372036854775808 ≤ n) (h2 : n ≤ 9223372036854775807) : IntKind.wrap .i64 n = n := wrap_id h1 h2

abbrev encI (x : Int) : List Value := [.int .i64 x]

theorem erase_append_self {l : List Int} {k : Int} (h : k ∉ l) : (l ++ [k]).erase k = l := by
  rw [List.erase_append, if_neg h]
  simp

set_option maxRecDepth 100000 in
theorem IdsRound_spec {h h0 : Heap} {s : Slc} {xs : List Int} {k : Int} (hr : RowAt encI 1 h0 s xs) (hs : sat h [old h0]) {Q : Value → Heap → Prop}
    (hq : ∀ h' R, sat h' (old h0 :: R) → Q (.bool true) h') : HCalls Try.prog 3 #[.slice s.a s.len s.cap, .int .i64 k] h Q := by
  refine law13_IdsRound_calls s k h Q ?_
  have he : (if 40 < ((s.len : Nat) : Int) then (40 : Int) else ((s.len : Nat) : Int)) = ((min 40 xs.length : Nat) : Int) := by
    rw [hr.1]; split <;> omega
  unfold law13_IdsRound
  rw [he]
  generalize hN : (65635 : Int) = N
  simp only [HM.bind_apply, HM.call1_apply]
  refine New_spec hs k fun b h1 hs1 => ?_
  simp only [un_ptr, HM.bind_apply]
  refine new_map (ek := fun n : Int => Value.int .i64 n) (ev := Kind.val (.one .bool)) hs1 fun m h2 hs2 => ?_
  refine slice_row hr (Nat.min_le_right _ _) fun s' hr' => ?_
  generalize hys : xs.take (min 40 xs.length) = ys at hr'
  have hys1 : ys.length ≤ 40 := by rw [← hys]; simp; omega
  generalize hm0 : max 1 (min k 64) = most at *
  -- the claims
  refine loop_gh (γ := Nat × List Int)
    (fun g c h => g.1 ≤ ys.length ∧ c.1 = (g.1 : Int) ∧ (g.2.length : Int) < most ∧ sat h (mapA (fun n : Int => .int .i64 n) (Kind.val (.one .bool)) m (asMap g.2) :: poolA b ⟨most, 0, g.2⟩ :: [old h0]))
    (fun g => ys.length - g.1) (0, []) ⟨Nat.zero_le _, rfl, by simp; omega, hs2⟩ ?_
  · rintro ⟨i, U⟩ ⟨c, ⟨⟩⟩ h3 ⟨hi, hc, hU, hs3⟩
    simp only at hi hc hU hs3
    subst hc
    have hlen := hr'.1
    simp only [HM.ite_apply, decide_eq_true_eq]
    by_cases hlt : i < ys.length
    · rw [if_pos (by omega)]
      simp only [HM.bind_apply]
      refine idx_row hr' (List.getElem?_eq_getElem hlt) fun a ha => ?_
      have c0 : cellH h3 a = some (.int .i64 ys[i]) := hs3.p1.p1.p2.old_cell (by simpa [Go.H.add_zero] using ha 0 _ rfl)
      simp [c0]
      refine Left_spec hs3.p1 ?_
      simp
      have next : IntKind.wrap .i64 ((i : Int) + 1) = ((i + 1 : Nat) : Int) := by rw [wrap_i (by omega) (by omega)]; rfl
      have stay := fun (U' : List Int) (h' : Heap) (hU' : (U'.length : Int) < most)
          (hs' : sat h' [mapA (fun n : Int => .int .i64 n) (Kind.val (.one .bool)) m (asMap U'), poolA b ⟨most, 0, U'⟩, old h0]) =>
        (⟨i + 1, by omega, by omega, next, U', hU', hs'⟩ : ∃ a, ys.length - a < ys.length - i ∧ a ≤ ys.length ∧ IntKind.wrap .i64 ((i : Int) + 1) = (a : Int) ∧ ∃ x : List Int, (x.length : Int) < most ∧
          sat h' [mapA (fun n : Int => .int .i64 n) (Kind.val (.one .bool)) m (asMap x), poolA b ⟨most, 0, x⟩, old h0])
      by_cases h4 : 1 < most - (U.length : Int)
      · rw [if_pos h4]
        refine Claim_spec hs3.p1 (fun hx => ?_) (fun hx h5 hs5 => ?_)
        · simp [hx]
          exact stay U h3 hU hs3
        · have hn : ys[i] ∉ U := by
            intro hm
            unfold claimCode at hx
            split at hx
            · cases hx
            · simp [hm] at hx
          simp
          refine set_map kI (inj_int .i64) (ev := Kind.val (.one .bool)) (x := true) hs5.p1 fun h6 hs6 => ?_
          rw [mset_asMap _ _ hn] at hs6
          exact stay (U ++ [ys[i]]) h6 (by simp; omega) hs6
      · rw [if_neg h4]
        exact stay U h3 hU hs3
    · rw [if_neg (by omega)]
      simp
      refine wakes_spec hs3 fun h4 hs4 => ?_
      simp
      -- the rounds
      refine loop_gh (γ := Nat × Int)
        (fun g c h => (g.1 : Int) ≤ N ∧ c.1 = g.2 ∧ c.2.1 = (g.1 : Int) ∧ sat h (mapA (fun n : Int => .int .i64 n) (Kind.val (.one .bool)) m (asMap U) :: poolA b ⟨most, g.2, U⟩ :: [old h0]))
        (fun g => (N - g.1).toNat) (0, 0) ⟨by simp; omega, rfl, rfl, hs4⟩ ?_
      rintro ⟨j, t⟩ ⟨c1, c2, ⟨⟩⟩ h5 ⟨hj, hc1, hc2, hs5⟩
      simp only at hj hc1 hc2 hs5
      subst hc1 hc2
      simp
      by_cases hlt : (j : Int) < N
      · rw [if_pos hlt]
        obtain ⟨mm, hok, -⟩ := poolA_iff.1 hs5.p1
        obtain ⟨n, u, hu⟩ := reach_ex U c1 hok.taken0 hok.nodup (by have := hok.len; have := hok.most64; simp at *; omega)
        refine loop_gh (γ := Nat × Int)
          (fun g c h => 0 ≤ g.2 ∧ c.1 = nxt g.2 ∧ Reach U g.1 g.2 u ∧ sat h (mapA (fun n : Int => .int .i64 n) (Kind.val (.one .bool)) m (asMap U) :: poolA b ⟨most, c1, U⟩ :: [old h0]))
          (fun g => g.1) (n, c1) ⟨hok.taken0, wrap_nxt hok.taken0, hu, hs5⟩ ?_
        rintro ⟨n', t'⟩ ⟨c, ⟨⟩⟩ h6 ⟨ht', hc, hr6, hs6⟩
        simp only at ht' hc hr6 hs6
        subst hc
        simp
        refine lookup_map kI (kind := .one .bool) (z := false) rfl hs6 ?_
        rw [mget_asMap]
        have hn' := nxt_range ht'
        by_cases hin : nxt t' ∈ U
        · simp [hin]
          cases hr6 with
          | here hx => exact absurd hin hx
          | on _ hr7 => exact ⟨_, Nat.lt_succ_self _, nxt t', by omega, wrap_nxt (by omega), hr7, hs6⟩
        · simp [hin]
          have hu' : u = nxt t' := hr6.det (.here hin)
          refine Take_spec hs6.p1 (fun hx => ?_) (fun _ n7 u7 hu7 h7 hs7 => ?_)
          · simp at hx; omega
          · have e7 : u7 = nxt t' := (hu7.det hu).trans hu'
            subst e7
            simp
            refine Free_spec hs7 fun h8 hs8 => ?_
            simp
            refine ⟨j + 1, by omega, by omega, ?_, ?_⟩
            · rw [wrap_i (by omega) (by omega)]; rfl
            · simp only [erase_append_self hin] at hs8
              exact hs8.p1
      · rw [if_neg hlt]
        exact hq h5 _ hs5.p2

end Go.Proofs.Ythedaikdfhopoaa
