/-
  L15o: the law InflowOpen over heaps.
-/
import Derived.Test.YtlgddhcbiioefaaC15
namespace Go.Proofs.Ytlgddhcbiioefaa
open Go.H Go.Proofs
set_option linter.unusedSimpArgs false
set_option linter.unusedVariables false
set_option synthInstance.maxSize 100000
set_option synthInstance.maxHeartbeats 400000

abbrev encT (x : Int × Int × Int × Int × Bool) : List Value := [.int .i64 x.1, .int .i64 x.2.1, .int .i64 x.2.2.1, .int .u8 x.2.2.2.1, .bool x.2.2.2.2]

/-- what the law's own set is behind an answer -/
theorem takeR_ok {s : PoolS} {k q id why : Int} (h : (takeR s k q id why).2.2.1 ≠ 0) : (takeR s k q id why).1 = false ∧ (takeR s k q id why).2.1 = none ∧ (takeR s k q id why).2.2.2 = s.used := by
  unfold takeR at h ⊢
  split
  · simp
  split
  · simp_all
  split
  · simp_all
  split
  · simp_all
  split
  · simp_all
  split
  · simp
  · simp_all

theorem takeR_set {s : PoolS} {k q id why : Int} (h : (takeR s k q id why).2.2.1 = 0) :
    (takeR s k q id why).2.2.2 = if k = 6 then s.used.erase id else if q = 2 ∧ (takeR s k q id why).1 = true ∧ why < 128 then s.used ++ [id] else s.used := by
  unfold takeR at h ⊢
  by_cases g0 : takeBad k q id
  · simp [g0] at h
  have g0' := g0
  unfold takeBad at g0'
  rw [if_neg g0] at h ⊢
  by_cases g1 : k = 3 ∧ q = 0
  · obtain ⟨rfl, rfl⟩ := g1
    simp
  rw [if_neg g1] at h ⊢
  by_cases g2 : k = 6
  · simp [g2]
  rw [if_neg g2] at h ⊢
  by_cases g3 : q = 1
  · simp [g2, g3]
  rw [if_neg g3] at h ⊢
  have g4 : q = 2 := by omega
  subst g4
  by_cases g5 : id ∈ s.used
  · simp [g2, g5]
  rw [if_neg g5] at h ⊢
  by_cases g6 : (s.used.length : Int) = s.most
  · simp [g6] at h
  rw [if_neg g6] at h ⊢
  by_cases g7 : why < 128 <;> simp [g2, g7]

theorem takeR_new {s : PoolS} {k q id why : Int} (h : (takeR s k q id why).1 = true) (hk : k ≠ 6) (hq : q = 2) : id ∉ s.used := by
  unfold takeR at h
  subst hq
  intro hm
  by_cases g0 : takeBad k 2 id
  · rw [if_pos g0] at h; cases h
  rw [if_neg g0, if_neg (show ¬ (k = 3 ∧ (2 : Int) = 0) by omega), if_neg hk, if_neg (by omega), if_pos hm] at h
  cases h

set_option maxRecDepth 100000 in
theorem InflowOpen_spec {h h0 : Heap} {s : Slc} {xs : List (Int × Int × Int × Int × Bool)} {most : Int} (hr : RowAt encT 5 h0 s xs) (hs : sat h [old h0]) {Q : Value → Heap → Prop}
    (hq : ∀ h' R, sat h' (old h0 :: R) → Q (.bool true) h') : HCalls Try.prog 4 #[.int .i64 most, .slice s.a s.len s.cap] h Q := by
  refine law15_InflowOpen_calls most s h Q ?_
  have he : (if 100 < ((s.len : Nat) : Int) then (100 : Int) else ((s.len : Nat) : Int)) = ((min 100 xs.length : Nat) : Int) := by
    rw [hr.1]; split <;> omega
  have hm0 : (if 1 < (if 64 < most then (64 : Int) else most) then (if 64 < most then 64 else most) else 1) = max 1 (min most 64) := by
    split <;> split <;> omega
  unfold law15_InflowOpen
  rw [he, hm0]
  refine bind_call1 (infNew_spec hs most fun f h1 hs1 => ⟨some ⟨f, 0, none⟩, rfl, ?_⟩)
  generalize max 1 (min most 64) = m1 at *
  refine new_map (ek := fun n : Int => Value.int .i64 n) (ev := Kind.val (.one .bool)) hs1 fun m h2 hs2 => ?_
  refine slice_row hr (Nat.min_le_right _ _) fun s' hr' => ?_
  generalize hys : xs.take (min 100 xs.length) = ys at hr'
  have hys1 : ys.length ≤ 100 := by rw [← hys]; simp; omega
  refine loop_gx (γ := Nat × PoolS) (hb := fun s => by
    repeat' with_reducible first
      | refine @mono_bind _ _ _ _ ?_ (fun _ => ?_)
      | refine @mono_ite _ _ _ _ ?_ ?_
      | refine @mono_req _ _ _ ?_
      | refine @mono_loop _ _ _ _ (fun _ => ?_)
      | refine @mono_elim _ _ _ _ _ _ (fun _ => ?_) (fun _ => ?_)
    all_goals infer_instance) 
    (fun g c h => g.1 ≤ ys.length ∧ c.1 = (g.1 : Int) ∧ g.2.most = m1 ∧ sat h (mapA (fun n : Int => .int .i64 n) (Kind.val (.one .bool)) m (asMap g.2.used) :: flowA f g.2 :: [old h0]))
    (fun g => ys.length - g.1) (0, ⟨m1, 0, []⟩) ⟨Nat.zero_le _, rfl, rfl, hs2⟩ ?_
  rintro ⟨i, p⟩ ⟨c, ⟨⟩⟩ h3 ⟨hi, hc, hp, hs3⟩
  simp only at hi hc hp hs3
  subst hc hp
  have hlen := hr'.1
  simp only [HM.ite_apply, decide_eq_true_eq]
  by_cases hlt : i < ys.length
  · rw [if_pos (by omega)]
    have next : IntKind.wrap .i64 ((i : Int) + 1) = ((i + 1 : Nat) : Int) := by rw [wrap_id (by omega) (by omega)]; rfl
    refine idx_row hr' (List.getElem?_eq_getElem hlt) fun a ha => ?_
    generalize ys[i] = x at ha
    obtain ⟨x1, x2, x3, x4, x5⟩ := x
    refine loadN_of (ts := [.int .i64, .int .i64, .int .i64, .int .u8, .bool]) (x1, x2, x3, x4, x5, ()) (fun j v hv => hs3.p2.old_cell (ha j v hv)) ?_
    refine new_cells hs3 fun ab h4 hs4 => ?_
    refine storeN_all' hs4 rfl rfl fun h5 hs5 => ?_
    refine loadN_cells (x1, x2, x3, x4, x5, ()) hs5 rfl ?_
    refine bind_callN (made_spec hs5 x1 x2 x3 x4 x5 fun h6 hs6 => ⟨(Pk_m (kOf x1) x2 x3, Pk_m (kOf x1) x2 x3, ()), rfl, ?_⟩)
    refine new_cells hs6 fun b1 h7 hs7 => ?_
    refine new_cells hs7 fun b2 h8 hs8 => ?_
    refine storeN_all' hs8.p1 rfl rfl fun h9 hs9 => ?_
    refine storeN_all' hs9.p1 rfl rfl fun h10 hs10 => ?_
    refine loadN_cells (Pk_m (kOf x1) x2 x3) hs10.p1 rfl ?_
    generalize kOf x1 = k at *
    have c3 : cellH h10 ⟨ab, 3, none⟩ = some (.int .u8 x4) := hs10.p2.cell 3
    refine ⟨x4, by rw [add_own]; exact c3, ?_⟩
    have hs10' : sat h10 [flowA f p, cells b1 (Pk_c (Pk_m k x2 x3)), cells ab #[.int .i64 x1, .int .i64 x2, .int .i64 x3, .int .u8 x4, .bool x5], mapA (fun n : Int => .int .i64 n) (Kind.val (.one .bool)) m (asMap p.used), old h0] := hs10.drop.p3
    clear hs10 hs9 hs8 hs7 hs6 hs5 hs4
    generalize hr0 : takeR p k x2 x3 x4 = r
    refine bind_cut (fun x h' => x.1 = r.1 ∧ x.2.2.1 = r.2.2.1 ∧ (r.2.2.1 ≠ 0 → x.2.1.len = 0) ∧
      sat h' [flowA f ⟨p.most, p.taken, r.2.2.2⟩, cells b1 (Pk_c (Pk_m k x2 x3)), cells ab #[.int .i64 x1, .int .i64 x2, .int .i64 x3, .int .u8 x4, .bool x5], mapA (fun n : Int => .int .i64 n) (Kind.val (.one .bool)) m (asMap p.used), old h0]) ?_ ?_
    · refine infTake_spec (p := Pk_m k x2 x3) hs10' ?_ ?_
      · intro hn h' hs'
        simp only [hr0] at hn hs'
        simp only [hr0]
        exact ⟨(_, ⟨none, 0, 0⟩, _, ()), rfl, rfl, rfl, fun _ => rfl, hs'⟩
      · intro k' c' hk' b h' hs'
        simp only [hr0] at hk' hs'
        simp only [hr0]
        refine ⟨(_, ⟨some ⟨b, 0, none⟩, 1, 1⟩, _, ()), rfl, rfl, rfl, fun hne => ?_, hs'.drop⟩
        have := (takeR_ok (hr0 ▸ hne)).2.1
        rw [hr0, hk'] at this
        cases this
    rintro ⟨is, sl, c, ⟨⟩⟩ h11 ⟨e1, e2, e3, hs11⟩
    simp only at e1 e2 e3
    have d0 : cellH h11 ⟨b1, 0, none⟩ = some (.int .i64 k) := hs11.p1.cell 0
    have d3 : cellH h11 ⟨b1, 3, none⟩ = some (.int .i64 x2) := hs11.p1.cell 3
    have d4 : cellH h11 ⟨b1, 4, none⟩ = some (.int .i64 x3) := hs11.p1.cell 4
    have f3 : cellH h11 ⟨ab, 3, none⟩ = some (.int .u8 x4) := hs11.p2.cell 3
    have hs12 := hs11.p2.drop.p1.drop.p1
    clear hs11 hs10' c3
    have hm0 : p.most = (⟨p.most, p.taken, r.2.2.2⟩ : PoolS).most := rfl
    refine bind_cut (hm := by
      repeat' with_reducible first
        | refine @mono_bind _ _ _ _ ?_ (fun _ => ?_)
        | refine @mono_ite _ _ _ _ ?_ ?_
        | refine @mono_req _ _ _ ?_
        | refine @mono_loop _ _ _ _ (fun _ => ?_)
        | refine @mono_elim _ _ _ _ _ _ (fun _ => ?_) (fun _ => ?_)
      all_goals infer_instance) (fun x h' => x = Sum.inl () ∧
      sat h' [mapA (fun n : Int => .int .i64 n) (Kind.val (.one .bool)) m (asMap r.2.2.2), flowA f ⟨p.most, p.taken, r.2.2.2⟩, old h0]) ?_ ?_
    · subst e1 e2
      by_cases hc : r.2.2.1 = 0
      · have hset := takeR_set (s := p) (k := k) (q := x2) (id := x3) (why := x4) (by rw [hr0]; exact hc)
        rw [hr0] at hset
        by_cases k6 : k = 6
        · rw [if_pos k6] at hset
          simp [hc, add_own, d0, d4, k6]
          refine del_map kI (ev := Kind.val (.one .bool)) hs12 fun h12 hs13 => ?_
          rw [mdel_asMap] at hs13
          simpa [hset] using hs13
        · rw [if_neg k6] at hset
          by_cases q2 : x2 = 2 ∧ r.1 = true ∧ x4 < 128
          · rw [if_pos q2] at hset
            obtain ⟨g1, g2, g3⟩ := q2
            have hni : x3 ∉ p.used := takeR_new (s := p) (k := k) (q := x2) (id := x3) (why := x4) (by rw [hr0]; exact g2) k6 g1
            simp [hc, add_own, d0, d3, d4, f3, k6, g1, g2, g3]
            refine set_map kI (inj_int .i64) (ev := Kind.val (.one .bool)) (x := true) hs12 fun h12 hs13 => ?_
            rw [mset_asMap _ _ hni] at hs13
            simpa [hset] using hs13
          · rw [if_neg q2] at hset
            have hs13 : sat h11 [mapA (fun n : Int => .int .i64 n) (Kind.val (.one .bool)) m (asMap r.2.2.2), flowA f ⟨p.most, p.taken, r.2.2.2⟩, old h0] := by
              rw [hset] at hs12 ⊢; exact hs12
            by_cases g1 : x2 = 2
            · by_cases g2 : r.1 = true
              · have g3 : ¬ x4 < 128 := fun g => q2 ⟨g1, g2, g⟩
                simp [hc, add_own, d0, d3, d4, f3, k6, g1, g2, g3]
                exact hs13
              · simp [hc, add_own, d0, d3, d4, f3, k6, g1, g2]
                exact hs13
            · simp [hc, add_own, d0, d3, d4, f3, k6, g1]
              exact hs13
      · obtain ⟨o1, o2, o3⟩ := takeR_ok (s := p) (k := k) (q := x2) (id := x3) (why := x4) (by rw [hr0]; exact hc)
        rw [hr0] at o1 o3
        simp [hc, o1, e3 hc]
        rw [o3] at hs12 ⊢
        exact hs12
    rintro x h12 ⟨rfl, hs13⟩
    simp only [Sum.elim_inl]
    generalize hp' : (⟨p.most, p.taken, r.2.2.2⟩ : PoolS) = p' at hs13 hm0
    have hu : r.2.2.2 = p'.used := by rw [← hp']
    rw [hu] at hs13
    refine bind_call1 (infOpen_spec hs13.p1 fun ul h13 hs14 => ⟨ul, rfl, ?_⟩)
    obtain ⟨fb, hs15⟩ := flowA_iff.1 hs14.p1
    obtain ⟨_, hok, -⟩ := poolA_iff.1 hs15.p1
    have hl' := hok.len
    have hmm := hok.most64
    have hul : ul.len = p'.used.length := by rw [hs14.own_len]; simp [sortI, List.length_mergeSort]
    refine bind_cut (hm := by
      repeat' with_reducible first
        | refine @mono_bind _ _ _ _ ?_ (fun _ => ?_)
        | refine @mono_ite _ _ _ _ ?_ ?_
        | refine @mono_req _ _ _ ?_
        | refine @mono_loop _ _ _ _ (fun _ => ?_)
        | refine @mono_elim _ _ _ _ _ _ (fun _ => ?_) (fun _ => ?_)
      all_goals infer_instance) (fun x h' => h' = h13 ∧ x.1 = false) ?_ ?_
    · refine len_map hs14.p2 ?_
      have : (ul.len : Int) = ((asMap p'.used).length : Nat) := by simp [hul, asMap]
      simp [this]
      simp [asMap]
      omega
    rintro ⟨x, ⟨⟩⟩ h14 ⟨rfl, e4⟩
    simp only at e4
    subst e4
    simp only [HM.ite_apply, Bool.false_eq_true, if_false, HM.bind_apply]
    refine loop_gx (γ := Nat) (hb := fun s => by
      repeat' with_reducible first
        | refine @mono_bind _ _ _ _ ?_ (fun _ => ?_)
        | refine @mono_ite _ _ _ _ ?_ ?_
        | refine @mono_elim _ _ _ _ _ _ (fun _ => ?_) (fun _ => ?_)
      all_goals infer_instance) (fun j c h' => h' = h14 ∧ c.1 = (j : Int) ∧ j ≤ p'.used.length) (fun j => p'.used.length - j) 0 ⟨rfl, rfl, Nat.zero_le _⟩ ?_
    rintro j ⟨c, ⟨⟩⟩ h15 ⟨rfl, hcj, hj⟩
    simp only at hcj
    subst hcj
    have nextj : IntKind.wrap .i64 ((j : Int) + 1) = ((j + 1 : Nat) : Int) := by rw [wrap_id (by omega) (by omega)]; rfl
    simp
    by_cases hjl : j < p'.used.length
    · rw [if_pos (by omega)]
      have hlt' : j < (sortI p'.used).length := by simp [sortI, List.length_mergeSort]; exact hjl
      refine idx_row (hs14.own_row eI_len) (List.getElem?_eq_getElem hlt') fun a ha => ?_
      have c0 : cellH h15 a = some (.int .i64 (sortI p'.used)[j]) := by simpa [Go.H.add_zero] using ha 0 _ rfl
      have hmem : (sortI p'.used)[j] ∈ p'.used := (List.mergeSort_perm p'.used _).mem_iff.1 (List.getElem_mem hlt')
      simp [c0]
      refine lookup_map kI (kind := .one .bool) (z := false) rfl hs14.p2 ?_
      rw [mget_asMap]
      simp [hmem]
      exact .mk (j + 1) (by omega) ⟨rfl, nextj, by omega⟩
    · rw [if_neg (by omega)]
      exact .mk (i + 1, p') (by simp only []; omega) ⟨by simp only []; omega, next, hm0.symm, hs14.drop.p1⟩
  · rw [if_neg (by omega)]
    simp
    refine wakes15_spec hs3.p2 fun h4 hs4 => ?_
    simp
    exact hq _ _ hs4

end Go.Proofs.Ytlgddhcbiioefaa
