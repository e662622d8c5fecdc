/-
  L16o: the law TagsOnce over heaps.
-/
import Derived.Test.YtlgddhcbiioefaaDoorCtxt
namespace Go.Proofs.YtlgddhcbiioefaaDoor
open Go.H Go.Proofs
set_option linter.unusedSimpArgs false
set_option linter.unusedVariables false
set_option synthInstance.maxSize 100000
set_option synthInstance.maxHeartbeats 400000

abbrev eVIt : Int → Value := Kind.val (.one (.int .i64))
abbrev encTg (x : TagT) : List Value := [.int .i64 x.1, .int .i64 x.2]

theorem eqTagL (a b c d : Int) : eqTy Tryd.prog 8 104 (.agg #[.int .i64 a, .int .i64 b]) (.agg #[.int .i64 c, .int .i64 d]) = some ((a == c) && ((b == d) && true)) := by kernel_rfl
theorem kTagL : KeyLaw (eqTy Tryd.prog 8 104) e2 := key_e2 eqTagL
theorem eqTagL_self (a b : Int) : eqTy Tryd.prog 8 104 (.agg #[.int .i64 a, .int .i64 b]) (.agg #[.int .i64 a, .int .i64 b]) = some true := by
  rw [eqTagL]; simp

theorem addR_len {most : Int} {l : List TagT} {t : TagT} (hl : (l.length : Int) ≤ max 0 most) : ((addR (max 0 most) l t).2.length : Int) ≤ max 0 most := by
  unfold addR
  split
  · split
    · exact hl
    · split
      · exact hl
      · simp; omega
  · exact hl

set_option maxRecDepth 100000 in
theorem TagsOnce_spec {h h0 : Heap} {s : Slc} {xs : List TagT} {most : Int} (hr : RowAt encTg 2 h0 s xs) (hs : sat h [old h0]) {Q : Value → Heap → Prop}
    (hq : ∀ h' R, sat h' (old h0 :: R) → Q (.bool true) h') : HCalls Tryd.prog 7 #[.int .i64 most, .slice s.a s.len s.cap] h Q := by
  refine law16_TagsOnce_calls most s h Q ?_
  have he : (if 200 < ((s.len : Nat) : Int) then (200 : Int) else ((s.len : Nat) : Int)) = ((min 200 xs.length : Nat) : Int) := by
    rw [hr.1]; split <;> omega
  unfold law16_TagsOnce
  rw [he]
  refine bind_call1 (setNew_spec hs most fun b h1 hs1 => ⟨some ⟨b, 0, none⟩, rfl, ?_⟩)
  refine new_map (ek := e2) (ev := eVIt) hs1 fun nm h2 hs2 => ?_
  refine slice_row hr (Nat.min_le_right _ _) fun s' hr' => ?_
  have hys1 : (xs.take (min 200 xs.length)).length ≤ 200 := by simp; omega
  generalize xs.take (min 200 xs.length) = ys at hr' hys1
  have hmx : (if 0 < most then most else 0) = max 0 most := by split <;> omega
  simp only [hmx]
  clear hmx
  refine loop_gx (γ := Nat × List TagT) (hb := fun s => by
    repeat' with_reducible first
      | refine @mono_bind _ _ _ _ ?_ (fun _ => ?_)
      | refine @mono_ite _ _ _ _ ?_ ?_
      | refine @mono_req _ _ _ ?_
      | refine @mono_loop _ _ _ _ (fun _ => ?_)
      | refine @mono_opt _ _ _ _ _ ?_ (fun _ => ?_)
      | refine @mono_elim _ _ _ _ _ _ (fun _ => ?_) (fun _ => ?_)
    all_goals infer_instance)
    (fun g c h => g.1 ≤ ys.length ∧ c.1 = (g.1 : Int) ∧ (g.2.length : Int) ≤ max 0 most ∧ (∀ t ∈ g.2, goodTag t) ∧ sat h [mapA e2 eVIt nm (allM 1 g.2), setA b (max 0 most) g.2, old h0])
    (fun g => ys.length - g.1) (0, []) ⟨Nat.zero_le _, rfl, by simp; omega, by simp, hs2⟩ ?_
  rintro ⟨i, l⟩ ⟨c, ⟨⟩⟩ h3 ⟨hi, hc, hll, hgd, hs3⟩
  simp only at hi hc hll hgd hs3
  subst hc
  have hlen := hr'.1
  simp only [HM.ite_apply, decide_eq_true_eq]
  by_cases hlt : i < ys.length
  · rw [if_pos (by omega)]
    have next : IntKind.wrap .i64 ((i : Int) + 1) = ((i + 1 : Nat) : Int) := by rw [wrap_id (by omega) (by omega)]; rfl
    (try dsimp only); rw [HM.bind_apply]
    refine idx_row hr' (List.getElem?_eq_getElem hlt) fun a ha => ?_
    generalize ys[i] = x at ha
    obtain ⟨u, v⟩ := x
    refine loadN_of (ts := [.int .i64, .int .i64]) (u, v, ()) (fun j w hw => hs3.p2.old_cell (ha j w hw)) ?_
    refine new_cells hs3 fun tb h4 hs4 => ?_
    refine storeN_all' hs4 rfl rfl fun h5 hs5' => ?_
    have hs5 : sat h5 [cells tb #[.int .i64 u, .int .i64 v], mapA e2 eVIt nm (allM 1 l), setA b (max 0 most) l, old h0] := hs5'
    clear hs5' hs4 hs3
    refine loadN_cells (ts := [.int .i64, .int .i64]) (u, v, ()) hs5 rfl ?_
    obtain ⟨⟨isn, c⟩, l', hR⟩ : ∃ z l', addR (max 0 most) l (u, v) = (z, l') := ⟨_, _, rfl⟩
    refine bind_callN (Add_spec (t := (u, v)) (hs5.re [2, 0, 1]) fun h6 hs6 => ?_)
    have hll' := addR_len (t := (u, v)) hll
    rw [hR] at hs6 hll' ⊢
    simp only at hs6 hll' ⊢
    refine ⟨(isn, c, ()), rfl, ?_⟩
    have hs6' := hs6.re [1, 2, 0]
    refine loadN_cells (ts := [.int .i64, .int .i64]) (u, v, ()) hs6' rfl ⟨eqTagL_self u v, ?_⟩
    (try dsimp only); rw [HM.bind_apply]
    refine lookup_map (ek := e2) (k := (u, v)) kTagL (kind := .one (.int .i64)) (z := 0) rfl (hs6'.re [1, 0, 2]) ?_
    rw [mget_allM]
    -- what was answered
    have hcase : (isn = true ∧ c = 0 ∧ (u, v) ∉ l ∧ l' = l ++ [(u, v)]) ∨ (isn = false ∧ l' = l ∧ ((u, v) ∈ l → c = 0) ∧ (c = 151 → max 0 most ≤ l.length)) := by
      unfold addR at hR
      split at hR
      · split at hR
        · rename_i hin
          cases hR
          exact .inr ⟨rfl, rfl, fun _ => rfl, fun h => by cases h⟩
        · rename_i hnin
          split at hR
          · rename_i hfull
            cases hR
            exact .inr ⟨rfl, rfl, fun h => absurd h hnin, fun _ => hfull⟩
          · cases hR
            exact .inl ⟨rfl, rfl, hnin, rfl⟩
      · rename_i hbad
        cases hR
        refine .inr ⟨rfl, rfl, fun h => ?_, fun h => by cases h⟩
        exact absurd (hgd _ h) hbad
    have hgd' : ∀ t ∈ l', goodTag t := by
      rcases hcase with ⟨h1, h2, h3, rfl⟩ | ⟨h1, rfl, h2, h3⟩
      · intro t ht
        rcases List.mem_append.1 ht with ht | ht
        · exact hgd t ht
        · rw [List.mem_singleton.1 ht]
          unfold addR at hR
          split at hR
          · assumption
          · have h9 := congrArg (fun z => z.1.1) hR
            simp only at h9
            rw [h1] at h9
            cases h9
      · exact hgd
    clear hR hs6
    generalize hM : max 0 most = M at *
    refine bind_cut (fun _ h' => sat h' [cells tb #[.int .i64 u, .int .i64 v], mapA e2 eVIt nm (allM 1 l'), setA b M l', old h0]) ?_ ?_
    · rcases hcase with ⟨rfl, rfl, hni, rfl⟩ | ⟨rfl, rfl, h2, h3⟩
      · (try dsimp only); rw [HM.ite_apply, if_pos (by rfl)]
        refine loadN_cells (ts := [.int .i64, .int .i64]) (u, v, ()) hs6' rfl ⟨eqTagL_self u v, ?_⟩
        (try dsimp only); rw [HM.bind_apply]
        refine lookup_map (ek := e2) (k := (u, v)) kTagL (kind := .one (.int .i64)) (z := 0) rfl (hs6'.re [1, 0, 2]) ?_
        rw [mget_allM, if_neg hni]
        refine ⟨eqTagL_self u v, ?_⟩
        (try dsimp only); rw [HM.bind_apply]
        refine mapEntry_map (ek := e2) (k := (u, v)) kTagL inj_e2 (kind := .one (.int .i64)) (z := 0) rfl (hs6'.re [1, 0, 2]) fun st h7 hs7 => ?_
        rw [mget_allM, if_neg hni] at hs7 ⊢
        refine ⟨eqTagL_self u v, ?_⟩
        (try dsimp only); rw [HM.bind_apply]
        refine lookup_map (ek := e2) (k := (u, v)) kTagL (kind := .one (.int .i64)) (z := 0) rfl (entA_map hs7) ?_
        rw [mget_set, if_pos (by rfl)]
        refine ⟨rfl, ?_⟩
        (try dsimp only); rw [HM.bind_apply]
        refine entryStore_map (ek := e2) (ev := eVIt) (x := 1) kTagL inj_e2 hs7 fun h8 hs8 => ?_
        rw [mset_twice, mset_allM _ _ _ hni] at hs8
        exact hs8.re [1, 0, 2]
      · (try dsimp only); rw [HM.ite_apply, if_neg (by simp)]
        exact hs6'
    rintro ⟨⟩ h7 hs7
    refine bind_cut (fun x h' => x.1 = false ∧ h' = h7) ?_ ?_
    · rcases hcase with ⟨rfl, rfl, hni, rfl⟩ | ⟨rfl, rfl, h2, h3⟩
      · simp [hni]
      · by_cases hin : (u, v) ∈ l'
        · have := h2 hin
          subst this
          simp [hin]
        · by_cases hf : c = 151
          · have hle := h3 hf
            subst hf
            simp [hin]
            refine Len_spec (hs7.re [2, 0, 1]) ?_
            simp
            exact hle
          · simp [hin, hf]
    rintro ⟨x, ⟨⟩⟩ h8 ⟨hx, rfl⟩
    simp only at hx
    subst hx
    (try dsimp only); rw [HM.ite_apply, if_neg (by simp)]
    -- each of them is there
    (try dsimp only); rw [HM.bind_apply]
    refine range_map (hs7.re [1, 2, 0]) fun it h9 hs9 => ?_
    (try dsimp only); rw [HM.bind_apply]
    refine loop_gx (γ := List (TagT × Int) × List (TagT × Int)) (hb := fun s => by
      repeat' with_reducible first
        | refine @mono_bind _ _ _ _ ?_ (fun _ => ?_)
        | refine @mono_ite _ _ _ _ ?_ ?_
        | refine @mono_req _ _ _ ?_
        | refine @mono_opt _ _ _ _ _ ?_ (fun _ => ?_)
        | refine @mono_elim _ _ _ _ _ _ (fun _ => ?_) (fun _ => ?_)
      all_goals infer_instance)
      (fun g _ h' => (g.1 ++ g.2).Perm (allM 1 l') ∧ sat h' [itA e2 eVIt nm (allM 1 l') it g.1 g.2, setA b M l', cells tb #[.int .i64 u, .int .i64 v], old h0])
      (fun g => g.2.length) ([], allM 1 l') ⟨List.Perm.refl _, hs9⟩ ?_
    rintro ⟨done, todo⟩ ⟨⟩ h10 ⟨hp, hs10⟩
    simp only at hp hs10
    (try dsimp only); rw [HM.bind_apply]
    refine next_map hs10 (fun h0 => ?_) (fun q t1 t2 ht h11 hs11 => ?_)
    · subst h0
      rw [opt_none, HM.ite_apply, if_neg (by simp)]
      simp only [Sum.elim_inl, Sum.elim_inr, HM.pure_apply]
      exact .mk (i + 1, l') (by first | omega | (simp only []; omega)) ⟨by first | omega | (simp only []; omega), next, hll', hgd', (((itA_map hs10).re [2, 0, 1]).drop)⟩
    · subst ht
      rw [opt_some, HM.ite_apply, if_pos (by rfl)]
      have hqm : q ∈ allM 1 l' := hp.mem_iff.1 (by simp)
      obtain ⟨⟨qu, qv⟩, hqL, rfl⟩ := List.mem_map.1 hqm
      (try dsimp only); rw [HM.bind_apply]
      refine entry_map (kk := .agg [.int .i64, .int .i64]) (kv := .one .any) (ek := e2) (ev := eVIt) (x := (qu, qv, ())) (y := Value.int .i64 1) rfl rfl hs11 ?_
      refine new_cells hs11 fun qb h12 hs12 => ?_
      refine storeN_all' hs12 rfl rfl fun h13 hs13' => ?_
      have hs13 : sat h13 [cells qb #[.int .i64 qu, .int .i64 qv], itA e2 eVIt nm (allM 1 l') it (done ++ [((qu, qv), 1)]) (t1 ++ t2), setA b M l', cells tb #[.int .i64 u, .int .i64 v], old h0] := hs13'
      refine loadN_cells (ts := [.int .i64, .int .i64]) (qu, qv, ()) hs13 rfl ?_
      refine bind_call1 (Has_spec (t := (qu, qv)) (hs13.re [2, 0, 1, 3]) fun h14 hs14 => ⟨true, by simp [hqL], ?_⟩)
      (try dsimp only); rw [HM.ite_apply, if_neg (by simp)]
      simp only [Sum.elim_inl, Sum.elim_inr, HM.pure_apply]
      refine .mk (done ++ [((qu, qv), 1)], t1 ++ t2) (by simp) ⟨?_, (hs14.re [1, 2, 0, 3]).drop⟩
      refine List.Perm.trans ?_ hp
      simp only [List.append_assoc]
      refine List.Perm.append_left done ?_
      show (((qu, qv), (1 : Int)) :: (t1 ++ t2)).Perm _
      exact List.perm_middle.symm
  · rw [if_neg (by omega)]
    simp only [Sum.elim_inl, Sum.elim_inr, HM.pure_apply]
    refine bind_cut (fun (x : Bool × Unit) h' => x.1 = true ∧ sat h' [old h0]) ?_ ?_
    · refine bind_call1 (wakes16_spec hs3 fun h4 hs4 => ⟨true, rfl, ?_⟩)
      (try dsimp only); rw [HM.ite_apply, if_pos (by rfl)]
      refine bind_call1 (Len_spec hs4.p1 ⟨_, rfl, ?_⟩)
      (try dsimp only); rw [HM.bind_apply]
      refine len_map hs4 ?_
      (try dsimp only); rw [HM.ite_apply, if_pos (by simp [allM_len])]
      refine bind_call1 (Len_spec hs4.p1 ⟨_, rfl, ?_⟩)
      exact ⟨by simpa using hll, hs4.drop.drop⟩
    · rintro ⟨x, ⟨⟩⟩ h6 ⟨rfl, hs6⟩
      exact hq h6 [] hs6

end Go.Proofs.YtlgddhcbiioefaaDoor
