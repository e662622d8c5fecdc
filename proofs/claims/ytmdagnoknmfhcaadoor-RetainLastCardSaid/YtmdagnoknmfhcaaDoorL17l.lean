/-
  L17l: the laws of stores over heaps: RetainLast.
-/
import Derived.Test.YtmdagnoknmfhcaaDoorL17
namespace Go.Proofs.YtmdagnoknmfhcaaDoor
open Go.H Go.Proofs Go.Lib
set_option linter.unusedSimpArgs false
set_option linter.unusedVariables false
set_option synthInstance.maxSize 100000
set_option synthInstance.maxHeartbeats 400000
set_option maxRecDepth 100000

variable {h h0 : Heap} {R : List Asn}

theorem setP_cases (most : Int) (l : List (ByteArray × MsgT)) (m : MsgT) :
    ((setP most l m).1 = 0 ∧ m.2.1 ≠ ByteArray.mk #[] ∧ (setP most l m).2 = mset l m.1 m) ∨ ((setP most l m).1 = 0 ∧ m.2.1 = ByteArray.mk #[] ∧ (setP most l m).2 = mdel l m.1) ∨
    ((setP most l m).1 ≠ 0 ∧ (setP most l m).2 = l ∧ ((setP most l m).1 = 151 → most ≤ l.length)) := by
  unfold setP
  split
  · exact .inr (.inr ⟨by simp, rfl, by simp⟩)
  split
  · exact .inr (.inr ⟨by simp, rfl, by simp⟩)
  split
  · rename_i h1 h2 h3; exact .inr (.inl ⟨rfl, h3, rfl⟩)
  split
  · rename_i h1 h2 h3 h4; exact .inr (.inr ⟨by simp, rfl, fun _ => h4.2⟩)
  · rename_i h1 h2 h3 h4; exact .inl ⟨rfl, h3, rfl⟩

theorem hit_count {most : Int} {l : List (ByteArray × MsgT)} {L : List MsgT} (h : Sto most l L) (f : ByteArray) : (l.filter fun p => matchB f p.1).length = (hitR L f).length := by
  have e : (l.filter fun p => matchB f p.1).length = ((l.map (·.2)).filter fun m => matchB f m.1).length := by
    rw [List.filter_map, List.length_map]
    congr 1
    refine List.filter_congr fun p hp => ?_
    simp only [Function.comp_apply]
    rw [← h.rel.kk p hp]
  rw [e]
  exact (h.rel.perm.filter _).length_eq

theorem mem_count {l d t : List (ByteArray × MsgT)} (f : ByteArray) (hp : (d ++ t).Perm l) (ht : t = []) : (d.filter fun p => matchB f p.1).length = (l.filter fun p => matchB f p.1).length := by
  subst ht
  rw [List.append_nil] at hp
  exact (hp.filter _).length_eq

set_option maxHeartbeats 2000000 in
theorem RetainLast_spec {n : Int} {s : Slc} {xs : List (ByteArray × ByteArray × Int)} {f : ByteArray} (hs : sat h (old h0 :: R)) (ht : TP h0) (hxr : RowAt encL17 3 h0 s xs) (hxz : ∀ x ∈ xs, x.1.size ≤ 9223372036854775807)
    (hfz : f.size ≤ 9223372036854775807) {Q : Value → Heap → Prop} (hq : ∀ h' R', sat h' (old h0 :: R') → Q (.bool true) h') :
    HCalls Tryd.prog 4 #[.int .i64 n, .slice s.a s.len s.cap, .string f] h Q := by
  refine law17_RetainLast_calls n s f h Q ?_
  unfold law17_RetainLast
  refine bind_call1 (retNew_spec hs n fun b h1 hs1 => ⟨some ⟨b, 0, none⟩, rfl, ?_⟩)
  obtain ⟨hmo0, hmo⟩ := mostOf_le n
  have hsto := Sto.nil hmo0
  rw [show (if 0 < ((if 64 < n then 64 else n) : Int) then (if 64 < n then 64 else n) else 0) = mostOf n from rfl]
  generalize mostOf n = most at hs1 hmo0 hmo hsto ⊢
  (try dsimp only); rw [HM.bind_apply]
  refine new_map (ek := eKS) (ev := Kind.val kM) hs1 fun q h2 hs2 => ?_
  have hs3 : sat h2 (stoA b most [] :: mapA eKS (Kind.val kM) q [] :: old h0 :: R) := hs2.p1
  clear hs2 hs1
  have hsl := hxr.1
  have hcut : (if 100 < ((s.len : Nat) : Int) then (100 : Int) else ((s.len : Nat) : Int)) = ((min 100 xs.length : Nat) : Int) := by
    rw [hsl]; split <;> omega
  rw [hcut]
  (try dsimp only); rw [HM.bind_apply]
  refine slice_row hxr (by omega) fun s1 hs1r => ?_
  have hs1l := hs1r.1
  have hxz1 : ∀ x ∈ xs.take (min 100 xs.length), x.1.size ≤ 9223372036854775807 := fun x hx => hxz x (List.mem_of_mem_take hx)
  have hx100 : (xs.take (min 100 xs.length)).length ≤ 100 := by simp; omega
  generalize xs.take (min 100 xs.length) = ys at hs1r hs1l hxz1 hx100
  (try dsimp only); rw [HM.bind_apply]
  refine loop_gx (γ := Nat) (hb := fun s => by
      repeat' with_reducible first
        | refine @mono_bind _ _ _ _ ?_ (fun _ => ?_)
        | refine @mono_ite _ _ _ _ ?_ ?_
      all_goals infer_instance)
    (fun g k h' => ∃ l L, k.1 = (((ys.length - g : Nat)) : Int) ∧ g ≤ ys.length ∧ Sto most l L ∧ sat h' (stoA b most l :: mapA eKS (Kind.val kM) q l :: old h0 :: R)) (fun g => g) ys.length
    ⟨[], [], by simp, Nat.le_refl _, hsto, hs3⟩ ?_
  clear hs3 hsto
  rintro g ⟨k, ⟨⟩⟩ h4 ⟨l, L, hc, hg, hsto, hs4⟩
  simp only at hc
  subst hc
  (try dsimp only); rw [HM.ite_apply]
  by_cases hi : ys.length - g < ys.length
  · rw [if_pos (by simp only [decide_eq_true_eq, hs1l]; omega)]
    obtain ⟨x, hx⟩ : ∃ x, ys[ys.length - g]? = some x := ⟨_, List.getElem?_eq_getElem hi⟩
    have hxs : x.1.size ≤ 9223372036854775807 := hxz1 x (List.mem_of_getElem? hx)
    (try dsimp only); rw [HM.bind_apply]
    refine idx_row (hs1r.old (hs4.re [2, 0, 1])) hx fun a ha => ?_
    have ha' : ∀ j v, (encG (toM x))[j]? = some v → cellH h4 (a.add j) = some v := fun j v hv => ha j v hv
    (try dsimp only); rw [HM.bind_apply]
    refine load_enc (m := toM x) ha' ?_
    have hxs' : (toM x).1.size ≤ 9223372036854775807 := hxs
    generalize toM x = m at hxs'
    refine new_cells hs4 fun y h5 hs5' => ?_
    (try dsimp only); rw [HM.bind_apply]
    refine storeN_all' hs5' rfl rfl fun h6 hs6' => ?_
    have hs6 : sat h6 (cells y (encG m).toArray :: stoA b most l :: mapA eKS (Kind.val kM) q l :: old h0 :: R) := hs6'
    clear hs6' hs5'
    refine loadN_cells (ts := [.str, .str, .int .i64]) m hs6 rfl ?_
    refine bind_call1 (Set_spec (b := b) (m := m) (hs6.re [1, 3, 0, 2]) ht (by omega) fun h7 hs7' => ⟨_, rfl, ?_⟩)
    have hs7 : sat h7 (cells y (encG m).toArray :: mapA eKS (Kind.val kM) q l :: stoA b most (setP most l m).2 :: old h0 :: R) := hs7'.re [2, 3, 0, 1]
    clear hs7' hs6
    have hsto' := (hsto.set m).2
    have hcs := setP_cases most l m
    generalize (setR most L m).2 = L' at hsto'
    generalize (setP most l m).1 = code at hcs
    generalize hl' : (setP most l m).2 = l' at hs7 hsto' hcs
    -- what was taken
    refine bind_cut (fun z h' => h' = h7 ∧ z.1 = decide (code = 0 ∧ m.2.1 ≠ ByteArray.mk #[])) ?_ ?_
    · (try dsimp only); rw [HM.ite_apply]
      by_cases hc0 : code = 0
      · rw [if_pos (by simp [hc0])]
        refine ⟨m.2.1, by rw [add_own]; exact hs7.cell 1, rfl, ?_⟩
        simp [hc0]
      · rw [if_neg (by simpa using hc0)]
        exact ⟨rfl, by simp [hc0]⟩
    rintro ⟨z, ⟨⟩⟩ h8 ⟨rfl, hz⟩
    simp only at hz
    subst hz
    refine bind_cut (fun z h' => sat h' (cells y (encG m).toArray :: mapA eKS (Kind.val kM) q (if code = 0 ∧ m.2.1 ≠ ByteArray.mk #[] then mset l m.1 m else l) :: stoA b most l' :: old h0 :: R)) ?_ ?_
    · (try dsimp only); rw [HM.ite_apply]
      by_cases hcc : code = 0 ∧ m.2.1 ≠ ByteArray.mk #[]
      · rw [if_pos (by simpa using hcc), if_pos hcc]
        refine ⟨m.1, by rw [add_own]; exact hs7.cell 0, ?_⟩
        refine loadN_cells (ts := [.str, .str, .int .i64]) m hs7 rfl ?_
        (try dsimp only); rw [HM.bind_apply]
        refine set_map (x := m) key_str inj_eKS hs7.p1 fun h9 hs9 => hs9.p1
      · rw [if_neg (by simpa using hcc), if_neg hcc]
        exact hs7
    rintro ⟨⟩ h9 hs9
    refine bind_cut (fun z h' => h' = h9 ∧ z.1 = decide (code = 0 ∧ m.2.1 = ByteArray.mk #[])) ?_ ?_
    · (try dsimp only); rw [HM.ite_apply]
      by_cases hc0 : code = 0
      · rw [if_pos (by simp [hc0])]
        refine ⟨m.2.1, by rw [add_own]; exact hs9.cell 1, rfl, ?_⟩
        simp [hc0]
      · rw [if_neg (by simpa using hc0)]
        exact ⟨rfl, by simp [hc0]⟩
    rintro ⟨z, ⟨⟩⟩ h10 ⟨rfl, hz⟩
    simp only at hz
    subst hz
    refine bind_cut (fun z h' => sat h' (cells y (encG m).toArray :: mapA eKS (Kind.val kM) q l' :: stoA b most l' :: old h0 :: R)) ?_ ?_
    · (try dsimp only); rw [HM.ite_apply]
      rcases hcs with ⟨c1, c2, c3⟩ | ⟨c1, c2, c3⟩ | ⟨c1, c2, c3⟩
      · rw [if_pos ⟨c1, c2⟩] at hs9
        rw [if_neg (by simp [c2]), c3]
        rw [c3] at hs9
        exact hs9
      · rw [if_neg (fun e => e.2 c2)] at hs9
        rw [if_pos (by simp [c1, c2])]
        refine ⟨m.1, by rw [add_own]; exact hs9.cell 0, ?_⟩
        (try dsimp only); rw [HM.bind_apply]
        refine del_map key_str hs9.p1 fun h11 hs11 => ?_
        rw [c3]
        rw [c3] at hs11
        exact hs11.p1
      · rw [if_neg (fun e => c1 e.1)] at hs9
        rw [if_neg (by simp [c1]), c2]
        rw [c2] at hs9
        exact hs9
    rintro ⟨⟩ h11 hs11
    refine bind_cut (fun z h' => h' = h11 ∧ z.1 = false) ?_ ?_
    · (try dsimp only); rw [HM.ite_apply]
      by_cases hc1 : code = 151
      · rw [if_pos (by simp [hc1])]
        (try dsimp only); rw [HM.bind_apply]
        refine len_map hs11.p1 ⟨rfl, ?_⟩
        rcases hcs with ⟨c1, c2, c3⟩ | ⟨c1, c2, c3⟩ | ⟨c1, c2, c3⟩
        · rw [hc1] at c1; exact absurd c1 (by decide)
        · rw [hc1] at c1; exact absurd c1 (by decide)
        · have := c3 hc1
          rw [c2]
          simp only [decide_eq_false_iff_not]
          omega
      · rw [if_neg (by simpa using hc1)]
        exact ⟨rfl, rfl⟩
    rintro ⟨z, ⟨⟩⟩ h12 ⟨rfl, hz⟩
    simp only at hz
    subst hz
    (try dsimp only); rw [HM.ite_apply, if_neg (by simp)]
    simp only [Sum.elim_inl, Sum.elim_inr, HM.pure_apply]
    exact .mk (g - 1) (by omega) ⟨l', L', by simp only; rw [wrap_id (by omega) (by omega)]; omega, by omega, hsto', hs11.drop.p1⟩
  rw [if_neg (by simp only [decide_eq_true_eq, hs1l]; omega)]
  simp only [Sum.elim_inl, Sum.elim_inr, HM.pure_apply]
  have hll := (hsto.lenL hmo).1
  (try dsimp only); rw [HM.bind_apply]
  refine range_map hs4.p1 fun it h5 hs5 => ?_
  (try dsimp only); rw [HM.bind_apply]
  refine loop_gx (γ := List (ByteArray × MsgT) × List (ByteArray × MsgT)) (hb := fun s => by
      repeat' with_reducible first
        | refine @mono_bind _ _ _ _ ?_ (fun _ => ?_)
        | refine @mono_ite _ _ _ _ ?_ ?_
        | refine @mono_opt _ _ _ _ _ ?_ (fun _ => ?_)
      all_goals infer_instance)
    (fun g k h' => k.1 = (((g.1.filter fun p => matchB f p.1).length : Nat) : Int) ∧ (g.1 ++ g.2).Perm l ∧ sat h' (itA eKS (Kind.val kM) q l it g.1 g.2 :: stoA b most l :: old h0 :: R)) (fun g => g.2.length) ([], l)
    ⟨rfl, by simp, hs5⟩ ?_
  clear hs5 hs4
  rintro ⟨dn, td⟩ ⟨k, ⟨⟩⟩ h6 ⟨hk, hperm, hs6⟩
  simp only at hk hperm hs6
  subst hk
  (try dsimp only); rw [HM.bind_apply]
  refine next_map hs6 (fun h0' => ?_) (fun p t1 t2 htd h7 hs7 => ?_)
  · -- all were met
    have hcnt := (mem_count f hperm h0').trans (hit_count hsto f)
    rw [hcnt]
    generalize hW : (hitR L f).length = W
    have hs8 : sat h6 (stoA b most l :: mapA eKS (Kind.val kM) q l :: old h0 :: R) := (itA_map hs6).p1
    show (HM.ite false _ _) h6 _
    (try dsimp only); rw [HM.ite_apply, if_neg (by simp)]
    simp only [Sum.elim_inl, Sum.elim_inr, HM.pure_apply]
    refine bind_call1 (Match_st (b := b) (hs8.re [0, 2, 1]) ht hfz hll hsto.small fun sl h9 hs9 => ⟨sl, rfl, ?_⟩)
    rw [hsto.hit] at hs9
    have hasc : (hitR L f).Pairwise fun a b => ltS a.1 b.1 := hsto.rel.asc.filter _
    have hmem : ∀ m ∈ hitR L f, mget l m.1 = some m := fun m hm => hsto.rel.of_mem ordS (List.mem_filter.1 hm).1
    have hWl : W ≤ 64 := by
      rw [← hW]
      exact Nat.le_trans (List.length_filter_le _ _) (hsto.lenL hmo).2
    generalize hitR L f = T at hs9 hasc hmem hW
    have hl1 := hs9.own_len
    have hs10 : sat h9 (mapA eKS (Kind.val kM) q l :: ownS encG 3 sl T :: stoA b most l :: old h0 :: R) := hs9.re [3, 0, 1, 2]
    clear hs9 hs8
    (try dsimp only); rw [HM.bind_apply]
    refine loop_gx (γ := Nat) (hb := fun s => by
        repeat' with_reducible first
          | refine @mono_bind _ _ _ _ ?_ (fun _ => ?_)
          | refine @mono_ite _ _ _ _ ?_ ?_
        all_goals infer_instance)
      (fun g k h' => k.1 = (((T.length - g : Nat)) : Int) ∧ g ≤ T.length ∧ ∃ R', sat h' (mapA eKS (Kind.val kM) q l :: ownS encG 3 sl T :: stoA b most l :: old h0 :: R')) (fun g => g) T.length
      ⟨by simp, Nat.le_refl _, R, hs10⟩ ?_
    clear hs10
    rintro g2 ⟨k, ⟨⟩⟩ h10 ⟨hc, hg2, R2, hs10⟩
    simp only at hc
    subst hc
    (try dsimp only); rw [HM.ite_apply]
    by_cases hi2 : T.length - g2 < T.length
    · rw [if_pos (by simp only [decide_eq_true_eq, hl1]; omega)]
      obtain ⟨m, hm⟩ : ∃ m, T[T.length - g2]? = some m := ⟨_, List.getElem?_eq_getElem hi2⟩
      (try dsimp only); rw [HM.bind_apply]
      refine idx_row (hs10.p1.own_row eG_len) hm fun a ha => ?_
      (try dsimp only); rw [HM.bind_apply]
      refine load_enc ha ?_
      refine new_cells hs10 fun y h11 hs11' => ?_
      (try dsimp only); rw [HM.bind_apply]
      refine storeN_all' hs11' rfl rfl fun h12 hs12' => ?_
      have hs12 : sat h12 (cells y (encG m).toArray :: mapA eKS (Kind.val kM) q l :: ownS encG 3 sl T :: stoA b most l :: old h0 :: R2) := hs12'
      clear hs12' hs11'
      refine bind_cut (fun z h' => h' = h12 ∧ z.1 = false) ?_ ?_
      · refine ⟨m.1, by rw [add_own]; exact hs12.cell 0, ?_⟩
        (try dsimp only); rw [HM.bind_apply]
        refine lookup_map (kind := kM) (z := zM) key_str rfl hs12.p1 ?_
        rw [hmem m (List.mem_of_getElem? hm)]
        refine loadN_cells (ts := [.str, .str, .int .i64]) m hs12 rfl ?_
        (try dsimp only); rw [HM.ite_apply, if_neg (by simp)]
        (try dsimp only); rw [HM.ite_apply]
        by_cases h0i : 0 < T.length - g2
        · rw [if_pos (by simp only [decide_eq_true_eq]; omega)]
          obtain ⟨m', hm'⟩ : ∃ m', T[T.length - g2 - 1]? = some m' := ⟨_, List.getElem?_eq_getElem (by omega)⟩
          have hw : IntKind.wrap .i64 ((((T.length - g2 : Nat)) : Int) - 1) = ((T.length - g2 - 1 : Nat) : Int) := by rw [wrap_id (by omega) (by omega)]; omega
          rw [hw]
          (try dsimp only); rw [HM.bind_apply]
          refine idx_row ((hs12.re [2, 0, 1]).own_row eG_len) hm' fun a' ha' => ?_
          refine ⟨m'.1, ha' 0 _ rfl, ?_⟩
          refine ⟨m.1, by rw [add_own]; exact hs12.cell 0, rfl, ?_⟩
          have hlt : ltS m'.1 m.1 := by
            obtain ⟨i1, e1⟩ := List.getElem?_eq_some_iff.1 hm'
            obtain ⟨i2, e2⟩ := List.getElem?_eq_some_iff.1 hm
            have := List.pairwise_iff_getElem.1 hasc (T.length - g2 - 1) (T.length - g2) i1 i2 (by omega)
            rw [e1, e2] at this
            exact this
          simp only [less_ltS, hlt, decide_true, Bool.not_true]
        · rw [if_neg (by simp only [decide_eq_true_eq]; omega)]
          exact ⟨rfl, rfl⟩
      rintro ⟨z, ⟨⟩⟩ h13 ⟨rfl, hz⟩
      simp only at hz
      subst hz
      (try dsimp only); rw [HM.ite_apply, if_neg (by simp)]
      simp only [Sum.elim_inl, Sum.elim_inr, HM.pure_apply]
      exact .mk (g2 - 1) (by omega) ⟨by simp only; rw [wrap_id (by omega) (by omega)]; omega, by omega, R2, hs12.drop⟩
    · rw [if_neg (by simp only [decide_eq_true_eq, hl1]; omega)]
      simp only [Sum.elim_inl, Sum.elim_inr, HM.pure_apply]
      refine bind_cut (fun z h' => z.1 = true ∧ ∃ R', sat h' (old h0 :: R')) ?_ ?_
      · refine bind_call1 (wakes_spec (hs10.re [3, 0, 1, 2]) ht fun h11 hs11 => ⟨true, rfl, ?_⟩)
        (try dsimp only); rw [HM.ite_apply, if_pos rfl]
        (try dsimp only); rw [HM.ite_apply, if_pos (by rw [hl1, hW]; simp)]
        (try dsimp only); rw [HM.bind_apply]
        refine len_map hs11.p1 ⟨?_, _, hs11⟩
        have := hsto.len
        simpa using this
      rintro ⟨z, ⟨⟩⟩ h11 ⟨hz, R3, hs11⟩
      simp only at hz
      subst hz
      exact hq _ _ hs11
  · -- one more
    show (HM.ite true _ _) h7 _
    (try dsimp only); rw [HM.ite_apply, if_pos rfl]
    have hpl : p ∈ l := hperm.mem_iff.1 (List.mem_append_right _ (by rw [htd]; simp))
    have hpk : p.2.1 = p.1 := hsto.rel.kk p hpl
    have hg : mget l p.1 = some p.2 := (mget_mem_iff hsto.rel.nd).2 hpl
    have hpz := hsto.small p hpl
    (try dsimp only); rw [HM.bind_apply]
    refine entry_map (kk := .one .str) (kv := kM) (x := p.1) (y := p.2) rfl rfl hs7 ?_
    refine new_cells hs7 fun y h8 hs8' => ?_
    (try dsimp only); rw [HM.bind_apply]
    refine storeN_all' hs8' rfl rfl fun h9 hs9' => ?_
    have hs9 : sat h9 (cells y (encG p.2).toArray :: itA eKS (Kind.val kM) q l it (dn ++ [p]) (t1 ++ t2) :: stoA b most l :: old h0 :: R) := hs9'
    clear hs9' hs8'
    refine bind_callN (Get_spec (b := b) (hs9.re [2, 0, 1]) fun h10 hs10' => ⟨((mget l p.1).getD zM, (mget l p.1).isSome, ()), rfl, ?_⟩)
    have hs10 : sat h10 (cells y (encG p.2).toArray :: itA eKS (Kind.val kM) q l it (dn ++ [p]) (t1 ++ t2) :: stoA b most l :: old h0 :: R) := hs10'.re [1, 2, 0]
    clear hs10' hs9
    rw [hg]
    refine new_cells hs10 fun y2 h11 hs11' => ?_
    (try dsimp only); rw [HM.bind_apply]
    refine storeN_all' hs11' rfl rfl fun h12 hs12' => ?_
    have hs12 : sat h12 (cells y2 (encG p.2).toArray :: cells y (encG p.2).toArray :: itA eKS (Kind.val kM) q l it (dn ++ [p]) (t1 ++ t2) :: stoA b most l :: old h0 :: R) := hs12'
    clear hs12' hs11' hs10
    refine bind_cut (fun z h' => h' = h12 ∧ z.1 = false) ?_ ?_
    · (try dsimp only); rw [HM.ite_apply, if_neg (by simp)]
      refine loadN_cells (ts := [.str, .str, .int .i64]) p.2 hs12 rfl ?_
      refine loadN_cells (ts := [.str, .str, .int .i64]) p.2 hs12.p1 rfl ⟨rfl, by simp⟩
    rintro ⟨z, ⟨⟩⟩ h13 ⟨rfl, hz⟩
    simp only at hz
    subst hz
    (try dsimp only); rw [HM.ite_apply, if_neg (by simp)]
    have hs13 := hs12.drop.drop
    refine bind_call1 (Match_spec (hs13.re [2, 0, 1]) ht hfz (by omega) fun h14 hs14' => ⟨_, rfl, ?_⟩)
    have hs14 : sat h14 (itA eKS (Kind.val kM) q l it (dn ++ [p]) (t1 ++ t2) :: stoA b most l :: old h0 :: R) := hs14'.re [1, 2, 0]
    have hdl : (dn.filter fun p => matchB f p.1).length ≤ 64 := by
      have h1 := List.length_filter_le (fun p : ByteArray × MsgT => matchB f p.1) dn
      have h2 := hperm.length_eq
      rw [List.length_append] at h2
      omega
    refine bind_cut (fun z h' => h' = h14 ∧ z.1 = ((((dn ++ [p]).filter fun p => matchB f p.1).length : Nat) : Int)) ?_ ?_
    · rw [List.filter_append, List.length_append]
      (try dsimp only); rw [HM.ite_apply]
      cases hmm : matchB f p.1 with
      | true =>
        rw [if_pos rfl]
        refine ⟨rfl, ?_⟩
        simp only [List.filter_cons, hmm, if_true, List.filter_nil, List.length_cons, List.length_nil]
        rw [wrap_id (by omega) (by omega)]
        rfl
      | false =>
        rw [if_neg (by simp)]
        exact ⟨rfl, by simp [hmm]⟩
    rintro ⟨z, ⟨⟩⟩ h15 ⟨rfl, hz⟩
    simp only at hz
    subst hz
    simp only [Sum.elim_inl, Sum.elim_inr, HM.pure_apply]
    refine .mk (dn ++ [p], t1 ++ t2) (by rw [htd]; simp) ⟨rfl, ?_, hs14⟩
    rw [htd] at hperm
    refine List.Perm.trans ?_ hperm
    simp only [List.append_assoc]
    refine List.Perm.append_left _ ?_
    simp only [List.cons_append, List.nil_append]
    exact (List.perm_middle).symm

end Go.Proofs.YtmdagnoknmfhcaaDoor
