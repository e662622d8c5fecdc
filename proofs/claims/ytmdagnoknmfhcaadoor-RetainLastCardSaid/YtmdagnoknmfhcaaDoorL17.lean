/-
  L17: the laws of stores over heaps: RetainNil, RetainPlays.
-/
import Derived.Test.YtmdagnoknmfhcaaDoorC17
import Derived.Test.YtmdagnoknmfhcaaDoorR17
import Derived.Test.YtmdagnoknmfhcaaDoorHw
import Derived.Test.YtmdagnoknmfhcaaDoorHv
namespace Go.Proofs.YtmdagnoknmfhcaaDoor
open Go.H Go.Proofs Go.Lib
set_option linter.unusedSimpArgs false
set_option linter.unusedVariables false
set_option synthInstance.maxSize 100000
set_option synthInstance.maxHeartbeats 400000
set_option maxRecDepth 100000

variable {h h0 : Heap} {R : List Asn}

def toM (x : ByteArray × ByteArray × Int) : MsgT := (x.1, x.2.1, x.2.2, ())

theorem RetainNil_spec {x : ByteArray × ByteArray × Int} (hs : sat h (old h0 :: R)) (ht : TP h0) {Q : Value → Heap → Prop} (hq : ∀ h' R', sat h' (old h0 :: R') → Q (.bool true) h') :
    HCalls Tryd.prog 5 #[.agg #[.string x.1, .string x.2.1, .int .i64 x.2.2]] h Q := by
  refine law17_RetainNil_calls (toM x) h Q ?_
  unfold law17_RetainNil
  refine new_cells hs fun b h1 hs1' => ?_
  have hs1 : sat h1 (cells b (encG (toM x)).toArray :: old h0 :: R) := hs1'
  refine ⟨x.1, by rw [add_own]; exact hs1.cell 0, ?_⟩
  refine bind_callN (rGet_nil hs1 fun h2 hs2 => ⟨(zM, false, ()), rfl, ?_⟩)
  refine new_cells hs2 fun c h3 hs3 => ?_
  (try dsimp only); rw [HM.bind_apply]
  refine storeN_all' hs3 rfl rfl fun h4 hs4 => ?_
  have hs5 := hs4.drop
  refine bind_cut (fun z h' => z.1 = true ∧ sat h' (cells b (encG (toM x)).toArray :: old h0 :: R)) ?_ ?_
  · refine bind_call1 (wakes_spec hs5.p1 ht fun h5 hs6' => ⟨true, rfl, ?_⟩)
    have hs6 := hs6'.p1
    (try dsimp only); rw [HM.ite_apply, if_pos rfl]
    refine loadN_cells (ts := [.str, .str, .int .i64]) (toM x) hs6 rfl ?_
    refine bind_call1 (Set_nil (m := toM x) hs6 fun h6 hs7 => ⟨128, rfl, ?_⟩)
    (try dsimp only); rw [HM.ite_apply, if_pos (by rfl)]
    (try dsimp only); rw [HM.ite_apply, if_pos (by rfl)]
    refine ⟨x.1, by rw [add_own]; exact hs7.cell 0, ?_⟩
    refine bind_call1 (rMatch_nil ⟨⟨none, 0, 0⟩, rfl, ?_⟩)
    exact ⟨rfl, hs7⟩
  rintro ⟨z, ⟨⟩⟩ h5 ⟨hz, hs6⟩
  simp only at hz
  subst hz
  exact hq _ _ hs6.p1

theorem encL_len : ∀ x : ByteArray × ByteArray × Int, (encL17 x).length = 3 := fun _ => rfl

set_option maxHeartbeats 1000000 in
theorem RetainPlays_spec {n : Int} {s t : Slc} {xs : List (ByteArray × ByteArray × Int)} {fs : List ByteArray} (hs : sat h (old h0 :: R)) (ht : TP h0) (hxr : RowAt encL17 3 h0 s xs) (hxz : ∀ x ∈ xs, x.1.size ≤ 9223372036854775800)
    (hfr : RowAt eS 1 h0 t fs) (hfz : ∀ f ∈ fs, f.size ≤ 9223372036854775800) {Q : Value → Heap → Prop} (hq : ∀ h' R', sat h' (old h0 :: R') → Q (.bool true) h') :
    HCalls Tryd.prog 3 #[.int .i64 n, .slice s.a s.len s.cap, .slice t.a t.len t.cap] h Q := by
  refine law17_RetainPlays_calls n s t h Q ?_
  unfold law17_RetainPlays
  refine bind_call1 (retNew_spec hs n fun b h1 hs1 => ⟨some ⟨b, 0, none⟩, rfl, ?_⟩)
  refine bind_call1 (rNew_spec hs1 n fun c h2 hs2 => ⟨some ⟨c, 0, none⟩, rfl, ?_⟩)
  refine bind_call1 (wakes_spec (hs2.re [2, 0, 1]) ht fun h3 hs3' => ⟨true, rfl, ?_⟩)
  have hs3 : sat h3 (stoA b (mostOf n) [] :: storA c (mostOf n) [] :: old h0 :: R) := hs3'.re [2, 1, 0]
  clear hs3' hs2 hs1
  obtain ⟨hmo0, hmo⟩ := mostOf_le n
  have hsto := Sto.nil hmo0
  generalize mostOf n = most at hs3 hmo0 hmo hsto
  (try dsimp only); rw [HM.ite_apply, if_neg (by simp)]
  have hsl := hxr.1
  have htl := hfr.1
  have hcut : (if 100 < ((s.len : Nat) : Int) then (100 : Int) else ((s.len : Nat) : Int)) = ((min 100 xs.length : Nat) : Int) := by
    rw [hsl]; split <;> omega
  rw [hcut]
  (try dsimp only); rw [HM.bind_apply]
  refine slice_row hxr (by omega) fun s1 hs1r => ?_
  have hs1l := hs1r.1
  have hxz1 : ∀ x ∈ xs.take (min 100 xs.length), x.1.size ≤ 9223372036854775800 := fun x hx => hxz x (List.mem_of_mem_take hx)
  have hx100 : (xs.take (min 100 xs.length)).length ≤ 100 := by simp; omega
  generalize xs.take (min 100 xs.length) = ys at hs1r hs1l hxz1 hx100
  (try dsimp only); rw [HM.bind_apply]
  refine loop_gx (γ := Nat) (hb := fun s => by
      repeat' with_reducible first
        | refine @mono_bind _ _ _ _ ?_ (fun _ => ?_)
        | refine @mono_ite _ _ _ _ ?_ ?_
      all_goals infer_instance)
    (fun g k h' => ∃ l L, k.1 = (((ys.length - g : Nat)) : Int) ∧ g ≤ ys.length ∧ Sto most l L ∧ sat h' (stoA b most l :: storA c most L :: old h0 :: R)) (fun g => g) ys.length
    ⟨[], [], by simp, Nat.le_refl _, hsto, hs3⟩ ?_
  clear hs3 hsto
  rintro g ⟨k, ⟨⟩⟩ h4 ⟨l, L, hc, hg, hsto, hs4⟩
  simp only at hc
  subst hc
  (try dsimp only); rw [HM.ite_apply]
  by_cases hi : ys.length - g < ys.length
  · rw [if_pos (by simp only [decide_eq_true_eq, hs1l]; omega)]
    obtain ⟨x, hx⟩ : ∃ x, ys[ys.length - g]? = some x := ⟨_, List.getElem?_eq_getElem hi⟩
    have hxs : x.1.size ≤ 9223372036854775800 := hxz1 x (List.mem_of_getElem? hx)
    (try dsimp only); rw [HM.bind_apply]
    refine idx_row (hs1r.old (hs4.re [2, 0, 1])) hx fun a ha => ?_
    have ha' : ∀ j v, (encG (toM x))[j]? = some v → cellH h4 (a.add j) = some v := fun j v hv => ha j v hv
    (try dsimp only); rw [HM.bind_apply]
    refine load_enc (m := toM x) ha' ?_
    have hxs' : (toM x).1.size ≤ 9223372036854775800 := hxs
    generalize toM x = m at hxs'
    refine new_cells hs4 fun y h5 hs5' => ?_
    (try dsimp only); rw [HM.bind_apply]
    refine storeN_all' hs5' rfl rfl fun h6 hs6' => ?_
    have hs6 : sat h6 (cells y (encG m).toArray :: stoA b most l :: storA c most L :: old h0 :: R) := hs6'
    clear hs6' hs5'
    refine loadN_cells (ts := [.str, .str, .int .i64]) m hs6 rfl ?_
    refine loadN_cells (ts := [.str, .str, .int .i64]) m hs6 rfl ?_
    refine bind_call1 (Set_spec (b := b) (m := m) (hs6.re [1, 3, 0, 2]) ht (by omega) fun h7 hs7' => ⟨_, rfl, ?_⟩)
    have hstep := hsto.set m
    have hs7 : sat h7 (cells y (encG m).toArray :: stoA b most (setP most l m).2 :: storA c most L :: old h0 :: R) := hs7'.re [2, 0, 3, 1]
    clear hs7' hs6
    refine loadN_cells (ts := [.str, .str, .int .i64]) m hs7 rfl ?_
    refine ⟨rfl, ?_⟩
    refine bind_call1 (rSet_spec (b := c) (m := m) (hs7.re [2, 0, 1, 3]) (hsto.lenL hmo).2 hxs' fun h8 hs8' => ⟨_, rfl, ?_⟩)
    have hs8 : sat h8 (cells y (encG m).toArray :: stoA b most (setP most l m).2 :: storA c most (setR most L m).2 :: old h0 :: R) := hs8'.re [1, 2, 0, 3]
    clear hs8' hs7
    obtain ⟨hcode, hsto'⟩ := hstep
    have hcb : 0 ≤ (setP most l m).1 ∧ (setP most l m).1 ≤ 255 := by
      unfold setP
      split
      · exact ⟨(by decide : (0 : Int) ≤ 144), (by decide : (144 : Int) ≤ 255)⟩
      split
      · exact ⟨(by decide : (0 : Int) ≤ 155), (by decide : (155 : Int) ≤ 255)⟩
      split
      · exact ⟨(by decide : (0 : Int) ≤ 0), (by decide : (0 : Int) ≤ 255)⟩
      split
      · exact ⟨(by decide : (0 : Int) ≤ 151), (by decide : (151 : Int) ≤ 255)⟩
      · exact ⟨(by decide : (0 : Int) ≤ 0), (by decide : (0 : Int) ≤ 255)⟩
    rw [← hcode]
    generalize (setP most l m).1 = code at hcb
    generalize (setP most l m).2 = l' at hs8 hsto'
    generalize (setR most L m).2 = L' at hs8 hsto'
    (try dsimp only); rw [HM.ite_apply, wrap_id (by omega) (by omega), if_neg (by simp)]
    refine ⟨m.1, by rw [add_own]; exact hs8.cell 0, ?_⟩
    refine bind_callN (Get_spec (b := b) (hs8.re [1, 0, 2, 3]) fun h9 hs9' => ⟨((mget l' m.1).getD zM, (mget l' m.1).isSome, ()), rfl, ?_⟩)
    have hs9 := hs9'.p1
    clear hs9' hs8
    refine new_cells hs9 fun y1 h10 hs10' => ?_
    (try dsimp only); rw [HM.bind_apply]
    refine storeN_all' hs10' rfl rfl fun h11 hs11' => ?_
    have hs11 : sat h11 (cells y1 (encG ((mget l' m.1).getD zM)).toArray :: cells y (encG m).toArray :: stoA b most l' :: storA c most L' :: old h0 :: R) := hs11'
    clear hs11' hs10' hs9
    refine ⟨m.1, by rw [add_own]; exact hs11.p1.cell 0, ?_⟩
    refine bind_callN (rGet_spec (b := c) (hs11.re [3, 0, 1, 2, 4]) (hsto'.lenL hmo).2 fun h12 hs12' => ⟨((getR L' m.1).getD zM, (getR L' m.1).isSome, ()), rfl, ?_⟩)
    have hs12 := hs12'.re [1, 2, 3, 0, 4]
    clear hs12' hs11
    rw [← hsto'.get m.1]
    generalize mget l' m.1 = o at hs12
    refine new_cells hs12 fun y2 h13 hs13' => ?_
    (try dsimp only); rw [HM.bind_apply]
    refine storeN_all' hs13' rfl rfl fun h14 hs14' => ?_
    have hs14 : sat h14 (cells y2 (encG (o.getD zM)).toArray :: cells y1 (encG (o.getD zM)).toArray :: cells y (encG m).toArray :: stoA b most l' :: storA c most L' :: old h0 :: R) := hs14'
    clear hs14' hs13' hs12
    refine bind_cut (fun z h' => h' = h14 ∧ z.1 = false) ?_ ?_
    · (try dsimp only); rw [HM.ite_apply, if_neg (by simp)]
      refine loadN_cells (ts := [.str, .str, .int .i64]) (o.getD zM) hs14.p1 rfl ?_
      refine loadN_cells (ts := [.str, .str, .int .i64]) (o.getD zM) hs14 rfl ⟨rfl, by simp⟩
    rintro ⟨z, ⟨⟩⟩ h15 ⟨rfl, hz⟩
    simp only at hz
    subst hz
    (try dsimp only); rw [HM.ite_apply, if_neg (by simp)]
    simp only [Sum.elim_inl, Sum.elim_inr, HM.pure_apply]
    exact .mk (g - 1) (by omega) ⟨l', L', by simp only; rw [wrap_id (by omega) (by omega)]; omega, by omega, hsto', hs14.drop.drop.drop⟩
  · rw [if_neg (by simp only [decide_eq_true_eq, hs1l]; omega)]
    simp only [Sum.elim_inl, Sum.elim_inr, HM.pure_apply]
    have hcut2 : (if 10 < ((t.len : Nat) : Int) then (10 : Int) else ((t.len : Nat) : Int)) = ((min 10 fs.length : Nat) : Int) := by
      rw [htl]; split <;> omega
    rw [hcut2]
    (try dsimp only); rw [HM.bind_apply]
    refine slice_row3 hfr (by omega) fun t1 ht1 hcap => ?_
    have hf10 : (fs.take (min 10 fs.length)).length ≤ 10 := by simp; omega
    have hfz1 : ∀ f ∈ fs.take (min 10 fs.length), f.size ≤ 9223372036854775800 := fun f hf => hfz f (List.mem_of_mem_take hf)
    generalize fs.take (min 10 fs.length) = gs at ht1 hcap hf10 hfz1
    refine new_cells hs4 fun y h5 hs5 => ?_
    (try dsimp only); rw [HM.bind_apply]
    refine append_full (ys := [ByteArray.mk #[35]]) eS_len eS_cell rfl hs5 (ht1.old (hs5.re [3, 0, 1, 2])) hcap rfl ?_ (by decide) (by decide) (by decide) (by first | omega | (simp only [List.length_cons, List.length_nil]; omega)) fun t2 h6 hs6' => ?_
    · simp only [srcSlc, Nat.one_mul, List.flatMap_cons, List.flatMap_nil, List.append_nil]
      exact hs5.reads rfl
    have hs6 : sat h6 (stoA b most l :: storA c most L :: old h0 :: ownS eS 1 t2 (gs ++ [ByteArray.mk #[35]]) :: R) := (hs6'.re [2, 3, 4, 0, 1]).re [0, 1, 2, 3, 4] |>.re [4, 0, 1, 2, 3] |>.drop
    clear hs6' hs5
    have hgz : ∀ f ∈ gs ++ [ByteArray.mk #[35]], f.size ≤ 9223372036854775800 := fun f hf => by
      rcases List.mem_append.1 hf with hf | hf
      · exact hfz1 f hf
      · rw [List.mem_singleton.1 hf]; decide
    have hgl : (gs ++ [ByteArray.mk #[35]]).length ≤ 11 := by simp; omega
    generalize gs ++ [ByteArray.mk #[35]] = us at hs6 hgz hgl
    (try dsimp only); rw [HM.bind_apply]
    refine loop_gx (γ := Nat) (hb := fun s => by
        repeat' with_reducible first
          | refine @mono_bind _ _ _ _ ?_ (fun _ => ?_)
          | refine @mono_ite _ _ _ _ ?_ ?_
        all_goals infer_instance)
      (fun g k h' => k.1 = (((us.length - g : Nat)) : Int) ∧ g ≤ us.length ∧ ∃ R', sat h' (stoA b most l :: storA c most L :: old h0 :: ownS eS 1 t2 us :: R')) (fun g => g) us.length
      ⟨by simp, Nat.le_refl _, R, hs6⟩ ?_
    clear hs6 hs4
    rintro g2 ⟨k, ⟨⟩⟩ h7 ⟨hc, hg2, R2, hs7⟩
    simp only at hc
    subst hc
    have hul := (hs7.re [3, 0, 1, 2]).own_len
    (try dsimp only); rw [HM.ite_apply]
    by_cases hi2 : us.length - g2 < us.length
    · rw [if_pos (by simp only [decide_eq_true_eq, hul]; omega)]
      obtain ⟨f, hf⟩ : ∃ f, us[us.length - g2]? = some f := ⟨_, List.getElem?_eq_getElem hi2⟩
      have hfs : f.size ≤ 9223372036854775800 := hgz f (List.mem_of_getElem? hf)
      (try dsimp only); rw [HM.bind_apply]
      refine idx_row ((hs7.re [3, 0, 1, 2]).own_row eS_len) hf fun a ha => ?_
      refine ⟨f, by have := ha 0 (.string f) rfl; rwa [Go.H.add_zero] at this, ?_⟩
      refine bind_call1 (Match_st (b := b) (hs7.re [0, 2, 1, 3]) ht (by omega) (hsto.lenL hmo).1 hsto.small fun p1 h8 hs8 => ⟨p1, rfl, ?_⟩)
      rw [hsto.hit] at hs8
      refine bind_call1 (rMat_spec (b := c) (hs8.re [3, 0, 1, 2, 4]) (hsto.lenL hmo).2 hsto.smallL hfs fun p2 h9 hs9 => ⟨p2, rfl, ?_⟩)
      have hl1 := hs9.own_len
      have hl2 := (hs9.re [2, 0, 1]).own_len
      have hr1 := hs9.own_row eG_len
      have hr2 := (hs9.re [2, 0, 1]).own_row eG_len
      have hhl : (hitR L f).length ≤ 64 := Nat.le_trans (List.length_filter_le _ _) (hsto.lenL hmo).2
      generalize hitR L f = T at hs9 hl1 hl2 hr1 hr2 hhl
      (try dsimp only); rw [HM.ite_apply, if_neg (by simp [hl1, hl2])]
      refine bind_cut (fun z h' => h' = h9 ∧ ∃ i, z = .inl (i, ())) ?_ ?_
      · refine loop_gx (γ := Nat) (fun g k h' => h' = h9 ∧ k.1 = (((T.length - g : Nat)) : Int) ∧ g ≤ T.length) (fun g => g) T.length ⟨rfl, by simp, Nat.le_refl _⟩ ?_
        rintro g3 ⟨k, ⟨⟩⟩ h10 ⟨rfl, hc, hg3⟩
        simp only at hc
        subst hc
        (try dsimp only); rw [HM.ite_apply]
        by_cases hi3 : T.length - g3 < T.length
        · rw [if_pos (by simp only [decide_eq_true_eq, hl2]; omega)]
          obtain ⟨m, hm⟩ : ∃ m, T[T.length - g3]? = some m := ⟨_, List.getElem?_eq_getElem hi3⟩
          (try dsimp only); rw [HM.bind_apply]
          refine idx_row hr2 hm fun a ha => ?_
          (try dsimp only); rw [HM.bind_apply]
          refine load_enc ha ?_
          (try dsimp only); rw [HM.bind_apply]
          refine idx_row hr1 hm fun a ha => ?_
          (try dsimp only); rw [HM.bind_apply]
          refine load_enc ha ?_
          (try dsimp only); rw [HM.ite_apply, if_neg (by simp)]
          simp only [Sum.elim_inl, Sum.elim_inr, HM.pure_apply]
          exact .mk (g3 - 1) (by omega) ⟨rfl, by simp only; rw [wrap_id (by omega) (by omega)]; omega, by omega⟩
        · rw [if_neg (by simp only [decide_eq_true_eq, hl2]; omega)]
          simp only [Sum.elim_inl, Sum.elim_inr, HM.pure_apply]
          exact ⟨trivial, _, rfl⟩
      rintro z h10 ⟨rfl, i, rfl⟩
      simp only [Sum.elim_inl, Sum.elim_inr, HM.pure_apply]
      exact .mk (g2 - 1) (by omega) ⟨by simp only; rw [wrap_id (by omega) (by omega)]; omega, by omega, _, hs9.re [3, 1, 4, 5, 0, 2]⟩
    · rw [if_neg (by simp only [decide_eq_true_eq, hul]; omega)]
      simp only [Sum.elim_inl, Sum.elim_inr, HM.pure_apply]
      exact hq _ _ (hs7.re [2, 0, 1])

end Go.Proofs.YtmdagnoknmfhcaaDoor
