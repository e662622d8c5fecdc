/-
  Crpt: contracts: adverts as bytes (the document).
-/
import Derived.Test.YtmdagnoknmfhcaaDoorCput
import Derived.Test.YtmdagnoknmfhcaaDoorCrgd
namespace Go.Proofs.YtmdagnoknmfhcaaDoor
open Go.H Go.Proofs Go.Lib
set_option linter.unusedSimpArgs false
set_option linter.unusedVariables false
set_option synthInstance.maxSize 100000
set_option synthInstance.maxHeartbeats 400000
set_option maxRecDepth 100000

variable {h h0 : Heap} {R : List Asn}

theorem rnum_spec (hs : sat h R) {w n : Nat} (hw : wideW w) (hn : n < 256 ^ w) {Q : Value → Heap → Prop} (hq : ∀ h', sat h' R → Q (.string (fixB w n)) h') :
    HCalls Tryd.prog 57 #[.int .i64 w, .int .i64 n] h Q := by
  refine ref21_number_calls w n h Q ?_
  unfold ref21_number
  refine bind_callN (rFixed_spec hs hw hn fun h1 hs1 => ⟨(fixB w n, 0, ()), rfl, ?_⟩)
  exact hq _ hs1
theorem rdat_spec (hs : sat h R) {s : ByteArray} (hsz : s.size ≤ 256) {Q : Value → Heap → Prop} (hq : ∀ h', sat h' R → Q (.string (datB s)) h') :
    HCalls Tryd.prog 58 #[.string s] h Q := by
  refine ref21_data_calls s h Q ?_
  unfold ref21_data
  refine bind_callN (rData_spec hs (by omega) fun h1 hs1 => ⟨(datB s, 0, ()), rfl, ?_⟩)
  exact hq _ hs1

theorem dat_size {s : ByteArray} (h : s.size ≤ 256) : (datB s).size ≤ 258 := by
  have := datL_len h
  unfold datL at this
  rw [Array.length_toList] at this
  exact this

theorem div_r (n : Nat) (h : n ≤ 9007199254740992) : IntKind.wrap .i64 (Int.tdiv (n : Int) 4294967296) = ((n / 4294967296 : Nat) : Int) := by
  rw [Int.tdiv_eq_ediv_of_nonneg (Int.natCast_nonneg _), show (4294967296 : Int) = ((4294967296 : Nat) : Int) from rfl, ← Int.natCast_ediv]
  have h3 : n / 4294967296 ≤ n := Nat.div_le_self _ _
  exact wrap_id (by omega) (by omega)
theorem mod_r (n : Nat) : Int.tmod (n : Int) 4294967296 = ((n % 4294967296 : Nat) : Int) := by
  rw [Int.tmod_eq_emod_of_nonneg (Int.natCast_nonneg _), show (4294967296 : Int) = ((4294967296 : Nat) : Int) from rfl, ← Int.natCast_emod]

theorem ofB_app (s : ByteArray) (l : bytesL) (x : ByteArray) (hx : x.data.toList = l) (t : bytesL) (hs : s = ofB t) : s ++ x = ofB (t ++ l) := by
  subst hs hx
  refine data_inj ?_
  simp [ofB, ByteArray.data_append]
theorem ofB_size (l : bytesL) : (ofB l).size = l.length := by
  show l.toArray.size = _
  simp

set_option maxHeartbeats 2000000 in
theorem rPut_spec {a : AdvT} {sf sl : Slc} (hs : sat h (ownS eS 1 sf a.fs :: ownS encK 6 sl a.ls :: R)) (hz : szA a) {Q : Value → Heap → Prop}
    (hq : ∀ h', sat h' (ownS eS 1 sf a.fs :: ownS encK 6 sl a.ls :: R) → Q (if goodA a = true then .tuple #[.string (ofB (putL a)), .int .i64 0] else .tuple #[.string (ByteArray.mk #[]), .int .i64 129]) h') :
    HCalls Tryd.prog 24 #[vA a sf sl] h Q := by
  refine ref21_Put_calls (a.o, a.v, sf, sl, ()) h Q ?_
  unfold ref21_Put
  refine new_cells hs fun x h1 hs1' => ?_
  have hs1 : sat h1 (cells x (cA a sf sl).toArray :: ownS eS 1 sf a.fs :: ownS encK 6 sl a.ls :: R) := hs1'
  clear hs1'
  refine loadN_cells (ts := [.int .i64, .int .i64, .slc, .slc]) (a.o, a.v, sf, sl, ()) hs1 rfl ?_
  refine bind_call1 (rGood_spec (hs1.re [1, 2, 0]) hz fun hB hsB' => ⟨_, rfl, ?_⟩)
  have hsB : sat hB (cells x (cA a sf sl).toArray :: ownS eS 1 sf a.fs :: ownS encK 6 sl a.ls :: R) := hsB'.re [2, 0, 1]
  clear hsB' hs1 hs
  (try dsimp only); rw [HM.ite_apply]
  cases hg : goodA a with
  | false =>
    rw [if_pos (by rfl)]
    have := hq _ hsB.drop
    rw [hg] at this
    exact this
  | true =>
  rw [if_neg (by simp)]
  have G := good_facts hg
  obtain ⟨O, hO⟩ := Int.eq_ofNat_of_zero_le G.o.1
  obtain ⟨V, hV⟩ := Int.eq_ofNat_of_zero_le (show 0 ≤ a.v by have := G.v.1; omega)
  have hO8 : O < 8 := by have := G.o.2; omega
  have hVb : V ≤ 9007199254740992 := by have := G.v.2; omega
  have hnf := G.nf
  have hnl := G.nl
  refine ⟨a.v, by rw [add_own]; exact hsB.cell 1, by decide, ?_⟩
  (try dsimp only); rw [hV, div_r V hVb]
  refine bind_call1 (rnum_spec (w := 4) (n := V / 4294967296) hsB (.inr (.inr rfl)) (by have : V / 4294967296 ≤ V := Nat.div_le_self _ _; omega) fun h2 hs2 => ⟨_, rfl, ?_⟩)
  refine ⟨a.v, by rw [add_own]; exact hs2.cell 1, by decide, ?_⟩
  (try dsimp only); rw [hV, mod_r V]
  refine bind_call1 (rnum_spec (w := 4) (n := V % 4294967296) hs2 (.inr (.inr rfl)) (by omega) fun h3 hs3 => ⟨_, rfl, ?_⟩)
  refine ⟨a.o, by rw [add_own]; exact hs3.cell 0, ?_⟩
  (try dsimp only); rw [hO]
  refine bind_call1 (rnum_spec (w := 1) (n := O) hs3 (.inl rfl) (by omega) fun h4 hs4 => ⟨_, rfl, ?_⟩)
  refine ⟨sf, by rw [add_own]; exact hs4.cell 2, ?_⟩
  have hl1 : sf.len = a.fs.length := hs4.p1.own_len
  have hl2 : sl.len = a.ls.length := (hs4.re [2, 0, 1]).own_len
  (try dsimp only); rw [hl1]
  refine bind_call1 (rnum_spec (w := 1) (n := a.fs.length) hs4 (.inl rfl) (by omega) fun h5 hs5 => ⟨_, rfl, ?_⟩)
  have e1 : fixB 1 O ++ fixB 4 (V / 4294967296) = ofB (fixL 1 O ++ fixL 4 (V / 4294967296)) := ofB_app _ _ _ rfl _ rfl
  have e2 : fixB 1 O ++ fixB 4 (V / 4294967296) ++ fixB 4 (V % 4294967296) = ofB (fixL 1 O ++ fixL 4 (V / 4294967296) ++ fixL 4 (V % 4294967296)) := ofB_app _ _ _ rfl _ e1
  have e3 : fixB 1 O ++ fixB 4 (V / 4294967296) ++ fixB 4 (V % 4294967296) ++ fixB 1 a.fs.length = ofB (headL a) := by
    have := ofB_app _ _ (fixB 1 a.fs.length) rfl _ e2
    rw [this]
    unfold headL
    rw [hO, hV]
    rfl
  refine ⟨by rw [fixB_size, fixB_size]; decide, ?_⟩
  refine ⟨by rw [ByteArray.size_append, fixB_size, fixB_size, fixB_size]; decide, ?_⟩
  refine ⟨by rw [ByteArray.size_append, ByteArray.size_append, fixB_size, fixB_size, fixB_size, fixB_size]; decide, ?_⟩
  (try dsimp only)
  rw [e3]
  have hHl : (headL a).length = 10 := by unfold headL; simp [fixL_len]
  clear hs4 hs3 hs2 hsB
  (try dsimp only); rw [HM.bind_apply]
  refine loop_gx (γ := Nat) (hb := fun s => by
      repeat' with_reducible first
        | refine @mono_bind _ _ _ _ ?_ (fun _ => ?_)
        | refine @mono_ite _ _ _ _ ?_ ?_
      all_goals infer_instance)
    (fun g c h' => c.2.1 = (((a.fs.length - g : Nat)) : Int) ∧ g ≤ a.fs.length ∧ c.1 = ofB (headL a ++ (a.fs.take (a.fs.length - g)).flatMap datL) ∧ sat h' (cells x (cA a sf sl).toArray :: ownS eS 1 sf a.fs :: ownS encK 6 sl a.ls :: R)) (fun g => g) a.fs.length
    ⟨by simp, Nat.le_refl _, by simp, hs5⟩ ?_
  clear hs5
  rintro g ⟨t, c, ⟨⟩⟩ h6 ⟨hc, hgg, ht, hs6⟩
  simp only at hc ht
  subst hc ht
  have hFl : ∀ n, (headL a ++ (a.fs.take n).flatMap datL).length ≤ 17000 := fun n => by
    rw [List.length_append, hHl]
    have h1 : ((a.fs.take n).flatMap datL).length ≤ (a.fs.take n).length * 258 := flat_le fun f hf => datL_len (G.fs f (List.mem_of_mem_take hf))
    rw [List.length_take] at h1
    have : min n a.fs.length * 258 ≤ 64 * 258 := Nat.mul_le_mul_right _ (by omega)
    omega
  refine ⟨sf, by rw [add_own]; exact hs6.cell 2, ?_⟩
  (try dsimp only); rw [HM.ite_apply]
  by_cases hi : a.fs.length - g < a.fs.length
  · rw [if_pos (by simp only [decide_eq_true_eq, hl1]; omega)]
    obtain ⟨f, hf⟩ : ∃ f, a.fs[a.fs.length - g]? = some f := ⟨_, List.getElem?_eq_getElem hi⟩
    have hfz := G.fs f (List.mem_of_getElem? hf)
    refine ⟨sf, by rw [add_own]; exact hs6.cell 2, ?_⟩
    (try dsimp only); rw [HM.bind_apply]
    refine idx_row (hs6.p1.own_row eS_len) hf fun p hp => ?_
    refine ⟨f, by have := hp 0 (.string f) rfl; rwa [Go.H.add_zero] at this, ?_⟩
    refine bind_call1 (rdat_spec hs6 hfz fun h7 hs7 => ⟨_, rfl, ?_⟩)
    have hd := dat_size hfz
    have hF := hFl (a.fs.length - g)
    refine ⟨by rw [ofB_size]; omega, ?_⟩
    simp only [Sum.elim_inl, Sum.elim_inr, HM.pure_apply]
    refine .mk (g - 1) (by omega) ⟨by simp only; rw [wrap_id (by omega) (by omega)]; omega, by omega, ?_, hs7⟩
    simp only
    rw [ofB_app _ (datL f) (datB f) rfl _ rfl, show a.fs.length - (g - 1) = a.fs.length - g + 1 by omega, List.take_add_one, hf, List.flatMap_append]
    simp [List.append_assoc]
  rw [if_neg (by simp only [decide_eq_true_eq, hl1]; omega)]
  simp only [Sum.elim_inl, Sum.elim_inr, HM.pure_apply]
  have hF := hFl (a.fs.length - g)
  rw [List.take_of_length_le (by omega)] at hF ⊢
  clear hFl hi hgg
  refine ⟨sl, by rw [add_own]; exact hs6.cell 3, ?_⟩
  (try dsimp only); rw [hl2]
  refine bind_call1 (rnum_spec (w := 1) (n := a.ls.length) hs6 (.inl rfl) (by omega) fun h7 hs7 => ⟨_, rfl, ?_⟩)
  refine ⟨by rw [ofB_size, fixB_size]; omega, ?_⟩
  (try dsimp only); rw [ofB_app _ (fixL 1 a.ls.length) (fixB 1 a.ls.length) rfl _ rfl]
  generalize hpre : headL a ++ a.fs.flatMap datL ++ fixL 1 a.ls.length = pre
  have hprel : pre.length ≤ 17001 := by rw [← hpre, List.length_append, fixL_len]; omega
  clear hs6
  (try dsimp only); rw [HM.bind_apply]
  refine loop_gx (γ := Nat) (hb := fun s => by
      repeat' with_reducible first
        | refine @mono_bind _ _ _ _ ?_ (fun _ => ?_)
        | refine @mono_ite _ _ _ _ ?_ ?_
      all_goals infer_instance)
    (fun g c h' => c.2.1 = (((a.ls.length - g : Nat)) : Int) ∧ g ≤ a.ls.length ∧ c.1 = ofB (pre ++ (a.ls.take (a.ls.length - g)).flatMap putK) ∧ sat h' (cells x (cA a sf sl).toArray :: ownS eS 1 sf a.fs :: ownS encK 6 sl a.ls :: R)) (fun g => g) a.ls.length
    ⟨by simp, Nat.le_refl _, by simp, hs7⟩ ?_
  clear hs7
  rintro g ⟨t, c, ⟨⟩⟩ h8 ⟨hc, hgg, ht, hs8⟩
  simp only at hc ht
  subst hc ht
  refine ⟨sl, by rw [add_own]; exact hs8.cell 3, ?_⟩
  (try dsimp only); rw [HM.ite_apply]
  by_cases hi : a.ls.length - g < a.ls.length
  · rw [if_pos (by simp only [decide_eq_true_eq, hl2]; omega)]
    obtain ⟨l, hl⟩ : ∃ l, a.ls[a.ls.length - g]? = some l := ⟨_, List.getElem?_eq_getElem hi⟩
    obtain ⟨⟨hl0, hl8⟩, hlr⟩ := G.ls l (List.mem_of_getElem? hl)
    have hKl : (pre ++ (a.ls.take (a.ls.length - g)).flatMap putK).length ≤ 40000 := by
      rw [List.length_append]
      have h1 : ((a.ls.take (a.ls.length - g)).flatMap putK).length ≤ (a.ls.take (a.ls.length - g)).length * 777 := flat_le fun y hy => putK_len (G.ls y (List.mem_of_mem_take hy)).2
      rw [List.length_take] at h1
      have : min (a.ls.length - g) a.ls.length * 777 ≤ 16 * 777 := Nat.mul_le_mul_right _ (by omega)
      omega
    have htake : (a.ls.take (a.ls.length - (g - 1))).flatMap putK = (a.ls.take (a.ls.length - g)).flatMap putK ++ putK l := by
      rw [show a.ls.length - (g - 1) = a.ls.length - g + 1 by omega, List.take_add_one, hl, List.flatMap_append]
      simp
    generalize hL0 : pre ++ (a.ls.take (a.ls.length - g)).flatMap putK = L0 at hKl
    refine ⟨sl, by rw [add_own]; exact hs8.cell 3, ?_⟩
    (try dsimp only); rw [HM.bind_apply]
    refine idx_row ((hs8.re [2, 0, 1]).own_row eK_len) hl fun p hp => ?_
    (try dsimp only); rw [HM.bind_apply]
    refine load_K hp ?_
    refine new_cells hs8 fun y h10 hs10' => ?_
    (try dsimp only); rw [HM.bind_apply]
    refine storeN_all' hs10' rfl rfl fun h11 hs11' => ?_
    have hs11 : sat h11 (cells y (encK l).toArray :: cells x (cA a sf sl).toArray :: ownS eS 1 sf a.fs :: ownS encK 6 sl a.ls :: R) := hs11'
    clear hs11' hs10' hs8
    obtain ⟨n1, hn1⟩ := Int.eq_ofNat_of_zero_le hl0
    obtain ⟨n2, hn2⟩ := Int.eq_ofNat_of_zero_le hlr.d.1
    obtain ⟨n3, hn3⟩ := Int.eq_ofNat_of_zero_le hlr.q.1
    have b1 : n1 < 8 := by omega
    have b2 : n2 ≤ 2 := by have := hlr.d.2; omega
    have b3 : n3 ≤ 2 := by have := hlr.q.2; omega
    refine ⟨l.1, by rw [add_own]; exact hs11.cell 0, ?_⟩
    (try dsimp only); rw [hn1]
    refine bind_call1 (rnum_spec (w := 1) (n := n1) hs11 (.inl rfl) (by omega) fun h12 hs12 => ⟨_, rfl, ?_⟩)
    refine ⟨l.2.2.1, by rw [add_own, Addr.add_at]; exact hs12.cell 2, ?_⟩
    (try dsimp only); rw [hn2]
    refine bind_call1 (rnum_spec (w := 1) (n := n2) hs12 (.inl rfl) (by omega) fun h13 hs13 => ⟨_, rfl, ?_⟩)
    refine ⟨l.2.2.2.1, by rw [add_own, Addr.add_at]; exact hs13.cell 3, ?_⟩
    (try dsimp only); rw [hn3]
    refine bind_call1 (rnum_spec (w := 1) (n := n3) hs13 (.inl rfl) (by omega) fun h14 hs14 => ⟨_, rfl, ?_⟩)
    refine ⟨l.2.1, by rw [add_own, Addr.add_at]; exact hs14.cell 1, ?_⟩
    refine bind_call1 (rdat_spec hs14 hlr.p fun h15 hs15 => ⟨_, rfl, ?_⟩)
    refine ⟨l.2.2.2.2.1, by rw [add_own, Addr.add_at]; exact hs15.cell 4, ?_⟩
    refine bind_call1 (rdat_spec hs15 hlr.l fun h16 hs16 => ⟨_, rfl, ?_⟩)
    refine ⟨l.2.2.2.2.2.1, by rw [add_own, Addr.add_at]; exact hs16.cell 5, ?_⟩
    refine bind_call1 (rdat_spec hs16 hlr.rm fun h17 hs17 => ⟨_, rfl, ?_⟩)
    have d1 := dat_size hlr.p
    have d2 := dat_size hlr.l
    have d3 := dat_size hlr.rm
    refine ⟨by simp only [ByteArray.size_append, fixB_size, ofB_size]; omega, ?_⟩
    refine ⟨by simp only [ByteArray.size_append, fixB_size, ofB_size]; omega, ?_⟩
    refine ⟨by simp only [ByteArray.size_append, fixB_size, ofB_size]; omega, ?_⟩
    refine ⟨by simp only [ByteArray.size_append, fixB_size, ofB_size]; omega, ?_⟩
    refine ⟨by simp only [ByteArray.size_append, fixB_size, ofB_size]; omega, ?_⟩
    refine ⟨by simp only [ByteArray.size_append, fixB_size, ofB_size]; omega, ?_⟩
    simp only [Sum.elim_inl, Sum.elim_inr, HM.pure_apply]
    refine .mk (g - 1) (by omega) ⟨by simp only; rw [wrap_id (by omega) (by omega)]; omega, by omega, ?_, hs17.drop⟩
    simp only
    rw [htake, ← List.append_assoc, hL0]
    unfold putK
    rw [hn1, hn2, hn3]
    refine data_inj ?_
    simp [ofB, ByteArray.data_append, datL, fixL]
  · rw [if_neg (by simp only [decide_eq_true_eq, hl2]; omega)]
    simp only [Sum.elim_inl, Sum.elim_inr, HM.pure_apply]
    rw [List.take_of_length_le (by omega)]
    have e4 : pre ++ a.ls.flatMap putK = putL a := by rw [← hpre]; rfl
    rw [e4]
    have := hq _ hs8.drop
    rw [hg, if_pos rfl] at this
    exact this

end Go.Proofs.YtmdagnoknmfhcaaDoor
