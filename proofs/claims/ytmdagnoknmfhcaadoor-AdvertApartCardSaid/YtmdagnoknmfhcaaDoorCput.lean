/-
  Cput: contracts: adverts as bytes (the program).
-/
import Derived.Test.YtmdagnoknmfhcaaDoorLput
import Derived.Test.YtmdagnoknmfhcaaDoorCbld
namespace Go.Proofs.YtmdagnoknmfhcaaDoor
open Go.H Go.Proofs Go.Lib
set_option linter.unusedSimpArgs false
set_option linter.unusedVariables false
set_option synthInstance.maxSize 100000
set_option synthInstance.maxHeartbeats 400000
set_option maxRecDepth 100000

variable {h h0 : Heap} {R : List Asn}

def iL (l : bytesL) : List Int := l.map fun b => (b.toNat : Int)
theorem iL_len (l : bytesL) : (iL l).length = l.length := List.length_map ..
theorem iL_app (a b : bytesL) : iL (a ++ b) = iL a ++ iL b := List.map_append ..
theorem iL_str (t : ByteArray) : intsS t = iL t.data.toList := rfl
theorem iL_of (l : bytesL) : bytesOfInts (iL l) = ofB l := by
  refine data_inj ?_
  rw [ints_data]
  unfold iL ofB
  rw [List.map_map]
  have : ((fun n : Int => UInt8.ofNat n.toNat) ∘ fun b : UInt8 => (b.toNat : Int)) = id := by
    funext b
    simp
  rw [this, List.map_id]
theorem iL_byte (l : bytesL) : ∀ x ∈ iL l, 0 ≤ x ∧ x < 256 := fun x hx => by
  obtain ⟨b, _, rfl⟩ := List.mem_map.1 hx
  have := UInt8.toNat_lt b
  omega

theorem numC_spec {b w n : Nat} {L : bytesL} (hs : sat h (bldA b (iL L) :: R)) (hw : wideW w) (hn : n < 256 ^ w) (hL : L.length ≤ 1000000) {Q : Value → Heap → Prop}
    (hq : ∀ h', sat h' (bldA b (iL (L ++ fixL w n)) :: R) → Q (.tuple #[]) h') : HCalls Tryd.prog 50 #[.int .i64 w, .int .i64 n, ptrB b] h Q := by
  refine advert_Put_f1_calls w n ⟨b, 0, none⟩ h Q ?_
  unfold advert_Put_f1
  refine bind_callN (Fixed_spec hs hw hn fun h1 hs1 => ⟨(fixB w n, 0, ()), rfl, ?_⟩)
  refine bind_callN (Write_spec hs1 (by rw [iL_len, fixB_size]; have := w_le hw; omega) fun h2 hs2 => ⟨(_, .nilIface, ()), rfl, ?_⟩)
  rw [iL_str, ← iL_app] at hs2
  exact hq _ hs2

theorem dataC_spec {b : Nat} {L : bytesL} {A : Asn} {st : Slc} {ts : List ByteArray} (hs : sat h (bldA b (iL L) :: A :: R)) (hA : ∀ {h R}, sat h (A :: R) → RowAt eS 1 h st ts) (hz : ∀ t ∈ ts, t.size ≤ 256) (hl : ts.length ≤ 64) (hL : L.length ≤ 100000) {Q : Value → Heap → Prop}
    (hq : ∀ h', sat h' (bldA b (iL (L ++ ts.flatMap datL)) :: A :: R) → Q (.tuple #[]) h') : HCalls Tryd.prog 53 #[.slice st.a st.len st.cap, ptrB b] h Q := by
  refine advert_Put_f2_calls st ⟨b, 0, none⟩ h Q ?_
  unfold advert_Put_f2
  have hlen := (hA hs.p1).1
  (try dsimp only); rw [HM.bind_apply]
  refine loop_gx (γ := Nat) (fun g c h' => c.1 = (((ts.length - g : Nat)) : Int) ∧ g ≤ ts.length ∧ sat h' (bldA b (iL (L ++ (ts.take (ts.length - g)).flatMap datL)) :: A :: R)) (fun g => g) ts.length
    ⟨by simp, Nat.le_refl _, by simpa using hs⟩ ?_
  rintro g ⟨c, ⟨⟩⟩ h1 ⟨hc, hg, hs1⟩
  simp only at hc
  subst hc
  (try dsimp only); rw [HM.ite_apply]
  by_cases hi : ts.length - g < ts.length
  · rw [if_pos (by simp only [decide_eq_true_eq, hlen]; omega)]
    obtain ⟨t, ht⟩ : ∃ t, ts[ts.length - g]? = some t := ⟨_, List.getElem?_eq_getElem hi⟩
    have htz := hz t (List.mem_of_getElem? ht)
    have hflat : ((ts.take (ts.length - g)).flatMap datL).length ≤ (ts.take (ts.length - g)).length * 258 := flat_le fun x hx => datL_len (hz x (List.mem_of_mem_take hx))
    rw [List.length_take] at hflat
    have hb2 : (L ++ (ts.take (ts.length - g)).flatMap datL).length ≤ 1000000 := by
      rw [List.length_append]
      have : min (ts.length - g) ts.length * 258 ≤ 64 * 258 := Nat.mul_le_mul_right _ (by omega)
      omega
    (try dsimp only); rw [HM.bind_apply]
    refine idx_row (hA hs1.p1) ht fun p hp => ?_
    refine ⟨t, by have := hp 0 (.string t) rfl; rwa [Go.H.add_zero] at this, ?_⟩
    refine bind_callN (Data_spec hs1 (by omega) fun h2 hs2 => ⟨(datB t, 0, ()), rfl, ?_⟩)
    have hdl : (datB t).size ≤ 258 := by
      have := datL_len htz
      unfold datL at this
      rw [Array.length_toList] at this
      exact this
    refine bind_callN (Write_spec hs2 (by rw [iL_len]; show _ + (datB t).size ≤ _; omega) fun h3 hs3 => ⟨(_, .nilIface, ()), rfl, ?_⟩)
    rw [iL_str, ← iL_app] at hs3
    simp only [Sum.elim_inl, Sum.elim_inr, HM.pure_apply]
    refine .mk (g - 1) (by omega) ⟨by simp only; rw [wrap_id (by omega) (by omega)]; omega, by omega, ?_⟩
    rw [show ts.length - (g - 1) = ts.length - g + 1 by omega, List.take_add_one, ht, List.flatMap_append]
    simp only [Option.toList_some, List.flatMap_cons, List.flatMap_nil, List.append_nil, ← List.append_assoc]
    exact hs3
  · rw [if_neg (by simp only [decide_eq_true_eq, hlen]; omega)]
    simp only [Sum.elim_inl, Sum.elim_inr, HM.pure_apply]
    rw [List.take_of_length_le (by omega)] at hs1
    exact hq _ hs1

theorem and_low (n : Nat) (hn : n < 9223372036854775808) : bitOp .and .i64 (n : Int) 4294967295 = ((n % 4294967296 : Nat) : Int) := by
  show IntKind.wrap .i64 (((BitVec.ofInt 64 (n : Int) &&& BitVec.ofInt 64 4294967295).toNat : Nat) : Int) = _
  rw [show (4294967295 : Int) = ((4294967295 : Nat) : Int) from rfl, BitVec.ofInt_natCast, BitVec.ofInt_natCast, BitVec.toNat_and, BitVec.toNat_ofNat, BitVec.toNat_ofNat, Nat.mod_eq_of_lt (by omega), Nat.mod_eq_of_lt (by omega)]
  rw [show (4294967295 : Nat) = 2 ^ 32 - 1 from rfl, Nat.and_two_pow_sub_one_eq_mod, show (2 ^ 32 : Nat) = 4294967296 from rfl]
  have := Nat.mod_lt n (show 4294967296 > 0 by decide)
  exact wrap_id (by omega) (by omega)
theorem div_high (n : Nat) : Int.fdiv (n : Int) (2 ^ (min (Int.toNat 32) (IntKind.bits .i64))) = ((n / 4294967296 : Nat) : Int) := by
  have e : ((2 : Int) ^ (min (Int.toNat 32) (IntKind.bits .i64))) = ((4294967296 : Nat) : Int) := by decide
  rw [e, Int.fdiv_eq_ediv_of_nonneg _ (Int.natCast_nonneg _), ← Int.natCast_ediv]

theorem bind_new {β : Type} {o : Obj} {f : Nat → HM β} {Q : β → Heap → Prop} (hq : f h.size (h.push o) Q) : (HM.bind (HM.new o) f) h Q := hq

theorem bind_callV {β : Type} {P : Program} {f : FuncId} {first captured args : Array Value} {g : Unit → HM β} {Q : β → Heap → Prop} (hok : CallOK P f) (hc : HCalls P f (first ++ args ++ captured) h fun v h' => v = .tuple #[] ∧ g () h' Q) :
    (HM.bind (HM.callVN P [] (.func (.func f) first captured) args) g) h Q :=
  ⟨f, first, captured, rfl, hok, HCalls.mono hc fun v h' hv => ⟨(), hv.1, hv.2⟩⟩

set_option maxHeartbeats 2000000 in
theorem Put_spec {a : AdvT} {sf sl : Slc} (hs : sat h (ownS eS 1 sf a.fs :: ownS encK 6 sl a.ls :: old h0 :: R)) (ht : TP h0) (hz : szA a) {Q : Value → Heap → Prop}
    (hq : ∀ h', sat h' (ownS eS 1 sf a.fs :: ownS encK 6 sl a.ls :: old h0 :: R) → Q (if goodA a = true then .tuple #[.string (ofB (putL a)), .int .u8 0] else .tuple #[.string (ByteArray.mk #[]), .int .u8 129]) h') :
    HCalls Tryd.prog 23 #[vA a sf sl] h Q := by
  refine advert_Put_calls (a.o, a.v, sf, sl, ()) h Q ?_
  unfold advert_Put
  refine new_cells hs fun x h1 hs1' => ?_
  have hs1 : sat h1 (cells x (cA a sf sl).toArray :: ownS eS 1 sf a.fs :: ownS encK 6 sl a.ls :: old h0 :: R) := hs1'
  clear hs1'
  refine loadN_cells (ts := [.int .i64, .int .i64, .slc, .slc]) (a.o, a.v, sf, sl, ()) hs1 rfl ?_
  refine bind_call1 (good_spec (hs1.re [1, 2, 3, 0]) ht hz fun hB hsB' => ⟨_, rfl, ?_⟩)
  have hsB : sat hB (cells x (cA a sf sl).toArray :: ownS eS 1 sf a.fs :: ownS encK 6 sl a.ls :: old h0 :: R) := hsB'.re [3, 0, 1, 2]
  clear hsB' hs1 hs
  (try dsimp only); rw [HM.ite_apply]
  cases hg : goodA a with
  | false =>
    rw [if_pos (by rfl)]
    have := hq _ hsB.drop
    rw [hg] at this
    exact this
  | true =>
  rw [if_neg (by simp)]
  have G := good_facts hg
  obtain ⟨O, hO⟩ := Int.eq_ofNat_of_zero_le G.o.1
  obtain ⟨V, hV⟩ := Int.eq_ofNat_of_zero_le (show 0 ≤ a.v by have := G.v.1; omega)
  have hO8 : O < 8 := by have := G.o.2; omega
  have hVb : V ≤ 9007199254740992 := by have := G.v.2; omega
  have rowF : ∀ {h : Heap} {R : List Asn}, sat h (old hB :: R) → RowAt eS 1 h sf a.fs := fun hh => ((hsB.p1).own_row eS_len).old hh
  have rowK : ∀ {h : Heap} {R : List Asn}, sat h (old hB :: R) → RowAt encK 6 h sl a.ls := fun hh => ((hsB.re [2, 0, 1]).own_row eK_len).old hh
  have cX : ∀ {h : Heap} {R : List Asn} {i : Nat} {v : Value}, (cA a sf sl)[i]? = some v → sat h (old hB :: R) → cellH h ⟨x, i, none⟩ = some v := fun hc hh => hh.old_cell (by rw [hsB.cell]; simpa using hc)
  have hlf : sf.len = a.fs.length := hsB.p1.own_len
  have hll : sl.len = a.ls.length := (hsB.re [2, 0, 1]).own_len
  -- the builder
  have hb0 : sat (hB.push (.cells #[.pointer none, .slice none 0 0] 128)) (bldA hB.size (iL []) :: old hB :: []) :=
    bldA_iff.2 ⟨.pointer none, ⟨none, 0, 0⟩, .inl rfl, ((bufA_nil (T := 5) (sat_old hB).push).p1)⟩
  refine bind_new ?_
  (try dsimp only)
  generalize hB.push (.cells #[.pointer none, .slice none 0 0] 128) = h2 at hb0 ⊢
  generalize hbb : hB.size = b at hb0 ⊢
  refine ⟨a.o, by rw [add_own]; exact cX rfl hb0.p1, ?_⟩
  (try dsimp only); rw [hO]
  refine bind_callV Tryd.call50 (numC_spec (w := 1) (n := O) hb0 (.inl rfl) (by omega) (by simp) fun h3 hs3 => ⟨rfl, ?_⟩)
  refine ⟨a.v, by rw [add_own]; exact cX rfl hs3.p1, by decide, ?_⟩
  (try dsimp only); rw [hV, div_high]
  refine bind_callV Tryd.call50 (numC_spec (w := 4) (n := V / 4294967296) hs3 (.inr (.inr rfl)) (by have : V / 4294967296 ≤ V := Nat.div_le_self _ _; omega) (by simp [fixL_len]) fun h4 hs4 => ⟨rfl, ?_⟩)
  refine ⟨a.v, by rw [add_own]; exact cX rfl hs4.p1, ?_⟩
  (try dsimp only); rw [hV, and_low V (by omega)]
  refine bind_callV Tryd.call50 (numC_spec (w := 4) (n := V % 4294967296) hs4 (.inr (.inr rfl)) (by omega) (by simp [fixL_len]) fun h5 hs5 => ⟨rfl, ?_⟩)
  refine ⟨sf, by rw [add_own]; exact cX rfl hs5.p1, ?_⟩
  (try dsimp only); rw [hlf]
  refine bind_callV Tryd.call50 (numC_spec (w := 1) (n := a.fs.length) hs5 (.inl rfl) (by have := G.nf; omega) (by simp [fixL_len]) fun h6 hs6 => ⟨rfl, ?_⟩)
  have eH : [] ++ fixL 1 O ++ fixL 4 (V / 4294967296) ++ fixL 4 (V % 4294967296) ++ fixL 1 a.fs.length = headL a := by
    unfold headL
    rw [hO, hV]
    rfl
  rw [eH] at hs6
  have hHl : (headL a).length = 10 := by unfold headL; simp [fixL_len]
  clear hs5 hs4 hs3 hb0
  refine ⟨sf, by rw [add_own]; exact cX rfl hs6.p1, ?_⟩
  refine bind_callV Tryd.call53 (dataC_spec (A := old hB) hs6 rowF G.fs G.nf (by omega) fun h7 hs7 => ⟨rfl, ?_⟩)
  have hFl : (headL a ++ a.fs.flatMap datL).length ≤ 17000 := by
    rw [List.length_append, hHl]
    have h1 : (a.fs.flatMap datL).length ≤ a.fs.length * 258 := flat_le fun f hf => datL_len (G.fs f hf)
    have := G.nf
    omega
  refine ⟨sl, by rw [add_own]; exact cX rfl hs7.p1, ?_⟩
  (try dsimp only); rw [hll]
  refine bind_callV Tryd.call50 (numC_spec (w := 1) (n := a.ls.length) hs7 (.inl rfl) (by have := G.nl; omega) (by omega) fun h8 hs8 => ⟨rfl, ?_⟩)
  clear hs7 hs6
  generalize hpre : headL a ++ a.fs.flatMap datL ++ fixL 1 a.ls.length = pre at hs8
  have hprel : pre.length ≤ 17001 := by rw [← hpre, List.length_append, fixL_len]; omega
  refine ⟨sl, by rw [add_own]; exact cX rfl hs8.p1, ?_⟩
  (try dsimp only); rw [HM.bind_apply]
  have hnl := G.nl
  refine loop_gx (γ := Nat) (hb := fun s => by
      repeat' with_reducible first
        | refine @mono_bind _ _ _ _ ?_ (fun _ => ?_)
        | refine @mono_ite _ _ _ _ ?_ ?_
      all_goals infer_instance)
    (fun g c h' => c.1 = (((a.ls.length - g : Nat)) : Int) ∧ g ≤ a.ls.length ∧ sat h' (bldA b (iL (pre ++ (a.ls.take (a.ls.length - g)).flatMap putK)) :: old hB :: [])) (fun g => g) a.ls.length
    ⟨by simp, Nat.le_refl _, by simpa using hs8⟩ ?_
  clear hs8
  rintro g ⟨c, ⟨⟩⟩ h9 ⟨hc, hgg, hs9⟩
  simp only at hc
  subst hc
  (try dsimp only); rw [HM.ite_apply]
  by_cases hi : a.ls.length - g < a.ls.length
  · rw [if_pos (by simp only [decide_eq_true_eq, hll]; omega)]
    obtain ⟨l, hl⟩ : ∃ l, a.ls[a.ls.length - g]? = some l := ⟨_, List.getElem?_eq_getElem hi⟩
    obtain ⟨⟨hl0, hl8⟩, hlr⟩ := G.ls l (List.mem_of_getElem? hl)
    have hKl : (pre ++ (a.ls.take (a.ls.length - g)).flatMap putK).length ≤ 40000 := by
      rw [List.length_append]
      have h1 : ((a.ls.take (a.ls.length - g)).flatMap putK).length ≤ (a.ls.take (a.ls.length - g)).length * 777 := flat_le fun y hy => putK_len (G.ls y (List.mem_of_mem_take hy)).2
      rw [List.length_take] at h1
      have : min (a.ls.length - g) a.ls.length * 777 ≤ 16 * 777 := Nat.mul_le_mul_right _ (by omega)
      omega
    have htake : (a.ls.take (a.ls.length - (g - 1))).flatMap putK = (a.ls.take (a.ls.length - g)).flatMap putK ++ putK l := by
      rw [show a.ls.length - (g - 1) = a.ls.length - g + 1 by omega, List.take_add_one, hl, List.flatMap_append]
      simp
    generalize hL0 : pre ++ (a.ls.take (a.ls.length - g)).flatMap putK = L0 at hs9 hKl
    (try dsimp only); rw [HM.bind_apply]
    refine idx_row (rowK hs9.p1) hl fun p hp => ?_
    (try dsimp only); rw [HM.bind_apply]
    refine load_K hp ?_
    refine new_cells hs9 fun y h10 hs10' => ?_
    (try dsimp only); rw [HM.bind_apply]
    refine storeN_all' hs10' rfl rfl fun h11 hs11' => ?_
    have hs11 : sat h11 (bldA b (iL L0) :: cells y (encK l).toArray :: old hB :: []) := (show sat h11 (cells y (encK l).toArray :: bldA b (iL L0) :: old hB :: []) from hs11').p1
    clear hs11' hs10' hs9
    obtain ⟨n1, hn1⟩ := Int.eq_ofNat_of_zero_le hl0
    obtain ⟨n2, hn2⟩ := Int.eq_ofNat_of_zero_le hlr.d.1
    obtain ⟨n3, hn3⟩ := Int.eq_ofNat_of_zero_le hlr.q.1
    have b1 : n1 < 8 := by omega
    have b2 : n2 ≤ 2 := by have := hlr.d.2; omega
    have b3 : n3 ≤ 2 := by have := hlr.q.2; omega
    refine ⟨l.1, by rw [add_own]; exact hs11.p1.cell 0, ?_⟩
    (try dsimp only); rw [hn1]
    refine bind_callV Tryd.call50 (numC_spec (w := 1) (n := n1) hs11 (.inl rfl) (by omega) (by omega) fun h12 hs12 => ⟨rfl, ?_⟩)
    refine ⟨l.2.2.1, by rw [add_own, Addr.add_at]; exact hs12.p1.cell 2, ?_⟩
    (try dsimp only); rw [hn2]
    refine bind_callV Tryd.call50 (numC_spec (w := 1) (n := n2) hs12 (.inl rfl) (by omega) (by simp [fixL_len]; omega) fun h13 hs13 => ⟨rfl, ?_⟩)
    refine ⟨l.2.2.2.1, by rw [add_own, Addr.add_at]; exact hs13.p1.cell 3, ?_⟩
    (try dsimp only); rw [hn3]
    refine bind_callV Tryd.call50 (numC_spec (w := 1) (n := n3) hs13 (.inl rfl) (by omega) (by simp [fixL_len]; omega) fun h14 hs14 => ⟨rfl, ?_⟩)
    refine ⟨l.2.1, by rw [add_own, Addr.add_at]; exact hs14.p1.cell 1, ?_⟩
    refine ⟨l.2.2.2.2.1, by rw [add_own, Addr.add_at]; exact hs14.p1.cell 4, ?_⟩
    refine ⟨l.2.2.2.2.2.1, by rw [add_own, Addr.add_at]; exact hs14.p1.cell 5, ?_⟩
    refine new_cells hs14 fun z h15 hs15 => ?_
    have hs16 : sat h15 (bldA b (iL (L0 ++ fixL 1 n1 ++ fixL 1 n2 ++ fixL 1 n3)) :: ownS eS 1 ⟨some ⟨z, 0, none⟩, 3, 3⟩ [l.2.1, l.2.2.2.2.1, l.2.2.2.2.2.1] :: cells y (encK l).toArray :: old hB :: []) :=
      (own_full (xs := [l.2.1, l.2.2.2.2.1, l.2.2.2.2.2.1]) hs15).p1
    clear hs15 hs14 hs13 hs12 hs11
    refine bind_callV Tryd.call53 (dataC_spec (st := ⟨some ⟨z, 0, none⟩, 3, 3⟩) hs16 (fun hh => hh.own_row eS_len) (fun t htm => ?_) (by simp) (by simp [fixL_len]; omega) fun h17 hs17 => ⟨rfl, ?_⟩)
    · simp only [List.mem_cons, List.not_mem_nil, or_false] at htm
      rcases htm with rfl | rfl | rfl
      · exact hlr.p
      · exact hlr.l
      · exact hlr.rm
    simp only [Sum.elim_inl, Sum.elim_inr, HM.pure_apply]
    refine .mk (g - 1) (by omega) ⟨by simp only; rw [wrap_id (by omega) (by omega)]; omega, by omega, ?_⟩
    have e1 : pre ++ (a.ls.take (a.ls.length - (g - 1))).flatMap putK = L0 ++ fixL 1 n1 ++ fixL 1 n2 ++ fixL 1 n3 ++ [l.2.1, l.2.2.2.2.1, l.2.2.2.2.2.1].flatMap datL := by
      rw [htake, ← List.append_assoc, hL0]
      unfold putK
      rw [hn1, hn2, hn3]
      simp [List.append_assoc]
    rw [e1]
    exact (hs17.re [0, 3, 1, 2]).re [2, 3, 0, 1] |>.drop.drop
  · rw [if_neg (by simp only [decide_eq_true_eq, hll]; omega)]
    simp only [Sum.elim_inl, Sum.elim_inr, HM.pure_apply]
    rw [List.take_of_length_le (by omega)] at hs9
    have e1 : pre ++ a.ls.flatMap putK = putL a := by rw [← hpre]; rfl
    rw [e1] at hs9
    refine bind_call1 (String_spec hs9 (Nat.le_of_eq hbb) (iL_byte _) fun h10 hgr => ⟨_, rfl, ?_⟩)
    have := hq h10 (hsB.grow hgr).drop
    rw [hg, if_pos rfl] at this
    rw [iL_of]
    exact this

end Go.Proofs.YtmdagnoknmfhcaaDoor
