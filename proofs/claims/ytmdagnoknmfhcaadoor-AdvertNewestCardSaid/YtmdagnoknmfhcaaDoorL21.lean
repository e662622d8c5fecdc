/-
  L21: laws AdvertBytes and AdvertBack over heaps (steps written by tools/gen_l21.py).
-/
import Derived.Test.YtmdagnoknmfhcaaDoorCmad
import Derived.Test.YtmdagnoknmfhcaaDoorCrpt
namespace Go.Proofs.YtmdagnoknmfhcaaDoor
open Go.H Go.Proofs Go.Lib
set_option linter.unusedSimpArgs false
set_option linter.unusedVariables false
set_option synthInstance.maxSize 100000
set_option synthInstance.maxHeartbeats 400000
set_option maxRecDepth 100000

variable {h h0 : Heap} {R : List Asn}

/-- the bytes of an advert, and the code -/
def putC (a : AdvT) : ByteArray × Int := if goodA a = true then (ofB (putL a), 0) else (ByteArray.mk #[], 129)
theorem Put_of {a : AdvT} {sf sl : Slc} (hs : sat h (ownS eS 1 sf a.fs :: ownS encK 6 sl a.ls :: old h0 :: R)) (ht : TP h0) (hz : szA a) {Q : Value → Heap → Prop}
    (hq : ∀ h', sat h' (ownS eS 1 sf a.fs :: ownS encK 6 sl a.ls :: old h0 :: R) → Q (.tuple #[.string (putC a).1, .int .u8 (putC a).2]) h') : HCalls Tryd.prog 23 #[vA a sf sl] h Q := by
  refine Put_spec hs ht hz fun h' hs' => ?_
  have := hq h' hs'
  unfold putC at this
  split at this
  · rename_i hg
    rw [if_pos hg]
    exact this
  · rename_i hg
    rw [if_neg hg]
    exact this
theorem rPut_of {a : AdvT} {sf sl : Slc} (hs : sat h (ownS eS 1 sf a.fs :: ownS encK 6 sl a.ls :: R)) (hz : szA a) {Q : Value → Heap → Prop}
    (hq : ∀ h', sat h' (ownS eS 1 sf a.fs :: ownS encK 6 sl a.ls :: R) → Q (.tuple #[.string (putC a).1, .int .i64 (putC a).2]) h') : HCalls Tryd.prog 24 #[vA a sf sl] h Q := by
  refine rPut_spec hs hz fun h' hs' => ?_
  have := hq h' hs'
  unfold putC at this
  split at this
  · rename_i hg
    rw [if_pos hg]
    exact this
  · rename_i hg
    rw [if_neg hg]
    exact this
theorem made_of {o v : Int} {sf sl : Slc} {fs : List ByteArray} {ls : List LinkT} {A : AdvT} (hA : cutA o v fs ls = A) (hs : sat h (old h0 :: R)) (hf : RowAt eS 1 h0 sf fs) (hl : RowAt encK 6 h0 sl ls) {Q : Value → Heap → Prop}
    (hq : ∀ h' s1 k1 s2 k2, sat h' (ownS eS 1 s1 A.fs :: ownS encK 6 k1 A.ls :: ownS eS 1 s2 A.fs :: ownS encK 6 k2 A.ls :: old h0 :: R) → Q (.tuple #[vA A s1 k1, vA A s2 k2]) h') :
    HCalls Tryd.prog 22 #[.agg #[.int .i64 o, .int .i64 v, .slice sf.a sf.len sf.cap, .slice sl.a sl.len sl.cap]] h Q := by
  subst hA
  exact made_spec hs hf hl hq
theorem Get_is {s : ByteArray} {C : AdvT × Int} (hC : getC s = C) (hs : sat h (old h0 :: R)) (ht : TP h0) (hsz : s.size ≤ bigB) {Q : Value → Heap → Prop}
    (hq : ∀ h' sf sl, sat h' (ownS eS 1 sf C.1.fs :: ownS encK 6 sl C.1.ls :: old h0 :: R) → Q (.tuple #[vA C.1 sf sl, .int .u8 C.2]) h') : HCalls Tryd.prog 25 #[.string s] h Q := by
  subst hC
  exact Get_spec hs ht hsz hq
theorem putC_wrap (a : AdvT) : IntKind.wrap .i64 (putC a).2 = (putC a).2 := by unfold putC; split <;> rfl
theorem getC_wrap (s : ByteArray) : IntKind.wrap .i64 (getC s).2 = (getC s).2 := by unfold getC; split <;> rfl
theorem getC_len (s : ByteArray) : (getC s).1.fs.length ≤ 1000 ∧ (getC s).1.ls.length ≤ 1000 := by
  unfold getC
  split
  · rename_i a ha
    have G := good_facts (get_inv ha).2
    have h1 := G.nf
    have h2 := G.nl
    exact ⟨by simp only; omega, by simp only; omega⟩
  · exact ⟨Nat.zero_le _, Nat.zero_le _⟩
theorem good_sz {a : AdvT} (hg : goodA a = true) : szA a := by
  have G := good_facts hg
  refine ⟨fun f hf => Nat.le_trans (G.fs f hf) (by decide), fun l hl => ?_⟩
  have K := (G.ls l hl).2
  exact ⟨Nat.le_trans K.p (by decide), Nat.le_trans K.l (by decide), Nat.le_trans K.rm (by decide)⟩
theorem getC_sz (s : ByteArray) : szA (getC s).1 := by
  unfold getC
  split
  · rename_i a ha
    exact good_sz (get_inv ha).2
  · exact ⟨(fun f hf => by cases hf), (fun l hl => by cases hl)⟩
theorem sameA_refl (a : AdvT) : sameA a a = true := by unfold sameA; simp
theorem cut_len (o v : Int) (fs : List ByteArray) (ls : List LinkT) : (cutA o v fs ls).fs.length ≤ 1000 ∧ (cutA o v fs ls).ls.length ≤ 1000 := by
  unfold cutA
  simp only [List.length_take]
  omega
theorem putL_len {a : AdvT} (hg : goodA a = true) : (putL a).length ≤ 100000 := by
  have G := good_facts hg
  have h1 : (a.fs.flatMap datL).length ≤ a.fs.length * 258 := flat_le fun f hf => datL_len (G.fs f hf)
  have h2 : (a.ls.flatMap putK).length ≤ a.ls.length * 777 := flat_le fun l hl => putK_len (G.ls l hl).2
  have h3 := G.nf
  have h4 := G.nl
  unfold putL headL
  simp only [List.length_append, fixL_len]
  omega

set_option maxHeartbeats 4000000 in
theorem AdvertBytes_spec {o v : Int} {sf sl : Slc} {fs : List ByteArray} {ls : List LinkT} {s : ByteArray} (hs : sat h (old h0 :: R)) (ht : TP h0) (hf : RowAt eS 1 h0 sf fs) (hl : RowAt encK 6 h0 sl ls) (hza : szA (cutA o v fs ls)) (hsz : s.size ≤ bigB) {Q : Value → Heap → Prop} (hq : ∀ h' R', sat h' (old h0 :: R') → Q (.bool true) h') :
    HCalls Tryd.prog 6 #[.agg #[.int .i64 o, .int .i64 v, .slice sf.a sf.len sf.cap, .slice sl.a sl.len sl.cap], .string s] h Q := by
  refine law21_AdvertBytes_calls (o, v, sf, sl, ()) s h Q ?_
  obtain ⟨A, hA⟩ : ∃ A, cutA o v fs ls = A := ⟨_, rfl⟩
  have hlA : A.fs.length ≤ 1000 ∧ A.ls.length ≤ 1000 := by rw [← hA]; exact cut_len o v fs ls
  rw [hA] at hza
  unfold law21_AdvertBytes
  refine new_cells hs fun x1 h1001 hs1001 => ?_
  refine loadN_cells (ts := [.int .i64, .int .i64, .slc, .slc]) (o, v, sf, sl, ()) hs1001 rfl ?_
  refine bind_callN (made_of hA hs1001.p1 hf hl fun h1002 sa1002 ka1002 sb1002 kb1002 hs1002 => ⟨((A.o, A.v, sa1002, ka1002, ()), (A.o, A.v, sb1002, kb1002, ()), ()), rfl, ?_⟩)
  refine new_cells hs1002 fun x4 h1003 hs1003 => ?_
  refine new_cells hs1003 fun x5 h1004 hs1004 => ?_
  (try dsimp only); rw [HM.bind_apply]
  refine storeN_all' hs1004.p1 rfl rfl fun h1005 hs1005 => ?_
  (try dsimp only); rw [HM.bind_apply]
  refine storeN_all' hs1005.p1 rfl rfl fun h1006 hs1006 => ?_
  refine loadN_cells (ts := [.int .i64, .int .i64, .slc, .slc]) (A.o, A.v, sa1002, ka1002, ()) hs1006.p1 rfl ?_
  refine bind_callN (Put_of (a := A) (hs1006.re [2, 3, 6, 0, 1, 4, 5]) ht hza fun h1007 hs1007 => ⟨((putC A).1, (putC A).2, ()), rfl, ?_⟩)
  refine loadN_cells (ts := [.int .i64, .int .i64, .slc, .slc]) (A.o, A.v, sb1002, kb1002, ()) hs1007.p3 rfl ?_
  refine bind_callN (rPut_of (a := A) (hs1007.re [5, 6, 0, 1, 2, 3, 4]) hza fun h1008 hs1008 => ⟨((putC A).1, (putC A).2, ()), rfl, ?_⟩)
  refine bind_callN (Get_spec hs1008.p4 ht hsz fun h1009 sf1009 sl1009 hs1009 => ⟨(((getC s).1.o, (getC s).1.v, sf1009, sl1009, ()), (getC s).2, ()), rfl, ?_⟩)
  refine new_cells hs1009 fun x11 h1010 hs1010 => ?_
  (try dsimp only); rw [HM.bind_apply]
  refine storeN_all' hs1010 rfl rfl fun h1011 hs1011 => ?_
  refine bind_callN (rGet_spec hs1011 hsz fun h1012 sf1012 sl1012 hs1012 => ⟨(((getC s).1.o, (getC s).1.v, sf1012, sl1012, ()), (getC s).2, ()), rfl, ?_⟩)
  refine new_cells hs1012 fun x13 h1013 hs1013 => ?_
  (try dsimp only); rw [HM.bind_apply]
  refine storeN_all' hs1013 rfl rfl fun h1014 hs1014 => ?_
  (try dsimp only); rw [HM.bind_apply]
  refine bind_call1 (wakes_spec (hs1014.re [6, 0, 1, 2, 3, 4, 5]) ht fun h1015 hs1015 => ⟨_, rfl, ?_⟩)
  (try dsimp only); rw [HM.ite_apply, if_pos rfl]
  (try dsimp only); rw [HM.ite_apply, if_pos (by simp)]
  (try dsimp only); rw [HM.ite_apply, if_pos (by rw [putC_wrap]; simp)]
  (try dsimp only); rw [HM.ite_apply, if_pos (by rw [getC_wrap]; simp)]
  refine loadN_cells (ts := [.int .i64, .int .i64, .slc, .slc]) ((getC s).1.o, (getC s).1.v, sf1009, sl1009, ()) hs1015.p4 rfl ?_
  refine loadN_cells (ts := [.int .i64, .int .i64, .slc, .slc]) ((getC s).1.o, (getC s).1.v, sf1012, sl1012, ()) hs1015.p1 rfl ?_
  refine bind_call1 (same_spec (a := (getC s).1) (b := (getC s).1) hs1015 (hs1015.p5.own_row eS_len) ((hs1015.re [6, 0, 1, 2, 3, 4, 5]).own_row eK_len) (hs1015.p2.own_row eS_len) (hs1015.p3.own_row eK_len) (getC_len s) fun h1016 hs1016 => ⟨_, rfl, ?_⟩)
  rw [sameA_refl]
  exact hq _ _ (hs1016)

set_option maxHeartbeats 4000000 in
theorem AdvertBack_spec {o v : Int} {sf sl : Slc} {fs : List ByteArray} {ls : List LinkT} {s : ByteArray} {k : Int} (hs : sat h (old h0 :: R)) (ht : TP h0) (hf : RowAt eS 1 h0 sf fs) (hl : RowAt encK 6 h0 sl ls) (hza : szA (cutA o v fs ls)) (hsz : s.size ≤ bigB) {Q : Value → Heap → Prop} (hq : ∀ h' R', sat h' (old h0 :: R') → Q (.bool true) h') :
    HCalls Tryd.prog 7 #[.agg #[.int .i64 o, .int .i64 v, .slice sf.a sf.len sf.cap, .slice sl.a sl.len sl.cap], .string s, .int .i64 k] h Q := by
  refine law21_AdvertBack_calls (o, v, sf, sl, ()) s k h Q ?_
  obtain ⟨A, hA⟩ : ∃ A, cutA o v fs ls = A := ⟨_, rfl⟩
  have hlA : A.fs.length ≤ 1000 ∧ A.ls.length ≤ 1000 := by rw [← hA]; exact cut_len o v fs ls
  rw [hA] at hza
  unfold law21_AdvertBack
  refine new_cells hs fun x1 h1001 hs1001 => ?_
  refine loadN_cells (ts := [.int .i64, .int .i64, .slc, .slc]) (o, v, sf, sl, ()) hs1001 rfl ?_
  refine bind_callN (made_of hA hs1001.p1 hf hl fun h1002 sa1002 ka1002 sb1002 kb1002 hs1002 => ⟨((A.o, A.v, sa1002, ka1002, ()), (A.o, A.v, sb1002, kb1002, ()), ()), rfl, ?_⟩)
  refine new_cells hs1002 fun x4 h1003 hs1003 => ?_
  refine new_cells hs1003 fun x5 h1004 hs1004 => ?_
  (try dsimp only); rw [HM.bind_apply]
  refine storeN_all' hs1004.p1 rfl rfl fun h1005 hs1005 => ?_
  (try dsimp only); rw [HM.bind_apply]
  refine storeN_all' hs1005.p1 rfl rfl fun h1006 hs1006 => ?_
  refine loadN_cells (ts := [.int .i64, .int .i64, .slc, .slc]) (A.o, A.v, sa1002, ka1002, ()) hs1006.p1 rfl ?_
  refine bind_callN (Put_of (a := A) (hs1006.re [2, 3, 6, 0, 1, 4, 5]) ht hza fun h1007 hs1007 => ⟨((putC A).1, (putC A).2, ()), rfl, ?_⟩)
  refine bind_call1 (wakes_spec hs1007.p2 ht fun h1008 hs1008 => ⟨_, rfl, ?_⟩)
  (try dsimp only); rw [HM.ite_apply, if_neg (by simp)]
  refine bind_cut (fun z h' => z = .inl () ∧ ∃ R', sat h' (old h0 :: R')) ?_ ?_
  · (try dsimp only); rw [HM.ite_apply]
    cases hg : goodA A with
    | false =>
      rw [if_neg (by simp [putC, hg])]
      exact ⟨rfl, _, hs1008⟩
    | true =>
      have e1 : (putC A).1 = ofB (putL A) := by simp [putC, hg]
      have e2 : (putC A).2 = 0 := by simp [putC, hg]
      have e3 : getC (ofB (putL A)) = (A, 0) := by unfold getC; rw [get_put hg]
      have hpl := putL_len hg
      have hpn : (putL A).length ≠ 0 := fun e => put_ne (List.eq_nil_of_length_eq_zero e)
      have e4 : (ofB (putL A)).size = (putL A).length := ofB_size' _
      have hbs : (ofB (putL A)).size ≤ bigB := by rw [e4]; exact Nat.le_trans hpl (by decide)
      rw [if_pos (by simp [e2])]
      rw [e1]
      (try dsimp only)
      refine bind_callN (Get_is e3 hs1008 ht hbs fun h1009 sf1009 sl1009 hs1009 => ⟨((A.o, A.v, sf1009, sl1009, ()), 0, ()), rfl, ?_⟩)
      refine new_cells hs1009 fun x11 h1010 hs1010 => ?_
      (try dsimp only); rw [HM.bind_apply]
      refine storeN_all' hs1010 rfl rfl fun h1011 hs1011 => ?_
      refine bind_cut (fun z h' => z.1 = false ∧ ∃ R', sat h' (old h0 :: R')) ?_ ?_
      · (try dsimp only); rw [HM.ite_apply, if_neg (by simp)]
        refine loadN_cells (ts := [.int .i64, .int .i64, .slc, .slc]) (A.o, A.v, sf1009, sl1009, ()) hs1011 rfl ?_
        refine loadN_cells (ts := [.int .i64, .int .i64, .slc, .slc]) (A.o, A.v, sb1002, kb1002, ()) (hs1011.re [6, 0, 1, 2, 3, 4, 5]) rfl ?_
        refine bind_call1 (same_spec (a := A) (b := A) hs1011 (hs1011.p1.own_row eS_len) (hs1011.p2.own_row eK_len) ((hs1011.re [8, 0, 1, 2, 3, 4, 5, 6, 7]).own_row eS_len) ((hs1011.re [9, 0, 1, 2, 3, 4, 5, 6, 7, 8]).own_row eK_len) hlA fun h1012 hs1012 => ⟨_, rfl, ?_⟩)
        rw [sameA_refl]
        (try dsimp only); rw [HM.ite_apply, if_neg (by simp)]
        refine ⟨?_, _, hs1012.p3⟩
        show ((((ofB (putL A)).size : Nat) : Int) == 0) = false
        rw [e4, beq_eq_false_iff_ne]
        omega
      rintro ⟨z, ⟨⟩⟩ hh ⟨hz, R9, hw⟩
      simp only at hz
      subst hz
      (try dsimp only); rw [HM.ite_apply, if_neg (by simp)]
      refine ⟨by simp only [e4]; omega, ?_⟩
      obtain ⟨n, hn, hnk⟩ : ∃ n : Nat, n < (putL A).length ∧ Int.tmod (if 0 < k then k else 0) (((ofB (putL A)).size : Nat) : Int) = (n : Int) := by
        rw [e4]
        refine ⟨(Int.tmod (if 0 < k then k else 0) (((putL A).length : Nat) : Int)).toNat, ?_, ?_⟩
        · have := Int.tmod_lt_of_pos (if 0 < k then k else 0) (b := (((putL A).length : Nat) : Int)) (by omega)
          omega
        · have := Int.tmod_nonneg (((putL A).length : Nat) : Int) (a := if 0 < k then k else 0) (by split <;> omega)
          omega
      (try dsimp only); rw [hnk]
      have e5 : (ofB (putL A)).extract 0 n = ofB ((putL A).take n) := by
        refine data_inj ?_
        rw [extract_list]
        simp only [ofB_list, List.drop_zero, Nat.sub_zero]
      refine ⟨0, n, ⟨rfl, by rw [e4]; omega⟩, rfl, ?_⟩
      rw [e5]
      have e6 : getC (ofB ((putL A).take n)) = (⟨0, 0, [], []⟩, 129) := by unfold getC; rw [get_cut hg hn]
      have hbs2 : (ofB ((putL A).take n)).size ≤ bigB := by rw [ofB_size', List.length_take]; exact Nat.le_trans (Nat.min_le_right ..) (Nat.le_trans hpl (by decide))
      (try dsimp only)
      refine bind_callN (Get_is e6 hw ht hbs2 fun h1012 sf1012 sl1012 hs1012 => ⟨((0, 0, sf1012, sl1012, ()), 129, ()), rfl, ?_⟩)
      refine new_cells hs1012 fun x18 h1013 hs1013 => ?_
      (try dsimp only); rw [HM.bind_apply]
      refine storeN_all' hs1013 rfl rfl fun h1014 hs1014 => ?_
      (try dsimp only); rw [HM.ite_apply, if_neg (by simp)]
      exact ⟨rfl, _, hs1014.p3⟩
  rintro z hh ⟨rfl, R9, hw⟩
  simp only [Sum.elim_inl]
  try dsimp only
  refine bind_callN (Get_spec hw ht hsz fun h9001 sf9001 sl9001 hs9001 => ⟨(((getC s).1.o, (getC s).1.v, sf9001, sl9001, ()), (getC s).2, ()), rfl, ?_⟩)
  refine new_cells hs9001 fun x20 h9002 hs9002 => ?_
  (try dsimp only); rw [HM.bind_apply]
  refine storeN_all' hs9002 rfl rfl fun h9003 hs9003 => ?_
  (try dsimp only); rw [HM.ite_apply]
  by_cases hc : (getC s).2 = 0
  rotate_left
  · rw [if_pos (by simpa using hc)]
    exact hq _ _ hs9003.p3
  rw [if_neg (by simpa using hc)]
  refine loadN_cells (ts := [.int .i64, .int .i64, .slc, .slc]) ((getC s).1.o, (getC s).1.v, sf9001, sl9001, ()) hs9003 rfl ?_
  refine bind_callN (Put_of (a := ((getC s).1)) (hs9003.re [1, 2, 3, 0]) ht (getC_sz s) fun h9004 hs9004 => ⟨((putC ((getC s).1)).1, (putC ((getC s).1)).2, ()), rfl, ?_⟩)
  obtain ⟨a, ha, ea⟩ : ∃ a, getA s = some a ∧ (getC s).1 = a := by
    unfold getC at hc ⊢
    cases hga : getA s with
    | none => rw [hga] at hc; exact absurd hc (by decide)
    | some a => exact ⟨a, rfl, rfl⟩
  obtain ⟨ei, eg⟩ := get_inv ha
  have ep : putC (getC s).1 = (s, 0) := by
    rw [ea]
    unfold putC
    rw [if_pos eg, ← ei]
  (try dsimp only); rw [ep, HM.bind_apply]
  (try dsimp only); rw [HM.ite_apply, if_pos (by rfl)]
  have hfin := hq _ _ hs9004.p2
  rw [show true = decide (s = s) by simp] at hfin
  exact hfin

end Go.Proofs.YtmdagnoknmfhcaaDoor
