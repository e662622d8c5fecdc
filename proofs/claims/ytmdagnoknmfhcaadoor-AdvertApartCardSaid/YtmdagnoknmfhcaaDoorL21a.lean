/-
  L21a: law AdvertApart over heaps (steps written by tools/gen_l21a.py).
-/
import Derived.Test.YtmdagnoknmfhcaaDoorL21p
import Derived.Test.YtmdagnoknmfhcaaDoorHu
namespace Go.Proofs.YtmdagnoknmfhcaaDoor
open Go.H Go.Proofs Go.Lib
set_option linter.unusedSimpArgs false
set_option linter.unusedVariables false
set_option synthInstance.maxSize 100000
set_option synthInstance.maxHeartbeats 400000
set_option maxRecDepth 100000

variable {h h0 : Heap} {R : List Asn}

theorem Learn_nil {a : AdvT} {sf sl : Slc} (hs : sat h R) {Q : Value → Heap → Prop} (hq : ∀ h', sat h' R → Q (.tuple #[.bool false, .int .u8 128]) h') : HCalls Tryd.prog 30 #[.pointer none, vA a sf sl] h Q := by
  refine advert_Base_Learn_calls none (a.o, a.v, sf, sl, ()) h Q ?_
  unfold advert_Base_Learn
  refine new_cells hs fun x1 h1 hs1 => ?_
  (try dsimp only); rw [HM.ite_apply, if_pos (by rfl)]
  exact hq _ hs1.drop
theorem Of_nil {o : Int} (hs : sat h R) {Q : Value → Heap → Prop} (hq : ∀ h', sat h' R → Q (.tuple #[vA zAdv ⟨none, 0, 0⟩ ⟨none, 0, 0⟩, .bool false]) h') : HCalls Tryd.prog 33 #[.pointer none, .int .i64 o] h Q := by
  refine advert_Base_Of_calls none o h Q ?_
  unfold advert_Base_Of
  refine new_cells hs fun x1 h1 hs1 => ?_
  (try dsimp only); rw [HM.ite_apply, if_pos (by rfl)]
  (try dsimp only); rw [HM.bind_apply]
  refine storeN_all' hs1 rfl rfl fun h2 hs2 => ?_
  refine loadN_cells (ts := [.int .i64, .int .i64, .slc, .slc]) (0, 0, ⟨none, 0, 0⟩, ⟨none, 0, 0⟩, ()) hs2 rfl ?_
  exact hq _ hs2.drop
theorem List_nil {Q : Value → Heap → Prop} (hq : Q (.slice none 0 0) h) : HCalls Tryd.prog 31 #[.pointer none] h Q := by
  refine advert_Base_List_calls none h Q ?_
  unfold advert_Base_List
  (try dsimp only); rw [HM.ite_apply, if_pos (by rfl)]
  exact hq

theorem getK_one (A : AdvT) : getK [(A.o, A)] A.o = A := by unfold getK; rw [mget_cons, if_pos rfl]; rfl
theorem bas_one {A : AdvT} (hg : goodA A = true) : Bas [(A.o, A)] [A] :=
  ⟨⟨fun p hp => by rw [List.mem_singleton.1 hp], by simp, by simp, by simp⟩, fun e he => by rw [List.mem_singleton.1 he]; exact hg⟩

set_option maxHeartbeats 4000000 in
theorem AdvertApart_spec {o v : Int} {sf sl : Slc} {fs : List ByteArray} {ls : List LinkT} (hs : sat h (old h0 :: R)) (ht : TP h0) (hf : RowAt eS 1 h0 sf fs) (hl : RowAt encK 6 h0 sl ls) (hza : szA (cutA o v fs ls))
    {Q : Value → Heap → Prop} (hq : ∀ h' R', sat h' (old h0 :: R') → Q (.bool true) h') :
    HCalls Tryd.prog 10 #[.agg #[.int .i64 o, .int .i64 v, .slice sf.a sf.len sf.cap, .slice sl.a sl.len sl.cap]] h Q := by
  refine law21_AdvertApart_calls (o, v, sf, sl, ()) h Q ?_
  obtain ⟨A, hA⟩ : ∃ A, cutA o v fs ls = A := ⟨_, rfl⟩
  have hAo : A.o = o := by rw [← hA]; rfl
  have hlA : okN A := by rw [← hA]; exact cut_len o v fs ls
  rw [hA] at hza
  have hlearn : (learnK [] A).1 = if goodA A = true then (true, 0) else (false, 129) := by
    unfold learnK
    cases hg : goodA A with
    | false => rfl
    | true =>
      have hv := (good_facts hg).v
      have e0 : ¬ (true = false) := by simp
      simp only [if_neg e0]
      have e1 : ¬ (A.v ≤ (getK [] A.o).v) := by
        show ¬ (A.v ≤ 0)
        omega
      rw [if_neg e1]
      rfl
  have hlearn2 : goodA A = true → (learnK [] A).2 = [(A.o, A)] := by
    intro hg
    unfold learnK
    have hv := (good_facts hg).v
    have e0 : ¬ (true = false) := by simp
    rw [hg]
    simp only [if_neg e0]
    have e1 : ¬ (A.v ≤ (getK [] A.o).v) := by
      show ¬ (A.v ≤ 0)
      omega
    rw [if_neg e1]
    rfl
  unfold law21_AdvertApart
  refine new_cells hs fun x1 h1001 hs1001 => ?_
  refine loadN_cells (ts := [.int .i64, .int .i64, .slc, .slc]) (o, v, sf, sl, ()) hs1001 rfl ?_
  refine bind_callN (made_of hA hs1001.p1 hf hl fun h1002 sa1002 ka1002 sb1002 kb1002 hs1002 => ⟨((A.o, A.v, sa1002, ka1002, ()), (A.o, A.v, sb1002, kb1002, ()), ()), rfl, ?_⟩)
  refine new_cells hs1002 fun x4 h1003 hs1003 => ?_
  refine new_cells hs1003 fun x5 h1004 hs1004 => ?_
  (try dsimp only); rw [HM.bind_apply]
  refine storeN_all' hs1004.p1 rfl rfl fun h1005 hs1005 => ?_
  (try dsimp only); rw [HM.bind_apply]
  refine storeN_all' hs1005.p1 rfl rfl fun h1006 hs1006 => ?_
  refine loadN_cells (ts := [.int .i64, .int .i64, .slc, .slc]) (A.o, A.v, sa1002, ka1002, ()) hs1006.p1 rfl ?_
  refine bind_callN (Learn_nil (a := A) hs1006 fun h1007 hs1007 => ⟨(false, 128, ()), rfl, ?_⟩)
  refine ⟨o, by rw [add_own]; exact (hs1007.re [7, 0, 1, 2, 3, 4, 5, 6]).cell 0, ?_⟩
  refine bind_callN (Of_nil hs1007 fun h1008 hs1008 => ⟨((0, 0, ⟨none, 0, 0⟩, ⟨none, 0, 0⟩, ()), false, ()), rfl, ?_⟩)
  refine new_cells hs1008 fun x10 h1009 hs1009 => ?_
  (try dsimp only); rw [HM.bind_apply]
  refine storeN_all' hs1009 rfl rfl fun h1010 hs1010 => ?_
  refine bind_call1 (baseNew_spec hs1010 fun b h1011 hs1011 => ⟨some ⟨b, 0, none⟩, rfl, ?_⟩)
  refine loadN_cells (ts := [.int .i64, .int .i64, .slc, .slc]) (A.o, A.v, sa1002, ka1002, ()) hs1011.p3 rfl ?_
  refine bind_callN (Learn_spec (b := b) (K := []) (a := A) (hs1011.re [0, 4, 5, 8, 1, 2, 3, 6, 7]) ht hza fun h1012 hs1012 => ⟨((learnK [] A).1.1, (learnK [] A).1.2, ()), rfl, ?_⟩)
  have hw0 := (hs1012.re [4, 9, 6, 5, 0, 1, 2, 7, 8, 3]).drop
  have hw1 : sat _ (cells x1 #[.int .i64 o, .int .i64 v, .slice sf.a sf.len sf.cap, .slice sl.a sl.len sl.cap] :: cells x4 (cA A sa1002 ka1002).toArray :: cells x5 (cA A sb1002 kb1002).toArray :: baseA b (learnK [] A).2 :: ownS eS 1 sa1002 A.fs :: ownS encK 6 ka1002 A.ls :: ownS eS 1 sb1002 A.fs :: ownS encK 6 kb1002 A.ls :: old h0 :: R) := hw0
  clear hw0
  refine bind_cut (fun z h' => z.1 = !goodA A ∧ sat h' (cells x1 #[.int .i64 o, .int .i64 v, .slice sf.a sf.len sf.cap, .slice sl.a sl.len sl.cap] :: cells x4 (cA A sa1002 ka1002).toArray :: cells x5 (cA A sb1002 kb1002).toArray :: baseA b (learnK [] A).2 :: ownS eS 1 sa1002 A.fs :: ownS encK 6 ka1002 A.ls :: ownS eS 1 sb1002 A.fs :: ownS encK 6 kb1002 A.ls :: old h0 :: R)) ?_ ?_
  · refine bind_call1 (wakes_spec (hw1.re [8, 0, 1, 2, 3, 4, 5, 6, 7]) ht fun h1 hw2' => ⟨true, rfl, ?_⟩)
    have hw2 := hw2'.re [1, 2, 3, 4, 5, 6, 7, 8, 0]
    (try dsimp only); rw [HM.ite_apply, if_neg (by simp)]
    (try dsimp only); rw [HM.ite_apply, if_neg (by simp)]
    (try dsimp only); rw [HM.ite_apply, if_neg (by simp)]
    refine bind_call1 (List_nil ⟨⟨none, 0, 0⟩, rfl, ?_⟩)
    (try dsimp only); rw [HM.ite_apply, if_neg (by simp)]
    refine ⟨?_, hw2⟩
    rw [hlearn]
    cases goodA A <;> rfl
  rintro ⟨z, ⟨⟩⟩ h2 ⟨hz, hw2⟩
  simp only at hz
  subst hz
  (try dsimp only); rw [HM.ite_apply]
  cases hg : goodA A with
  | false =>
    rw [if_pos (by rfl)]
    (try dsimp only); rw [HM.bind_apply, HM.bind_apply]
    refine bind_call1 (wakes_spec (hw2.re [8, 0, 1, 2, 3, 4, 5, 6, 7]) ht fun h3 hw3 => ⟨true, rfl, ?_⟩)
    (try dsimp only); rw [HM.ite_apply, if_pos rfl]
    (try dsimp only); rw [HM.ite_apply, if_pos (by rfl)]
    (try dsimp only); rw [HM.ite_apply, if_pos (by rfl)]
    have hfin := hq _ _ hw3
    rw [hlearn, hg]
    exact hfin
  | true =>
  rw [if_neg (by simp)]
  rw [hlearn2 hg] at hw2
  have hb := bas_one hg
  have hAf : A.fs.length ≤ 1000 := hlA.1
  have hAl : A.ls.length ≤ 1000 := hlA.2
  refine ⟨sa1002, by rw [add_own]; exact hw2.p1.cell 2, ?_⟩
  have hsal := hw2.p4.own_len
  have hkal := hw2.p5.own_len
  (try dsimp only); rw [HM.bind_apply]
  refine loop_gx (γ := Nat × List ByteArray) (hb := fun s => by
      repeat' with_reducible first
        | refine @mono_bind _ _ _ _ ?_ (fun _ => ?_)
        | refine @mono_ite _ _ _ _ ?_ ?_
        | refine @mono_elim _ _ _ _ _ _ (fun _ => ?_) (fun _ => ?_)
        | refine @mono_req _ _ _ ?_
      all_goals infer_instance)
    (fun g c h' => c.1 = (((A.fs.length - g.1 : Nat)) : Int) ∧ g.1 ≤ A.fs.length ∧ g.2.length = A.fs.length ∧ sat h' (cells x1 #[.int .i64 o, .int .i64 v, .slice sf.a sf.len sf.cap, .slice sl.a sl.len sl.cap] :: cells x4 (cA A sa1002 ka1002).toArray :: cells x5 (cA A sb1002 kb1002).toArray :: baseA b [(A.o, A)] :: ownS eS 1 sa1002 g.2 :: ownS encK 6 ka1002 A.ls :: ownS eS 1 sb1002 A.fs :: ownS encK 6 kb1002 A.ls :: old h0 :: R)) (fun g => g.1) (A.fs.length, A.fs)
    ⟨by simp, Nat.le_refl _, rfl, hw2⟩ ?_
  clear hw2 hw1
  rintro ⟨g, gs⟩ ⟨c, ⟨⟩⟩ h3 ⟨hc, hgl, hgsl, hw2⟩
  simp only at hc hgl hgsl hw2
  subst hc
  (try dsimp only); rw [HM.ite_apply]
  by_cases hi : A.fs.length - g < A.fs.length
  · rw [if_pos (by simp only [decide_eq_true_eq, hsal]; omega)]
    obtain ⟨y, hy⟩ : ∃ y, gs[A.fs.length - g]? = some y := ⟨_, List.getElem?_eq_getElem (by omega)⟩
    refine ⟨sa1002, by rw [add_own]; exact hw2.p1.cell 2, ?_⟩
    (try dsimp only); rw [HM.bind_apply]
    refine idx_own eS_len hw2.p4 hy fun p hp hst => ?_
    (try dsimp only); rw [HM.bind_apply]
    have hst0 := hst 0 (.string (ByteArray.mk #[122, 122])) (ByteArray.mk #[122, 122])
    rw [Go.H.add_zero] at hst0
    refine hst0 _ (by decide) rfl rfl fun h4 hw3 => ?_
    simp only [Sum.elim_inl, Sum.elim_inr, HM.pure_apply]
    exact .mk (g - 1, gs.set (A.fs.length - g) (ByteArray.mk #[122, 122])) (by simp only; omega) ⟨by simp only; rw [wrap_id (by omega) (by omega)]; omega, by simp only; omega, by simp only [List.length_set]; exact hgsl, hw3.re [1, 2, 3, 4, 0]⟩
  rw [if_neg (by simp only [decide_eq_true_eq, hsal]; omega)]
  simp only [Sum.elim_inl, Sum.elim_inr, HM.pure_apply]
  clear hi hgl
  refine ⟨ka1002, by rw [add_own]; exact hw2.p1.cell 3, ?_⟩
  (try dsimp only); rw [HM.bind_apply]
  refine loop_gx (γ := Nat × List LinkT) (hb := fun s => by
      repeat' with_reducible first
        | refine @mono_bind _ _ _ _ ?_ (fun _ => ?_)
        | refine @mono_ite _ _ _ _ ?_ ?_
        | refine @mono_elim _ _ _ _ _ _ (fun _ => ?_) (fun _ => ?_)
        | refine @mono_req _ _ _ ?_
      all_goals infer_instance)
    (fun g c h' => c.1 = (((A.ls.length - g.1 : Nat)) : Int) ∧ g.1 ≤ A.ls.length ∧ g.2.length = A.ls.length ∧ sat h' (cells x1 #[.int .i64 o, .int .i64 v, .slice sf.a sf.len sf.cap, .slice sl.a sl.len sl.cap] :: cells x4 (cA A sa1002 ka1002).toArray :: cells x5 (cA A sb1002 kb1002).toArray :: baseA b [(A.o, A)] :: ownS eS 1 sa1002 gs :: ownS encK 6 ka1002 g.2 :: ownS eS 1 sb1002 A.fs :: ownS encK 6 kb1002 A.ls :: old h0 :: R)) (fun g => g.1) (A.ls.length, A.ls)
    ⟨by simp, Nat.le_refl _, rfl, hw2⟩ ?_
  clear hw2
  rintro ⟨g, ks⟩ ⟨c, ⟨⟩⟩ h5 ⟨hc, hgl, hksl, hw2⟩
  simp only at hc hgl hksl hw2
  subst hc
  (try dsimp only); rw [HM.ite_apply]
  by_cases hi : A.ls.length - g < A.ls.length
  · rw [if_pos (by simp only [decide_eq_true_eq, hkal]; omega)]
    obtain ⟨y, hy⟩ : ∃ y, ks[A.ls.length - g]? = some y := ⟨_, List.getElem?_eq_getElem (by omega)⟩
    refine ⟨ka1002, by rw [add_own]; exact hw2.p1.cell 3, ?_⟩
    (try dsimp only); rw [HM.bind_apply]
    refine idx_own eK_len hw2.p5 hy fun p0 hp0 _ => ?_
    refine ⟨y.1, hp0 0 _ rfl, ?_⟩
    (try dsimp only); rw [HM.bind_apply]
    refine idx_own eK_len hw2.p5 hy fun p hp hst => ?_
    (try dsimp only); rw [HM.bind_apply]
    refine hst 0 _ (bitOp .xor .i64 y.1 1, y.2) _ (by decide) rfl rfl fun h6 hw3 => ?_
    simp only [Sum.elim_inl, Sum.elim_inr, HM.pure_apply]
    exact .mk (g - 1, ks.set (A.ls.length - g) (bitOp .xor .i64 y.1 1, y.2)) (by simp only; omega) ⟨by simp only; rw [wrap_id (by omega) (by omega)]; omega, by simp only; omega, by simp only [List.length_set]; exact hksl, hw3.re [1, 2, 3, 4, 5, 0]⟩
  rw [if_neg (by simp only [decide_eq_true_eq, hkal]; omega)]
  simp only [Sum.elim_inl, Sum.elim_inr, HM.pure_apply]
  clear hi hgl
  have hgk : getK [(A.o, A)] o = A := by rw [← hAo]; exact getK_one A
  have hgs : (mget [(A.o, A)] o).isSome = true := by rw [mget_cons, if_pos hAo]; rfl
  refine ⟨o, by rw [add_own]; exact hw2.cell 0, ?_⟩
  refine bind_callN (Of_spec (b := b) (K := [(A.o, A)]) (o := o) hw2.p3 hb.good fun h7 f k hw3 => ⟨((A.o, A.v, f, k, ()), true, ()), by rw [hgk, hgs]; rfl, ?_⟩)
  rw [hgk] at hw3
  have hw4 : sat h7 (ownS eS 1 f A.fs :: ownS encK 6 k A.ls :: baseA b [(A.o, A)] :: cells x1 #[.int .i64 o, .int .i64 v, .slice sf.a sf.len sf.cap, .slice sl.a sl.len sl.cap] :: cells x5 (cA A sb1002 kb1002).toArray :: ownS eS 1 sb1002 A.fs :: ownS encK 6 kb1002 A.ls :: old h0 :: R) :=
    ((ownM_iff (x := ⟨A, f, k⟩)).1 hw3).re [4, 6, 7, 0, 1, 2, 3, 5, 8, 9, 10] |>.drop.drop.drop
  clear hw3 hw2
  refine new_cells hw4 fun x33 h8 hw5' => ?_
  (try dsimp only); rw [HM.bind_apply]
  refine storeN_all' hw5' rfl rfl fun h9 hw5 => ?_
  refine loadN_cells (ts := [.int .i64, .int .i64, .slc, .slc]) (A.o, A.v, f, k, ()) hw5 rfl ?_
  refine loadN_cells (ts := [.int .i64, .int .i64, .slc, .slc]) (A.o, A.v, sb1002, kb1002, ()) hw5.p5 rfl ?_
  refine bind_call1 (same_spec (a := A) (b := A) hw5 (hw5.p1.own_row eS_len) (hw5.p2.own_row eK_len) ((hw5.re [6, 0, 1, 2, 3, 4, 5]).own_row eS_len) ((hw5.re [7, 0, 1, 2, 3, 4, 5, 6]).own_row eK_len) hlA fun h10 hw6' => ⟨_, rfl, ?_⟩)
  rw [sameA_refl]
  have hw6 : sat h10 (cells x33 (cA A f k).toArray :: ownS eS 1 f A.fs :: ownS encK 6 k A.ls :: baseA b [(A.o, A)] :: cells x1 #[.int .i64 o, .int .i64 v, .slice sf.a sf.len sf.cap, .slice sl.a sl.len sl.cap] :: cells x5 (cA A sb1002 kb1002).toArray :: ownS eS 1 sb1002 A.fs :: ownS encK 6 kb1002 A.ls :: old h0 :: R) := hw6'
  clear hw6' hw5 hw5' hw4
  (try dsimp only); rw [HM.ite_apply, if_neg (by simp)]
  refine ⟨f, by rw [add_own]; exact hw6.cell 2, ?_⟩
  have hfl := hw6.p1.own_len
  (try dsimp only); rw [HM.bind_apply]
  refine loop_gx (γ := Nat × List ByteArray) (hb := fun s => by
      repeat' with_reducible first
        | refine @mono_bind _ _ _ _ ?_ (fun _ => ?_)
        | refine @mono_ite _ _ _ _ ?_ ?_
        | refine @mono_elim _ _ _ _ _ _ (fun _ => ?_) (fun _ => ?_)
        | refine @mono_req _ _ _ ?_
      all_goals infer_instance)
    (fun g c h' => c.1 = (((A.fs.length - g.1 : Nat)) : Int) ∧ g.1 ≤ A.fs.length ∧ g.2.length = A.fs.length ∧ sat h' (cells x33 (cA A f k).toArray :: ownS eS 1 f g.2 :: ownS encK 6 k A.ls :: baseA b [(A.o, A)] :: cells x1 #[.int .i64 o, .int .i64 v, .slice sf.a sf.len sf.cap, .slice sl.a sl.len sl.cap] :: cells x5 (cA A sb1002 kb1002).toArray :: ownS eS 1 sb1002 A.fs :: ownS encK 6 kb1002 A.ls :: old h0 :: R)) (fun g => g.1) (A.fs.length, A.fs)
    ⟨by simp, Nat.le_refl _, rfl, hw6⟩ ?_
  clear hw6
  rintro ⟨g, gs2⟩ ⟨c, ⟨⟩⟩ h11 ⟨hc, hgl, hgsl2, hw6⟩
  simp only at hc hgl hgsl2 hw6
  subst hc
  (try dsimp only); rw [HM.ite_apply]
  by_cases hi : A.fs.length - g < A.fs.length
  · rw [if_pos (by simp only [decide_eq_true_eq, hfl]; omega)]
    obtain ⟨y, hy⟩ : ∃ y, gs2[A.fs.length - g]? = some y := ⟨_, List.getElem?_eq_getElem (by omega)⟩
    refine ⟨f, by rw [add_own]; exact hw6.cell 2, ?_⟩
    (try dsimp only); rw [HM.bind_apply]
    refine idx_own eS_len hw6.p1 hy fun p hp hst => ?_
    (try dsimp only); rw [HM.bind_apply]
    have hst0 := hst 0 (.string (ByteArray.mk #[122, 122])) (ByteArray.mk #[122, 122])
    rw [Go.H.add_zero] at hst0
    refine hst0 _ (by decide) rfl rfl fun h4 hw3 => ?_
    simp only [Sum.elim_inl, Sum.elim_inr, HM.pure_apply]
    exact .mk (g - 1, gs2.set (A.fs.length - g) (ByteArray.mk #[122, 122])) (by simp only; omega) ⟨by simp only; rw [wrap_id (by omega) (by omega)]; omega, by simp only; omega, by simp only [List.length_set]; exact hgsl2, hw3.p1⟩
  rw [if_neg (by simp only [decide_eq_true_eq, hfl]; omega)]
  simp only [Sum.elim_inl, Sum.elim_inr, HM.pure_apply]
  clear hi hgl
  refine bind_call1 (List_spec (b := b) (D := [A]) hw6.p3 hb.own hb.keys hb.back (by simp) fun h12 S ms hms hw7 => ⟨S, rfl, ?_⟩)
  obtain ⟨x, rfl⟩ : ∃ x, ms = [x] := by
    have := congrArg List.length hms
    rw [List.length_map] at this
    match ms, this with
    | [x], _ => exact ⟨x, rfl⟩
  have hxa : x.a = A := by simpa using hms
  have hSl := hw7.own_len
  have hSl1 : S.len = 1 := hSl
  obtain ⟨R8, hw8⟩ : ∃ R8, sat h12 (baseA b [(A.o, A)] :: cells x1 #[.int .i64 o, .int .i64 v, .slice sf.a sf.len sf.cap, .slice sl.a sl.len sl.cap] :: cells x5 (cA A sb1002 kb1002).toArray :: ownS eS 1 sb1002 A.fs :: ownS encK 6 kb1002 A.ls :: old h0 :: ownS encM 4 S [x] :: ownS eS 1 x.f x.a.fs :: ownS encK 6 x.k x.a.ls :: R8) := by
    have h1 := (bigA_cons (f := ownM) (x := x) (l := [])).1 hw7.p1
    have h2 := (ownM_iff (x := x)).1 h1
    exact ⟨_, h2.re [4, 8, 9, 10, 11, 12, 3, 0, 1, 2, 5, 6, 7]⟩
  clear hw7
  (try dsimp only); rw [HM.bind_apply]
  refine loop_gx (γ := Nat) (hb := fun s => by
      repeat' with_reducible first
        | refine @mono_bind _ _ _ _ ?_ (fun _ => ?_)
        | refine @mono_ite _ _ _ _ ?_ ?_
        | refine @mono_elim _ _ _ _ _ _ (fun _ => ?_) (fun _ => ?_)
        | refine @mono_req _ _ _ ?_
      all_goals infer_instance)
    (fun g c h' => (g = 1 ∧ c.1 = 0 ∧ sat h' (baseA b [(A.o, A)] :: cells x1 #[.int .i64 o, .int .i64 v, .slice sf.a sf.len sf.cap, .slice sl.a sl.len sl.cap] :: cells x5 (cA A sb1002 kb1002).toArray :: ownS eS 1 sb1002 A.fs :: ownS encK 6 kb1002 A.ls :: old h0 :: ownS encM 4 S [x] :: ownS eS 1 x.f x.a.fs :: ownS encK 6 x.k x.a.ls :: R8)) ∨
      (g = 0 ∧ c.1 = 1 ∧ ∃ R9, sat h' (baseA b [(A.o, A)] :: cells x1 #[.int .i64 o, .int .i64 v, .slice sf.a sf.len sf.cap, .slice sl.a sl.len sl.cap] :: cells x5 (cA A sb1002 kb1002).toArray :: ownS eS 1 sb1002 A.fs :: ownS encK 6 kb1002 A.ls :: old h0 :: R9))) (fun g => g) 1
    (.inl ⟨rfl, rfl, hw8⟩) ?_
  clear hw8 hw6
  rintro g ⟨c, ⟨⟩⟩ h13 (⟨rfl, hc, hw9⟩ | ⟨rfl, hc, R9, hw9⟩)
  · simp only at hc
    subst hc
    (try dsimp only); rw [HM.ite_apply, if_pos (by simp [hSl1])]
    (try dsimp only); rw [HM.bind_apply]
    refine idx_row (i := 0) ((hw9.re [6, 0, 1, 2, 3, 4, 5]).own_row eM_len) (x := x) rfl fun p hp => ?_
    (try dsimp only); rw [HM.bind_apply]
    refine load_M hp ?_
    refine new_cells hw9 fun x47 h14 hw10' => ?_
    (try dsimp only); rw [HM.bind_apply]
    refine storeN_all' hw10' rfl rfl fun h15 hw10'' => ?_
    have hw10 : sat h15 (cells x47 (encM x).toArray :: ownS encK 6 x.k x.a.ls :: baseA b [(A.o, A)] :: cells x1 #[.int .i64 o, .int .i64 v, .slice sf.a sf.len sf.cap, .slice sl.a sl.len sl.cap] :: cells x5 (cA A sb1002 kb1002).toArray :: ownS eS 1 sb1002 A.fs :: ownS encK 6 kb1002 A.ls :: old h0 :: ownS encM 4 S [x] :: ownS eS 1 x.f x.a.fs :: R8) :=
      hw10''.re [0, 9, 1, 2, 3, 4, 5, 6, 7, 8]
    clear hw10'' hw10' hw9
    have hkl := hw10.p1.own_len
    rw [hxa] at hkl
    refine ⟨x.k, by rw [add_own]; exact hw10.cell 3, ?_⟩
    (try dsimp only); rw [HM.bind_apply]
    refine loop_gx (γ := Nat × List LinkT) (hb := fun s => by
      repeat' with_reducible first
        | refine @mono_bind _ _ _ _ ?_ (fun _ => ?_)
        | refine @mono_ite _ _ _ _ ?_ ?_
        | refine @mono_elim _ _ _ _ _ _ (fun _ => ?_) (fun _ => ?_)
        | refine @mono_req _ _ _ ?_
      all_goals infer_instance)
      (fun g c h' => c.1 = (((A.ls.length - g.1 : Nat)) : Int) ∧ g.1 ≤ A.ls.length ∧ g.2.length = A.ls.length ∧ sat h' (cells x47 (encM x).toArray :: ownS encK 6 x.k g.2 :: baseA b [(A.o, A)] :: cells x1 #[.int .i64 o, .int .i64 v, .slice sf.a sf.len sf.cap, .slice sl.a sl.len sl.cap] :: cells x5 (cA A sb1002 kb1002).toArray :: ownS eS 1 sb1002 A.fs :: ownS encK 6 kb1002 A.ls :: old h0 :: ownS encM 4 S [x] :: ownS eS 1 x.f x.a.fs :: R8)) (fun g => g.1) (A.ls.length, x.a.ls)
      ⟨by simp, Nat.le_refl _, by rw [hxa], hw10⟩ ?_
    clear hw10
    rintro ⟨g, ks2⟩ ⟨c, ⟨⟩⟩ h16 ⟨hc, hgl, hksl2, hw10⟩
    simp only at hc hgl hksl2 hw10
    subst hc
    (try dsimp only); rw [HM.ite_apply]
    by_cases hi : A.ls.length - g < A.ls.length
    · rw [if_pos (by simp only [decide_eq_true_eq, hkl]; omega)]
      obtain ⟨y, hy⟩ : ∃ y, ks2[A.ls.length - g]? = some y := ⟨_, List.getElem?_eq_getElem (by omega)⟩
      refine ⟨x.k, by rw [add_own]; exact hw10.cell 3, ?_⟩
      (try dsimp only); rw [HM.bind_apply]
      refine idx_own eK_len hw10.p1 hy fun p2 hp2 hst => ?_
      (try dsimp only); rw [HM.bind_apply, Go.H.add_zero]
      refine hst 1 _ (y.1, ByteArray.mk #[122, 122], y.2.2) _ (by decide) rfl rfl fun h6 hw3 => ?_
      simp only [Sum.elim_inl, Sum.elim_inr, HM.pure_apply]
      exact .mk (g - 1, ks2.set (A.ls.length - g) (y.1, ByteArray.mk #[122, 122], y.2.2)) (by simp only; omega) ⟨by simp only; rw [wrap_id (by omega) (by omega)]; omega, by simp only; omega, by simp only [List.length_set]; exact hksl2, hw3.p1⟩
    rw [if_neg (by simp only [decide_eq_true_eq, hkl]; omega)]
    simp only [Sum.elim_inl, Sum.elim_inr, HM.pure_apply]
    exact .mk 0 (by decide) (.inr ⟨rfl, rfl, _, hw10.drop.drop⟩)
  simp only at hc
  subst hc
  (try dsimp only); rw [HM.ite_apply, if_neg (by simp [hSl1])]
  simp only [Sum.elim_inl, Sum.elim_inr, HM.pure_apply]
  refine ⟨o, by rw [add_own]; exact hw9.p1.cell 0, ?_⟩
  refine bind_callN (Of_spec (b := b) (K := [(A.o, A)]) (o := o) hw9 hb.good fun h17 f2 k2 hw10' => ⟨((A.o, A.v, f2, k2, ()), true, ()), by rw [hgk, hgs]; rfl, ?_⟩)
  rw [hgk] at hw10'
  have hw10 := (ownM_iff (x := ⟨A, f2, k2⟩)).1 hw10'
  refine new_cells hw10 fun x55 h18 hw11' => ?_
  (try dsimp only); rw [HM.bind_apply]
  refine storeN_all' hw11' rfl rfl fun h19 hw11 => ?_
  refine bind_cut (fun z h' => z.1 = true ∧ ∃ R', sat h' (old h0 :: R')) ?_ ?_
  · (try dsimp only); rw [HM.ite_apply, if_pos rfl]
    refine loadN_cells (ts := [.int .i64, .int .i64, .slc, .slc]) (A.o, A.v, f2, k2, ()) hw11 rfl ?_
    refine loadN_cells (ts := [.int .i64, .int .i64, .slc, .slc]) (A.o, A.v, sb1002, kb1002, ()) hw11.p5 rfl ?_
    refine bind_call1 (same_spec (a := A) (b := A) hw11 (hw11.p1.own_row eS_len) (hw11.p2.own_row eK_len) ((hw11.re [6, 0, 1, 2, 3, 4, 5]).own_row eS_len) ((hw11.re [7, 0, 1, 2, 3, 4, 5, 6]).own_row eK_len) hlA fun h20 hw12 => ⟨_, rfl, ?_⟩)
    rw [sameA_refl]
    exact ⟨rfl, _, hw12.re [8, 0, 1, 2, 3, 4, 5, 6, 7]⟩
  rintro ⟨z, ⟨⟩⟩ h20 ⟨hz, R10, hw12⟩
  simp only at hz
  subst hz
  exact hq _ _ hw12

end Go.Proofs.YtmdagnoknmfhcaaDoor
