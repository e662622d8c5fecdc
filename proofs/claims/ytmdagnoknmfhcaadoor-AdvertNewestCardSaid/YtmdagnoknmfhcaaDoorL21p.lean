/-
  L21p: law AdvertPlays over heaps (steps written by tools/gen_l21b.py).
-/
import Derived.Test.YtmdagnoknmfhcaaDoorCrba
import Derived.Test.YtmdagnoknmfhcaaDoorL21
import Derived.Test.YtmdagnoknmfhcaaDoorR21
namespace Go.Proofs.YtmdagnoknmfhcaaDoor
open Go.H Go.Proofs Go.Lib
set_option linter.unusedSimpArgs false
set_option linter.unusedVariables false
set_option synthInstance.maxSize 100000
set_option synthInstance.maxHeartbeats 400000
set_option maxRecDepth 100000

theorem sortI_asc {l l' : List Int} (hp : l.Perm l') (h : l'.Pairwise (· < ·)) : sortI l = l' := by
  refine List.Perm.eq_of_pairwise (le := fun a b : Int => a ≤ b) (fun a b _ _ h1 h2 => Int.le_antisymm h1 h2) ?_ (h.imp fun {a b} hab => Int.le_of_lt hab) ((List.mergeSort_perm l _).trans hp)
  have := List.pairwise_mergeSort (le := fun x y : Int => decide (x ≤ y)) (fun a b c h1 h2 => by simp at *; omega) (fun a b => by simp; omega) l
  exact this.imp fun {a b} hab => by simpa using hab

/-- the program's base and the document's -/
structure Bas (K : List (Int × AdvT)) (D : List AdvT) : Prop where
  rel : Rel ltI (fun a : AdvT => a.o) K D
  good : ∀ e ∈ K, goodA e.2 = true
theorem Bas.nil : Bas [] [] := ⟨Rel.nil, fun e he => by cases he⟩
theorem mset_mem {K V : Type} [DecidableEq K] {l : List (K × V)} {k : K} {v : V} {e : K × V} : e ∈ mset l k v → e = (k, v) ∨ e ∈ l := by
  induction l with
  | nil => intro h; exact .inl (by simpa [mset] using h)
  | cons p l ih =>
    obtain ⟨a, b⟩ := p
    intro h
    unfold mset at h
    split at h
    · rcases List.mem_cons.1 h with h | h
      · exact .inl h
      · exact .inr (List.mem_cons_of_mem _ h)
    · rcases List.mem_cons.1 h with h | h
      · exact .inr (by rw [h]; exact List.mem_cons_self ..)
      · rcases ih h with h | h
        · exact .inl h
        · exact .inr (List.mem_cons_of_mem _ h)
theorem Bas.asc {K : List (Int × AdvT)} {D : List AdvT} (hb : Bas K D) : D.Pairwise fun p q => p.o < q.o := hb.rel.asc
theorem Bas.got {K : List (Int × AdvT)} {D : List AdvT} (hb : Bas K D) (o : Int) : mget K o = D.find? fun x => decide (x.o = o) := hb.rel.get ordI o
theorem Bas.learn {K : List (Int × AdvT)} {D : List AdvT} (hb : Bas K D) (a : AdvT) : (learnD D a).1 = (learnK K a).1 ∧ Bas (learnK K a).2 (learnD D a).2 ∧ (learnD D a).2.length ≤ D.length + 1 := by
  unfold learnK learnD
  cases hg : goodA a with
  | false => exact ⟨rfl, hb, Nat.le_succ _⟩
  | true =>
    have e0 : ¬ (true = false) := by simp
    simp only [if_neg e0]
    have hv := (good_facts hg).v
    have hcond : (((D.find? fun x => decide (x.o = a.o)).any fun y => decide (a.v ≤ y.v)) = true) ↔ a.v ≤ (getK K a.o).v := by
      unfold getK
      rw [hb.got a.o]
      cases (D.find? fun x => decide (x.o = a.o)) with
      | none => simp [zAdv]; omega
      | some y => simp
    by_cases hc : a.v ≤ (getK K a.o).v
    · rw [if_pos hc, if_pos (hcond.2 hc)]
      exact ⟨rfl, hb, Nat.le_succ _⟩
    · rw [if_neg hc, if_neg fun e => hc (hcond.1 e)]
      refine ⟨rfl, ⟨?_, fun e he => ?_⟩, ?_⟩
      · exact hb.rel.set ordI a
      · rcases mset_mem he with rfl | he
        · exact hg
        · exact hb.good e he
      · simp only
        rw [(insS_perm ltI (fun m : AdvT => m.o) a _).length_eq, List.length_cons]
        have := List.length_filter_le (otherA a) D
        omega
theorem learnK_code (K : List (Int × AdvT)) (a : AdvT) : IntKind.wrap .i64 (learnK K a).1.2 = (learnK K a).1.2 := by
  unfold learnK
  split
  · rfl
  split <;> rfl
theorem Bas.keys {K : List (Int × AdvT)} {D : List AdvT} (hb : Bas K D) : sortI (K.map (·.1)) = D.map (·.o) :=
  sortI_asc hb.rel.keys (by rw [List.pairwise_map]; exact hb.asc)
theorem Bas.own {K : List (Int × AdvT)} {D : List AdvT} (hb : Bas K D) : ∀ e ∈ K, goodA e.2 = true ∧ e.1 = e.2.o := fun e he => ⟨hb.good e he, (hb.rel.kk e he).symm⟩
theorem Bas.back {K : List (Int × AdvT)} {D : List AdvT} (hb : Bas K D) : ∀ d ∈ D, mget K d.o = some d := fun d hd => hb.rel.of_mem ordI hd
theorem Bas.goodD {K : List (Int × AdvT)} {D : List AdvT} (hb : Bas K D) {d : AdvT} (hd : d ∈ D) : goodA d = true := hb.good (d.o, d) (mget_mem (hb.back d hd))

variable {h h0 : Heap} {R : List Asn}

theorem rows_of {ms : List MAdv} {x : MAdv} (hx : x ∈ ms) (hs : sat h (bigA ownM ms :: R)) : RowAt eS 1 h x.f x.a.fs ∧ RowAt encK 6 h x.k x.a.ls := by
  obtain ⟨R', h1⟩ := bigA_mem hx hs
  have h2 := ownM_iff.1 h1
  exact ⟨h2.own_row eS_len, h2.p1.own_row eK_len⟩

theorem idx_two {ms ms2 : List MAdv} {D : List AdvT} (h1 : ms.map (·.a) = D) (h2 : ms2.map (·.a) = D) {i : Nat} {d : AdvT} (hd : D[i]? = some d) : ∃ x y, ms[i]? = some x ∧ ms2[i]? = some y ∧ x.a = d ∧ y.a = d := by
  rw [← h1, List.getElem?_map, Option.map_eq_some_iff] at hd
  obtain ⟨x, hx, hxa⟩ := hd
  have hd2 : D[i]? = some d := by rw [← h1, List.getElem?_map, hx]; exact congrArg some hxa
  rw [← h2, List.getElem?_map, Option.map_eq_some_iff] at hd2
  obtain ⟨y, hy, hya⟩ := hd2
  exact ⟨x, y, hx, hy, hxa, hya⟩

set_option maxHeartbeats 4000000 in
theorem AdvertPlays_spec {s : Slc} {xs : List Adv21} {o : Int} (hs : sat h (old h0 :: R)) (ht : TP h0) (hr : RowAt encA21 4 h0 s xs) (hx : ∀ x ∈ xs, goodA21 h0 x) {Q : Value → Heap → Prop} (hq : ∀ h' R', sat h' (old h0 :: R') → Q (.bool true) h') :
    HCalls Tryd.prog 9 #[.slice s.a s.len s.cap, .int .i64 o] h Q := by
  refine law21_AdvertPlays_calls s o h Q ?_
  unfold law21_AdvertPlays
  have hsl := hr.1
  refine bind_call1 (baseNew_spec hs fun b h1 hs1 => ⟨some ⟨b, 0, none⟩, rfl, ?_⟩)
  refine new_cells hs1 fun r h2 hs2' => ?_
  have hs2 : sat h2 (old h0 :: baseA b [] :: docA r [] :: R) := by
    have := (docA_iff (r := r) (D := [])).2 ⟨⟨none, 0, 0⟩, [], rfl, ((bigA_nil (f := ownM)).2 (ownS_nil (enc := encM) (size := 4) hs2')).re [2, 1, 0]⟩
    exact this.re [2, 1, 0]
  clear hs2' hs1 hs
  refine bind_call1 (wakes_spec hs2 ht fun h3 hs3' => ⟨true, rfl, ?_⟩)
  have hs3 : sat h3 (baseA b [] :: docA r [] :: old h0 :: R) := hs3'.re [1, 2, 0]
  clear hs3' hs2
  (try dsimp only); rw [HM.ite_apply, if_neg (by simp)]
  (try dsimp only); rw [HM.bind_apply]
  rw [show (if (40 : Int) < ((s.len : Nat) : Int) then (40 : Int) else ((s.len : Nat) : Int)) = ((min 40 xs.length : Nat) : Int) by rw [hsl]; split <;> omega]
  refine slice_row hr (n := min 40 xs.length) (Nat.min_le_right ..) fun s1 hs1r => ?_
  rw [take_cut] at hs1r
  have hy : ∀ x ∈ xs.take 40, goodA21 h0 x := fun x hm => hx x (List.mem_of_mem_take hm)
  have hyl : (xs.take 40).length ≤ 40 := by rw [List.length_take]; omega
  generalize xs.take 40 = ys at hs1r hy hyl
  have hs1l := hs1r.1
  (try dsimp only); rw [HM.bind_apply]
  refine loop_gx (γ := Nat) (hb := fun s => by
      repeat' with_reducible first
        | refine @mono_bind _ _ _ _ ?_ (fun _ => ?_)
        | refine @mono_ite _ _ _ _ ?_ ?_
        | refine @mono_elim _ _ _ _ _ _ (fun _ => ?_) (fun _ => ?_)
        | refine @mono_req _ _ _ ?_
      all_goals infer_instance)
    (fun g c h' => c.1 = (((ys.length - g : Nat)) : Int) ∧ g ≤ ys.length ∧ ∃ K D R', Bas K D ∧ D.length ≤ ys.length - g ∧ sat h' (baseA b K :: docA r D :: old h0 :: R')) (fun g => g) ys.length
    ⟨by simp, Nat.le_refl _, [], [], R, Bas.nil, by simp, hs3⟩ ?_
  clear hs3
  rintro g ⟨c, ⟨⟩⟩ h4 ⟨hc, hg, K, D, R4, hb, hDl, hs4⟩
  simp only at hc
  subst hc
  (try dsimp only); rw [HM.ite_apply]
  by_cases hi : ys.length - g < ys.length
  · rw [if_pos (by simp only [decide_eq_true_eq, hs1l]; omega)]
    obtain ⟨x, hxx⟩ : ∃ x, ys[ys.length - g]? = some x := ⟨_, List.getElem?_eq_getElem hi⟩
    have hxg := hy x (List.mem_of_getElem? hxx)
    obtain ⟨o1, v1, ⟨f1, fs1⟩, ⟨k1, ls1⟩⟩ := x
    obtain ⟨A, hA⟩ : ∃ A, cutA o1 v1 fs1 ls1 = A := ⟨_, rfl⟩
    have hza : szA A := by rw [← hA]; exact cut_sz hxg
    (try dsimp only); rw [HM.bind_apply]
    refine idx_row hs1r hxx fun p hp => ?_
    (try dsimp only); rw [HM.bind_apply]
    refine loadN_of (ts := [.int .i64, .int .i64, .slc, .slc]) (o1, v1, f1, k1, ()) (fun i v hv => hs4.p2.old_cell (hp i v hv)) ?_
    refine new_cells hs4 fun x9 h101 hs101 => ?_
    (try dsimp only); rw [HM.bind_apply]
    refine storeN_all' hs101 rfl rfl fun h102 hs102 => ?_
    refine loadN_cells (ts := [.int .i64, .int .i64, .slc, .slc]) (o1, v1, f1, k1, ()) hs102 rfl ?_
    refine bind_callN (made_of hA hs102.p3 hxg.2.2.1.row hxg.2.2.2.row fun h103 sa103 ka103 sb103 kb103 hs103 => ⟨((A.o, A.v, sa103, ka103, ()), (A.o, A.v, sb103, kb103, ()), ()), rfl, ?_⟩)
    refine new_cells hs103 fun x12 h104 hs104 => ?_
    refine new_cells hs104 fun x13 h105 hs105 => ?_
    (try dsimp only); rw [HM.bind_apply]
    refine storeN_all' hs105.p1 rfl rfl fun h106 hs106 => ?_
    (try dsimp only); rw [HM.bind_apply]
    refine storeN_all' hs106.p1 rfl rfl fun h107 hs107 => ?_
    refine loadN_cells (ts := [.int .i64, .int .i64, .slc, .slc]) (A.o, A.v, sa103, ka103, ()) hs107.p1 rfl ?_
    refine bind_callN (Learn_spec (b := b) (K := K) (a := A) (hs107.re [8, 2, 3, 6, 0, 1, 4, 5, 7]) ht hza fun h108 hs108 => ⟨((learnK K A).1.1, (learnK K A).1.2, ()), rfl, ?_⟩)
    refine loadN_cells (ts := [.int .i64, .int .i64, .slc, .slc]) (A.o, A.v, sb103, kb103, ()) hs108.p4 rfl ?_
    refine bind_callN (rLearn_spec (r := r) (D := D) (a := A) (hs108.re [9, 6, 7, 0, 1, 2, 3, 4, 5, 8]) hza (by omega) hb.asc fun h109 hs109 => ⟨((learnD D A).1.1, (learnD D A).1.2, ()), rfl, ?_⟩)
    have hw0 := (hs109.re [2, 3, 5, 6, 7, 1, 0, 4]).drop.drop.drop.drop.drop
    obtain ⟨hcode, hb', hDl'⟩ := hb.learn A
    have hwc := learnK_code K A
    rw [hcode]
    generalize (learnK K A).1 = code at hwc
    generalize (learnK K A).2 = K' at hw0 hb'
    generalize (learnD D A).2 = D' at hw0 hb' hDl'
    refine bind_cut (fun z h' => sat h' (baseA b K' :: docA r D' :: old h0 :: R4) ∧ z.1 = false) ?_ ?_
    · (try dsimp only); rw [HM.ite_apply, if_neg (by simp)]
      exact ⟨hw0, by simp [hwc]⟩
    rintro ⟨z, ⟨⟩⟩ h5 ⟨hw1, hz⟩
    simp only at hz
    subst hz
    clear hw0
    (try dsimp only); rw [HM.ite_apply, if_neg (by simp)]
    refine bind_call1 (List_spec (b := b) (D := D') hw1 hb'.own hb'.keys hb'.back (by omega) fun h6 S ms hms hw2 => ⟨S, rfl, ?_⟩)
    obtain ⟨S2, ms2, hms2, hw3⟩ := docA_iff.1 (hw2.re [3, 0, 1, 2])
    have hw4 : sat h6 (bigA ownM ms :: bigA ownM ms2 :: ownS encM 4 S ms :: ownS encM 4 S2 ms2 :: cells r #[.slice S2.a S2.len S2.cap] :: baseA b K' :: old h0 :: R4) := hw3.re [4, 2, 3, 1, 0, 5]
    clear hw3 hw2 hw1
    have hl1 : S.len = D'.length := by have := hw4.p2.own_len; rw [this, ← hms, List.length_map]
    have hl2 : S2.len = D'.length := by have := hw4.p3.own_len; rw [this, ← hms2, List.length_map]
    refine ⟨_, rfl, S2, by rw [add_own]; exact hw4.p4.cell 0, ?_⟩
    (try dsimp only); rw [HM.ite_apply, if_neg (by simp [hl1, hl2])]
    (try dsimp only); rw [HM.bind_apply]
    refine loop_gx (γ := Nat) (hb := fun s => by
      repeat' with_reducible first
        | refine @mono_bind _ _ _ _ ?_ (fun _ => ?_)
        | refine @mono_ite _ _ _ _ ?_ ?_
        | refine @mono_elim _ _ _ _ _ _ (fun _ => ?_) (fun _ => ?_)
        | refine @mono_req _ _ _ ?_
      all_goals infer_instance)
      (fun g2 c h' => c.1 = (((D'.length - g2 : Nat)) : Int) ∧ g2 ≤ D'.length ∧ sat h' (bigA ownM ms :: bigA ownM ms2 :: ownS encM 4 S ms :: ownS encM 4 S2 ms2 :: cells r #[.slice S2.a S2.len S2.cap] :: baseA b K' :: old h0 :: R4)) (fun g => g) D'.length
      ⟨by simp, Nat.le_refl _, hw4⟩ ?_
    clear hw4
    rintro g2 ⟨c, ⟨⟩⟩ h7 ⟨hc, hg2, hw4⟩
    simp only at hc
    subst hc
    (try dsimp only); rw [HM.ite_apply]
    by_cases hi2 : D'.length - g2 < D'.length
    · rw [if_pos (by simp only [decide_eq_true_eq, hl1]; omega)]
      obtain ⟨d, hd⟩ : ∃ d, D'[D'.length - g2]? = some d := ⟨_, List.getElem?_eq_getElem hi2⟩
      obtain ⟨x, y, hxm, hym, hxa, hya⟩ := idx_two hms hms2 hd
      have hok := good_okN (hb'.goodD (List.mem_of_getElem? hd))
      (try dsimp only); rw [HM.bind_apply]
      refine idx_row (hw4.p2.own_row eM_len) hxm fun p hp => ?_
      (try dsimp only); rw [HM.bind_apply]
      refine load_M hp ?_
      refine ⟨_, rfl, S2, by rw [add_own]; exact hw4.p4.cell 0, ?_⟩
      (try dsimp only); rw [HM.bind_apply]
      refine idx_row (hw4.p3.own_row eM_len) hym fun p2 hp2 => ?_
      (try dsimp only); rw [HM.bind_apply]
      refine load_M hp2 ?_
      have rx := rows_of (List.mem_of_getElem? hxm) hw4
      have ry := rows_of (List.mem_of_getElem? hym) hw4.p1
      refine bind_call1 (same_spec (a := x.a) (b := y.a) hw4 rx.1 rx.2 ry.1 ry.2 (by rw [hxa]; exact hok) fun h8 hw5 => ⟨_, rfl, ?_⟩)
      rw [hxa, hya, sameA_refl]
      (try dsimp only); rw [HM.ite_apply, if_neg (by simp)]
      simp only [Sum.elim_inl, Sum.elim_inr, HM.pure_apply]
      exact .mk (g2 - 1) (by omega) ⟨by simp only; rw [wrap_id (by omega) (by omega)]; omega, by omega, hw5⟩
    · rw [if_neg (by simp only [decide_eq_true_eq, hl1]; omega)]
      simp only [Sum.elim_inl, Sum.elim_inr, HM.pure_apply]
      refine .mk (g - 1) (by omega) ⟨by simp only; rw [wrap_id (by omega) (by omega)]; omega, by omega, K', D', bigA ownM ms :: ownS encM 4 S ms :: R4, hb', by omega, ?_⟩
      · have h9 := docA_iff.2 ⟨S2, ms2, hms2, (hw4.re [4, 3, 1, 5, 6, 0, 2])⟩
        exact h9.p1
  rw [if_neg (by simp only [decide_eq_true_eq, hs1l]; omega)]
  simp only [Sum.elim_inl, Sum.elim_inr, HM.pure_apply]
  have hok : okN (getK K o) := by
    unfold getK
    cases hm : mget K o with
    | none => exact zok
    | some a => exact good_okN (hb.good _ (mget_mem hm))
  refine bind_callN (Of_spec (b := b) (o := o) hs4 hb.good fun h5 f k hs5 => ⟨(((getK K o).o, (getK K o).v, f, k, ()), (mget K o).isSome, ()), rfl, ?_⟩)
  refine new_cells hs5 fun x32 h6 hs6 => ?_
  (try dsimp only); rw [HM.bind_apply]
  refine storeN_all' hs6 rfl rfl fun h7 hs7 => ?_
  obtain ⟨S2, ms2, hms2, hs8⟩ := docA_iff.1 hs7.p3
  refine bind_callN (rOf_raw (o := o) hs8 (by have : ms2.length = D.length := by rw [← hms2, List.length_map]
                                              omega) fun h9 hs9 => ⟨(((ms2.find? fun x => decide (x.a.o = o)).getD zMA).t, (ms2.find? fun x => decide (x.a.o = o)).isSome, ()), rfl, ?_⟩)
  have hget : mget K o = (ms2.find? fun x => decide (x.a.o = o)).map (·.a) := by
    rw [hb.got o, ← hms2, List.find?_map]
    rfl
  have hbig : ∃ x : MAdv, x = (ms2.find? fun x => decide (x.a.o = o)).getD zMA ∧ x.a = getK K o ∧ (x = zMA ∨ x ∈ ms2) := by
    refine ⟨_, rfl, ?_, ?_⟩
    · unfold getK
      rw [hget]
      cases (ms2.find? fun x => decide (x.a.o = o)) <;> rfl
    · cases hf : (ms2.find? fun x => decide (x.a.o = o)) with
      | none => exact .inl rfl
      | some x => exact .inr (List.mem_of_find?_eq_some hf)
  obtain ⟨x, hxe, hxa, hxm⟩ := hbig
  have hsome : (mget K o).isSome = (ms2.find? fun x => decide (x.a.o = o)).isSome := by rw [hget, Option.isSome_map]
  rw [hsome, ← hxe]
  generalize (ms2.find? fun x => decide (x.a.o = o)).isSome = bb
  refine new_cells hs9 fun x34 h10 hs10 => ?_
  (try dsimp only); rw [HM.bind_apply]
  refine storeN_all' hs10 rfl rfl fun h11 hs11 => ?_
  refine bind_cut (fun z h' => z.1 = true ∧ ∃ R', sat h' (old h0 :: R')) ?_ ?_
  · (try dsimp only); rw [HM.ite_apply, if_pos (by simp)]
    refine loadN_cells (ts := [.int .i64, .int .i64, .slc, .slc]) ((getK K o).o, (getK K o).v, f, k, ()) hs11.p4 rfl ?_
    refine loadN_cells (ts := [.int .i64, .int .i64, .slc, .slc]) x.t hs11 rfl ?_
    have hown := ownM_iff.1 (hs11.p5)
    have hbg := hs11.p3
    have rx : RowAt eS 1 h11 x.f x.a.fs ∧ RowAt encK 6 h11 x.k x.a.ls := by
      rcases hxm with rfl | hxm
      · have := ownM_iff.1 (ownM_z hs11)
        exact ⟨this.own_row eS_len, this.p1.own_row eK_len⟩
      · exact rows_of hxm hbg
    refine bind_call1 (same_spec (a := getK K o) (b := x.a) hs11 (hown.own_row eS_len) (hown.p1.own_row eK_len) rx.1 rx.2 hok fun h12 hs12 => ⟨_, rfl, ?_⟩)
    rw [hxa, sameA_refl]
    exact ⟨rfl, _, hs12.re [7, 0, 1, 2, 3, 4, 5, 6]⟩
  rintro ⟨z, ⟨⟩⟩ h12 ⟨hz, R9, hw⟩
  simp only at hz
  subst hz
  exact hq _ _ hw

end Go.Proofs.YtmdagnoknmfhcaaDoor
