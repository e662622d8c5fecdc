/-
  L21n: law AdvertNewest over heaps (steps written by tools/gen_l21n.py).
-/
import Derived.Test.YtmdagnoknmfhcaaDoorL21p
namespace Go.Proofs.YtmdagnoknmfhcaaDoor
open Go.H Go.Proofs Go.Lib
set_option linter.unusedSimpArgs false
set_option linter.unusedVariables false
set_option synthInstance.maxSize 100000
set_option synthInstance.maxHeartbeats 400000
set_option maxRecDepth 100000

/-- the newest versions -/
def verK (K : List (Int × AdvT)) : List (Int × Int) := K.map fun e => (e.1, e.2.v)
abbrev kI64 : Kind := .one (.int .i64)
theorem verK_get (K : List (Int × AdvT)) (o : Int) : (mget (verK K) o).getD 0 = (getK K o).v := by
  unfold verK getK
  rw [mget_map (fun a : AdvT => a.v)]
  cases mget K o <;> rfl
theorem mset_same {K V : Type} [DecidableEq K] : ∀ {l : List (K × V)} {k : K} {v : V}, mget l k = some v → mset l k v = l
  | [], k, v, h => by simp at h
  | (a, b) :: l, k, v, h => by
    rw [mget_cons] at h
    unfold mset
    split
    · rename_i e
      rw [if_pos e] at h
      cases h
      rw [e]
    · rename_i e
      rw [if_neg e] at h
      rw [mset_same h]
theorem verK_learn {K : List (Int × AdvT)} {a : AdvT} (hg : goodA a = true) : mset (verK K) a.o (if (getK K a.o).v < a.v then a.v else (getK K a.o).v) = verK (learnK K a).2 := by
  unfold learnK
  have e0 : ¬ (true = false) := by simp
  rw [hg]
  simp only [if_neg e0]
  by_cases hc : a.v ≤ (getK K a.o).v
  · rw [if_pos hc, if_neg (by omega)]
    have hv := (good_facts hg).v
    cases hm : mget K a.o with
    | none =>
      unfold getK at hc
      rw [hm] at hc
      simp only [Option.getD_none, zAdv] at hc
      omega
    | some y =>
      refine mset_same ?_
      unfold verK getK
      rw [mget_map (fun a : AdvT => a.v), hm]
      rfl
  · rw [if_neg hc, if_pos (by omega)]
    unfold verK
    rw [← mset_map (fun a : AdvT => a.v)]

variable {h h0 : Heap} {R : List Asn}

set_option maxHeartbeats 4000000 in
theorem AdvertNewest_spec {s t : Slc} {xs : List Adv21} {os : List Int} (hs : sat h (old h0 :: R)) (ht : TP h0) (hr : RowAt encA21 4 h0 s xs) (hx : ∀ x ∈ xs, goodA21 h0 x) (hro : RowAt (fun x : Int => [Value.int .i64 x]) 1 h0 t os)
    {Q : Value → Heap → Prop} (hq : ∀ h' R', sat h' (old h0 :: R') → Q (.bool true) h') :
    HCalls Tryd.prog 8 #[.slice s.a s.len s.cap, .slice t.a t.len t.cap] h Q := by
  refine law21_AdvertNewest_calls s t h Q ?_
  unfold law21_AdvertNewest
  have hsl := hr.1
  have htl := hro.1
  (try dsimp only); rw [HM.bind_apply]
  rw [show (if (20 : Int) < ((s.len : Nat) : Int) then (20 : Int) else ((s.len : Nat) : Int)) = ((min 20 xs.length : Nat) : Int) by rw [hsl]; split <;> omega]
  refine slice_row hr (n := min 20 xs.length) (Nat.min_le_right ..) fun s1 hs1r => ?_
  rw [take_cut] at hs1r
  have hy : ∀ x ∈ xs.take 20, goodA21 h0 x := fun x hm => hx x (List.mem_of_mem_take hm)
  have hyl : (xs.take 20).length ≤ 20 := by rw [List.length_take]; omega
  generalize xs.take 20 = ys at hs1r hy hyl
  have hs1l := hs1r.1
  refine bind_call1 (baseNew_spec hs fun b h1 hs1 => ⟨some ⟨b, 0, none⟩, rfl, ?_⟩)
  (try dsimp only); rw [HM.bind_apply]
  refine new_map (ek := eKA) (ev := Kind.val kI64) hs1 fun m h2 hs2' => ?_
  have hs2 : sat h2 (baseA b [] :: mapA eKA (Kind.val kI64) m (verK []) :: old h0 :: R) := hs2'.p1
  clear hs2' hs1 hs
  (try dsimp only); rw [HM.bind_apply]
  rw [show (if (60 : Int) < ((t.len : Nat) : Int) then (60 : Int) else ((t.len : Nat) : Int)) = ((min 60 os.length : Nat) : Int) by rw [htl]; split <;> omega]
  refine slice_row hro (n := min 60 os.length) (Nat.min_le_right ..) fun t1 ht1r => ?_
  rw [take_cut] at ht1r
  have hol : (os.take 60).length ≤ 60 := by rw [List.length_take]; omega
  generalize os.take 60 = us at ht1r hol
  have ht1l := ht1r.1
  refine bind_cut (fun z h' => (∃ c, z = .inl c) ∧ ∃ K D R', Bas K D ∧ D.length ≤ 60 ∧ sat h' (baseA b K :: mapA eKA (Kind.val kI64) m (verK K) :: old h0 :: R')) ?_ ?_
  · refine loop_gx (γ := Nat) (hb := fun s => by
      repeat' with_reducible first
        | refine @mono_bind _ _ _ _ ?_ (fun _ => ?_)
        | refine @mono_ite _ _ _ _ ?_ ?_
        | refine @mono_elim _ _ _ _ _ _ (fun _ => ?_) (fun _ => ?_)
        | refine @mono_req _ _ _ ?_
      all_goals infer_instance)
      (fun g c h' => c.1 = (((us.length - g : Nat)) : Int) ∧ g ≤ us.length ∧ ∃ K D R', Bas K D ∧ D.length ≤ us.length - g ∧ sat h' (baseA b K :: mapA eKA (Kind.val kI64) m (verK K) :: old h0 :: R')) (fun g => g) us.length
      ⟨by simp, Nat.le_refl _, [], [], R, Bas.nil, by simp, hs2⟩ ?_
    clear hs2
    rintro g ⟨c, ⟨⟩⟩ h4 ⟨hc, hg, K, D, R4, hb, hDl, hs4⟩
    simp only at hc
    subst hc
    (try dsimp only); rw [HM.ite_apply]
    by_cases hi : us.length - g < us.length
    rotate_left
    · rw [if_neg (by simp only [decide_eq_true_eq, ht1l]; omega)]
      simp only [HM.pure_apply]
      exact ⟨⟨_, rfl⟩, K, D, R4, hb, by omega, hs4⟩
    rw [if_pos (by simp only [decide_eq_true_eq, ht1l]; omega)]
    obtain ⟨u, hu⟩ : ∃ u, us[us.length - g]? = some u := ⟨_, List.getElem?_eq_getElem hi⟩
    (try dsimp only); rw [HM.bind_apply]
    (try dsimp only); rw [HM.bind_apply]
    refine idx_row ht1r hu fun p hp => ?_
    refine ⟨u, by have := hp 0 _ rfl; rw [Go.H.add_zero] at this; exact hs4.p2.old_cell this, ?_⟩
    (try dsimp only); rw [HM.ite_apply]
    by_cases hy0 : ys.length = 0
    · rw [if_pos (by simp [hs1l, hy0])]
      simp only [HM.pure_apply, Sum.elim_inl, Sum.elim_inr]
      exact ⟨⟨_, rfl⟩, K, D, R4, hb, by omega, hs4⟩
    rw [if_neg (by simp only [hs1l, beq_iff_eq]; omega)]
    refine ⟨by rw [hs1l]; omega, ?_⟩
    obtain ⟨n, hn, hnk⟩ : ∃ n : Nat, n < ys.length ∧ Int.tmod (if 0 < u then u else 0) ((s1.len : Nat) : Int) = (n : Int) := by
      rw [hs1l]
      refine ⟨(Int.tmod (if 0 < u then u else 0) ((ys.length : Nat) : Int)).toNat, ?_, ?_⟩
      · have := Int.tmod_lt_of_pos (if 0 < u then u else 0) (b := ((ys.length : Nat) : Int)) (by omega)
        omega
      · have := Int.tmod_nonneg ((ys.length : Nat) : Int) (a := if 0 < u then u else 0) (by split <;> omega)
        omega
    obtain ⟨x, hxx⟩ : ∃ x, ys[n]? = some x := ⟨_, List.getElem?_eq_getElem hn⟩
    have hxg := hy x (List.mem_of_getElem? hxx)
    obtain ⟨o1, v1, ⟨f1, fs1⟩, ⟨k1, ls1⟩⟩ := x
    obtain ⟨A, hA⟩ : ∃ A, cutA o1 v1 fs1 ls1 = A := ⟨_, rfl⟩
    have hza : szA A := by rw [← hA]; exact cut_sz hxg
    (try dsimp only); rw [HM.bind_apply, hnk]
    refine idx_row hs1r hxx fun p2 hp2 => ?_
    (try dsimp only); rw [HM.bind_apply]
    refine loadN_of (ts := [.int .i64, .int .i64, .slc, .slc]) (o1, v1, f1, k1, ()) (fun i v hv => hs4.p2.old_cell (hp2 i v hv)) ?_
    refine bind_callN (made_of hA hs4.p2 hxg.2.2.1.row hxg.2.2.2.row fun h101 sa101 ka101 sb101 kb101 hs101 => ⟨((A.o, A.v, sa101, ka101, ()), (A.o, A.v, sb101, kb101, ()), ()), rfl, ?_⟩)
    refine new_cells hs101 fun x13 h102 hs102 => ?_
    refine new_cells hs102 fun x14 h103 hs103 => ?_
    (try dsimp only); rw [HM.bind_apply]
    refine storeN_all' hs103.p1 rfl rfl fun h104 hs104 => ?_
    (try dsimp only); rw [HM.bind_apply]
    refine storeN_all' hs104.p1 rfl rfl fun h105 hs105 => ?_
    refine loadN_cells (ts := [.int .i64, .int .i64, .slc, .slc]) (A.o, A.v, sa101, ka101, ()) hs105.p1 rfl ?_
    refine bind_callN (Learn_spec (b := b) (K := K) (a := A) (hs105.re [7, 2, 3, 6, 0, 1, 4, 5]) ht hza fun h106 hs106 => ⟨((learnK K A).1.1, (learnK K A).1.2, ()), rfl, ?_⟩)
    have hw0 := (hs106.re [0, 8, 3, 5, 1, 2, 4, 6, 7])
    obtain ⟨hcode, hb', hDl'⟩ := hb.learn A
    have hver := verK_learn (K := K) (a := A)
    have hlk : (learnK K A).1 = if goodA A = false then (false, 129) else (decide ((getK K A.o).v < A.v), 0) := by
      unfold learnK
      cases goodA A with
      | false => rfl
      | true =>
        have e0 : ¬ (true = false) := by simp
        simp only [if_neg e0]
        by_cases hc : A.v ≤ (getK K A.o).v
        · rw [if_pos hc, decide_eq_false (by omega)]
        · rw [if_neg hc, decide_eq_true (by omega)]
    have hlk2 : goodA A = false → (learnK K A).2 = K := by
      intro e
      unfold learnK
      rw [if_pos e]
    generalize hK' : (learnK K A).2 = K' at hw0 hb' hver hlk2
    rw [hlk]
    (try dsimp only); rw [HM.ite_apply]
    cases hga : goodA A with
    | false =>
      rw [if_pos (by rfl)]
      simp only [HM.pure_apply, Sum.elim_inl, Sum.elim_inr]
      rw [hlk2 hga] at hw0 hb'
      exact .mk (g - 1) (by omega) ⟨by simp only; rw [wrap_id (by omega) (by omega)]; omega, by omega, K, _, _, hb', by omega, hw0⟩
    | true =>
      have e0 : ¬ (true = false) := by simp
      rw [if_neg (by simp)]
      simp only [if_neg e0]
      refine ⟨A.v, by rw [add_own]; exact hw0.p3.cell 1, A.o, by rw [add_own]; exact hw0.p3.cell 0, ?_⟩
      (try dsimp only); rw [HM.bind_apply]
      refine lookup_map kKA (kind := kI64) (z := (0 : Int)) rfl hw0.p1 ?_
      rw [verK_get]
      (try dsimp only); rw [HM.ite_apply, if_neg (by simp)]
      refine ⟨A.o, by rw [add_own]; exact hw0.p3.cell 0, A.o, by rw [add_own]; exact hw0.p3.cell 0, ?_⟩
      (try dsimp only); rw [HM.bind_apply]
      refine lookup_map kKA (kind := kI64) (z := (0 : Int)) rfl hw0.p1 ?_
      rw [verK_get]
      refine ⟨A.v, by rw [add_own]; exact hw0.p3.cell 1, ?_⟩
      (try dsimp only); rw [HM.bind_apply]
      refine set_map kKA inj_eKA (ev := Kind.val kI64) (x := (if (getK K A.o).v < A.v then A.v else (getK K A.o).v : Int)) hw0.p1 fun h9 hw1 => ?_
      rw [hver hga] at hw1
      simp only [HM.pure_apply, Sum.elim_inl, Sum.elim_inr]
      exact .mk (g - 1) (by omega) ⟨by simp only; rw [wrap_id (by omega) (by omega)]; omega, by omega, K', _, _, hb', by omega, hw1.p1⟩
  rintro z h5 ⟨⟨c, rfl⟩, K, D, R5, hb, hDl, hs5⟩
  simp only [Sum.elim_inl]
  refine bind_call1 (List_spec (b := b) (D := D) hs5 hb.own hb.keys hb.back (by omega) fun h6 S ms hms hw2 => ⟨S, rfl, ?_⟩)
  have hml : ms.length = D.length := by rw [← hms, List.length_map]
  have hSl := hw2.own_len
  (try dsimp only); rw [HM.bind_apply]
  refine loop_gx (γ := Nat) (hb := fun s => by
      repeat' with_reducible first
        | refine @mono_bind _ _ _ _ ?_ (fun _ => ?_)
        | refine @mono_ite _ _ _ _ ?_ ?_
        | refine @mono_elim _ _ _ _ _ _ (fun _ => ?_) (fun _ => ?_)
        | refine @mono_req _ _ _ ?_
      all_goals infer_instance)
    (fun g c h' => c.1 = (((ms.length - g : Nat)) : Int) ∧ g ≤ ms.length ∧ ∃ R', sat h' (ownS encM 4 S ms :: mapA eKA (Kind.val kI64) m (verK K) :: old h0 :: R')) (fun g => g) ms.length
    ⟨by simp, Nat.le_refl _, _, hw2.re [0, 3, 4, 1, 2]⟩ ?_
  clear hw2
  rintro g ⟨c, ⟨⟩⟩ h7 ⟨hc, hg, R7, hw3⟩
  simp only at hc
  subst hc
  (try dsimp only); rw [HM.ite_apply]
  by_cases hi : ms.length - g < ms.length
  · rw [if_pos (by simp only [decide_eq_true_eq, hSl]; omega)]
    obtain ⟨x, hxm⟩ : ∃ x, ms[ms.length - g]? = some x := ⟨_, List.getElem?_eq_getElem hi⟩
    have hxD : D[ms.length - g]? = some x.a := by rw [← hms, List.getElem?_map, hxm]; rfl
    have hback := hb.back x.a (List.mem_of_getElem? hxD)
    (try dsimp only); rw [HM.bind_apply]
    refine idx_row (hw3.own_row eM_len) hxm fun p hp => ?_
    (try dsimp only); rw [HM.bind_apply]
    refine load_M hp ?_
    refine new_cells hw3 fun x29 h8 hw4' => ?_
    (try dsimp only); rw [HM.bind_apply]
    refine storeN_all' hw4' rfl rfl fun h9 hw4 => ?_
    refine bind_cut (fun z h' => h' = h9 ∧ z.1 = false) ?_ ?_
    · refine ⟨x.a.v, by rw [add_own]; exact hw4.cell 1, x.a.o, by rw [add_own]; exact hw4.cell 0, ?_⟩
      (try dsimp only); rw [HM.bind_apply]
      refine lookup_map kKA (kind := kI64) (z := (0 : Int)) rfl hw4.p2 ?_
      rw [verK_get]
      have hgv : (getK K x.a.o).v = x.a.v := by unfold getK; rw [hback]; rfl
      rw [hgv]
      (try dsimp only); rw [HM.ite_apply, if_neg (by simp)]
      (try dsimp only); rw [HM.ite_apply]
      by_cases hpos : 0 < ms.length - g
      rotate_left
      · rw [if_neg (by simp only [decide_eq_true_eq]; omega)]
        exact ⟨rfl, rfl⟩
      rw [if_pos (by simp only [decide_eq_true_eq]; omega)]
      obtain ⟨y, hym⟩ : ∃ y, ms[ms.length - g - 1]? = some y := ⟨_, List.getElem?_eq_getElem (by omega)⟩
      have hlt : y.a.o < x.a.o := by
        have hp2 := hb.asc
        rw [← hms, List.pairwise_map, List.pairwise_iff_getElem] at hp2
        have := hp2 (ms.length - g - 1) (ms.length - g) (by omega) hi (by omega)
        rw [List.getElem?_eq_getElem (by omega)] at hym
        rw [List.getElem?_eq_getElem (by omega)] at hxm
        cases hym
        cases hxm
        exact this
      (try dsimp only); rw [HM.bind_apply, show IntKind.wrap .i64 ((((ms.length - g : Nat)) : Int) - 1) = ((ms.length - g - 1 : Nat) : Int) by rw [wrap_id (by omega) (by omega)]; omega]
      refine idx_row (hw4.p1.own_row eM_len) hym fun p3 hp3 => ?_
      refine ⟨y.a.o, hp3 0 _ rfl, x.a.o, by rw [add_own]; exact hw4.cell 0, rfl, ?_⟩
      simp only [decide_eq_false_iff_not]
      omega
    rintro ⟨z, ⟨⟩⟩ h10 ⟨rfl, hz⟩
    simp only at hz
    subst hz
    (try dsimp only); rw [HM.ite_apply, if_neg (by simp)]
    simp only [HM.pure_apply, Sum.elim_inl, Sum.elim_inr]
    exact .mk (g - 1) (by omega) ⟨by simp only; rw [wrap_id (by omega) (by omega)]; omega, by omega, _, hw4.re [1, 2, 3, 0]⟩
  rw [if_neg (by simp only [decide_eq_true_eq, hSl]; omega)]
  simp only [HM.pure_apply, Sum.elim_inl, Sum.elim_inr]
  (try dsimp only); rw [HM.bind_apply]
  refine bind_call1 (wakes_spec hw3.p2 ht fun h8 hw4 => ⟨true, rfl, ?_⟩)
  (try dsimp only); rw [HM.ite_apply, if_pos rfl]
  (try dsimp only); rw [HM.bind_apply]
  refine len_map hw4.p2 ?_
  have hlen : (verK K).length = S.len := by
    rw [hSl, hml]
    unfold verK
    rw [List.length_map]
    exact hb.rel.len
  rw [hlen]
  have hfin := hq _ _ hw4
  rw [show true = (((S.len : Nat) : Int) == ((S.len : Nat) : Int)) by simp] at hfin
  exact hfin

end Go.Proofs.YtmdagnoknmfhcaaDoor
