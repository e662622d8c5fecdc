/-
  Crgd: contracts: which adverts may be (the document).
-/
import Derived.Test.YtmdagnoknmfhcaaDoorCrul
namespace Go.Proofs.YtmdagnoknmfhcaaDoor
open Go.H Go.Proofs Go.Lib
set_option linter.unusedSimpArgs false
set_option linter.unusedVariables false
set_option synthInstance.maxSize 100000
set_option synthInstance.maxHeartbeats 400000
set_option maxRecDepth 100000

variable {h h0 : Heap} {R : List Asn}

theorem rGood_spec {a : AdvT} {sf sl : Slc} (hs : sat h (ownS eS 1 sf a.fs :: ownS encK 6 sl a.ls :: R)) (hz : szA a) {Q : Value → Heap → Prop}
    (hq : ∀ h', sat h' (ownS eS 1 sf a.fs :: ownS encK 6 sl a.ls :: R) → Q (.bool (goodA a)) h') : HCalls Tryd.prog 56 #[vA a sf sl] h Q := by
  refine ref21_Good_calls (a.o, a.v, sf, sl, ()) h Q ?_
  unfold ref21_Good
  have hl1 := hs.own_len
  have hl2 := hs.p1.own_len
  refine new_cells hs fun x h1 hs1' => ?_
  have hs1 : sat h1 (cells x (cA a sf sl).toArray :: ownS eS 1 sf a.fs :: ownS encK 6 sl a.ls :: R) := hs1'
  clear hs1'
  refine bind_cut (fun z h' => h' = h1 ∧ z.1 = !headOK a) ?_ ?_
  · unfold headOK
    have bad : ¬ (0 ≤ a.o ∧ a.o < 8 ∧ 1 ≤ a.v ∧ a.v ≤ 9007199254740992 ∧ a.fs.length ≤ 64 ∧ a.ls.length ≤ 16) → (h1 = h1 ∧ true = !decide (0 ≤ a.o ∧ a.o < 8 ∧ 1 ≤ a.v ∧ a.v ≤ 9007199254740992 ∧ a.fs.length ≤ 64 ∧ a.ls.length ≤ 16)) := fun e => ⟨rfl, by simp only [e, decide_false, Bool.not_false]⟩
    refine ⟨a.o, by rw [add_own]; exact hs1.cell 0, ?_⟩
    (try dsimp only); rw [HM.ite_apply]
    by_cases c0 : a.o < 0
    · rw [if_pos (by simpa using c0)]; exact bad fun e => by omega
    rw [if_neg (by simpa using c0)]
    refine ⟨a.o, by rw [add_own]; exact hs1.cell 0, ?_⟩
    (try dsimp only); rw [HM.ite_apply]
    by_cases c1 : 8 ≤ a.o
    · rw [if_pos (by simpa using c1)]; exact bad fun e => by omega
    rw [if_neg (by simpa using c1)]
    refine ⟨a.v, by rw [add_own]; exact hs1.cell 1, ?_⟩
    (try dsimp only); rw [HM.ite_apply]
    by_cases c2 : a.v < 1
    · rw [if_pos (by simpa using c2)]; exact bad fun e => by omega
    rw [if_neg (by simpa using c2)]
    refine ⟨a.v, by rw [add_own]; exact hs1.cell 1, ?_⟩
    (try dsimp only); rw [HM.ite_apply]
    by_cases c3 : 9007199254740992 < a.v
    · rw [if_pos (by simpa using c3)]; exact bad fun e => by omega
    rw [if_neg (by simpa using c3)]
    refine ⟨sf, by rw [add_own]; exact hs1.cell 2, ?_⟩
    (try dsimp only); rw [HM.ite_apply, hl1]
    by_cases c4 : 64 < a.fs.length
    · rw [if_pos (by simp only [decide_eq_true_eq]; omega)]; exact bad fun e => by omega
    rw [if_neg (by simp only [decide_eq_true_eq]; omega)]
    refine ⟨sl, by rw [add_own]; exact hs1.cell 3, rfl, ?_⟩
    rw [hl2, ← decide_not, decide_eq_decide]
    omega
  rintro ⟨z, ⟨⟩⟩ h2 ⟨rfl, hzz⟩
  simp only at hzz
  subst hzz
  unfold goodA at hq
  (try dsimp only); rw [HM.ite_apply]
  cases hh : headOK a with
  | false =>
    rw [hh] at hq
    rw [if_pos (by rfl)]
    exact hq _ hs1.drop
  | true =>
  rw [hh, Bool.true_and] at hq
  rw [if_neg (by simp)]
  have hb : a.fs.length ≤ 64 ∧ a.ls.length ≤ 16 := by
    unfold headOK at hh
    rw [decide_eq_true_eq] at hh
    exact ⟨hh.2.2.2.2.1, hh.2.2.2.2.2⟩
  (try dsimp only); rw [HM.bind_apply]
  refine loop_gx (γ := Nat) (hb := fun s => by
      repeat' with_reducible first
        | refine @mono_bind _ _ _ _ ?_ (fun _ => ?_)
        | refine @mono_ite _ _ _ _ ?_ ?_
      all_goals infer_instance)
    (fun g c h' => c.1 = (((a.fs.length - g : Nat)) : Int) ∧ g ≤ a.fs.length ∧ a.fs.all filterOK = (a.fs.drop (a.fs.length - g)).all filterOK ∧ sat h' (cells x (cA a sf sl).toArray :: ownS eS 1 sf a.fs :: ownS encK 6 sl a.ls :: R)) (fun g => g) a.fs.length
    ⟨by simp, Nat.le_refl _, by simp, hs1⟩ ?_
  clear hs1
  rintro g ⟨c, ⟨⟩⟩ h3 ⟨hc, hg, hall, hs1⟩
  simp only at hc
  subst hc
  refine ⟨sf, by rw [add_own]; exact hs1.cell 2, ?_⟩
  (try dsimp only); rw [HM.ite_apply]
  by_cases hi : a.fs.length - g < a.fs.length
  · rw [if_pos (by simp only [decide_eq_true_eq, hl1]; omega)]
    obtain ⟨f, hf⟩ : ∃ f, a.fs[a.fs.length - g]? = some f := ⟨_, List.getElem?_eq_getElem hi⟩
    have hfz := hz.fs f (List.mem_of_getElem? hf)
    rw [drop_at hf, List.all_cons] at hall
    refine ⟨sf, by rw [add_own]; exact hs1.cell 2, ?_⟩
    (try dsimp only); rw [HM.bind_apply]
    refine idx_row (hs1.p1.own_row eS_len) hf fun p hp => ?_
    refine ⟨f, by have := hp 0 (.string f) rfl; rwa [Go.H.add_zero] at this, ?_⟩
    refine bind_call1 (rCheckFilter_spec hs1 hfz fun h4 hs4 => ⟨_, rfl, ?_⟩)
    unfold filtC
    (try dsimp only); rw [HM.ite_apply]
    cases hok : filterOK f with
    | false =>
      rw [hok, Bool.false_and] at hall
      rw [hall] at hq
      rw [if_pos (by rfl)]
      simp only [Sum.elim_inl, Sum.elim_inr, HM.pure_apply]
      exact hq _ hs4.drop
    | true =>
      rw [hok, Bool.true_and] at hall
      rw [if_neg (by simp)]
      simp only [Sum.elim_inl, Sum.elim_inr, HM.pure_apply]
      exact .mk (g - 1) (by omega) ⟨by simp only; rw [wrap_id (by omega) (by omega)]; omega, by omega, by rw [hall, show a.fs.length - g + 1 = a.fs.length - (g - 1) by omega], hs4⟩
  rw [if_neg (by simp only [decide_eq_true_eq, hl1]; omega)]
  simp only [Sum.elim_inl, Sum.elim_inr, HM.pure_apply]
  rw [show a.fs.drop (a.fs.length - g) = [] by simp; omega, List.all_nil] at hall
  rw [hall, Bool.true_and] at hq
  clear hall hi hg
  (try dsimp only); rw [HM.bind_apply]
  refine loop_gx (γ := Nat) (hb := fun s => by
      repeat' with_reducible first
        | refine @mono_bind _ _ _ _ ?_ (fun _ => ?_)
        | refine @mono_ite _ _ _ _ ?_ ?_
      all_goals infer_instance)
    (fun g c h' => c.1 = (((a.ls.length - g : Nat)) : Int) ∧ g ≤ a.ls.length ∧ a.ls.all (linkOK a.o) = (a.ls.drop (a.ls.length - g)).all (linkOK a.o) ∧ sat h' (cells x (cA a sf sl).toArray :: ownS eS 1 sf a.fs :: ownS encK 6 sl a.ls :: R)) (fun g => g) a.ls.length
    ⟨by simp, Nat.le_refl _, by simp, hs1⟩ ?_
  clear hs1
  rintro g ⟨c, ⟨⟩⟩ h3 ⟨hc, hg, hall, hs1⟩
  simp only at hc
  subst hc
  refine ⟨sl, by rw [add_own]; exact hs1.cell 3, ?_⟩
  (try dsimp only); rw [HM.ite_apply]
  by_cases hi : a.ls.length - g < a.ls.length
  · rw [if_pos (by simp only [decide_eq_true_eq, hl2]; omega)]
    obtain ⟨l, hll⟩ : ∃ l, a.ls[a.ls.length - g]? = some l := ⟨_, List.getElem?_eq_getElem hi⟩
    have hlz := hz.ls l (List.mem_of_getElem? hll)
    rw [drop_at hll, List.all_cons] at hall
    refine ⟨sl, by rw [add_own]; exact hs1.cell 3, ?_⟩
    (try dsimp only); rw [HM.bind_apply]
    refine idx_row (sat.own_row eK_len (hs1.re [2, 0, 1])) hll fun p hp => ?_
    (try dsimp only); rw [HM.bind_apply]
    refine load_K hp ?_
    refine new_cells hs1 fun y h4 hs4' => ?_
    (try dsimp only); rw [HM.bind_apply]
    refine storeN_all' hs4' rfl rfl fun h5 hs5' => ?_
    have hs5 : sat h5 (cells y (encK l).toArray :: cells x (cA a sf sl).toArray :: ownS eS 1 sf a.fs :: ownS encK 6 sl a.ls :: R) := hs5'
    clear hs5' hs4'
    (try dsimp only); rw [HM.bind_apply]
    refine load_R (a := ⟨y, 0, none⟩) hs5 rfl ?_
    refine bind_call1 (rCheck_spec hs5 hlz fun h6 hs6 => ⟨_, rfl, ?_⟩)
    refine bind_cut (fun z h' => h' = h6 ∧ z.1 = !linkOK a.o l) ?_ ?_
    · unfold linkOK
      have c0 : cellH h6 ⟨y, 0, none⟩ = some (.int .i64 l.1) := hs6.cell 0
      refine ⟨l.1, by rw [add_own]; exact c0, ?_⟩
      (try dsimp only); rw [HM.ite_apply]
      by_cases b0 : l.1 < 0
      · rw [if_pos (by simpa using b0)]
        have : ¬ (0 ≤ l.1 ∧ l.1 < 8 ∧ l.1 ≠ a.o) := fun e => by omega
        exact ⟨rfl, by simp only [this, decide_false, Bool.false_and, Bool.not_false]⟩
      rw [if_neg (by simpa using b0)]
      refine ⟨l.1, by rw [add_own]; exact c0, ?_⟩
      (try dsimp only); rw [HM.ite_apply]
      by_cases b1 : 8 ≤ l.1
      · rw [if_pos (by simpa using b1)]
        have : ¬ (0 ≤ l.1 ∧ l.1 < 8 ∧ l.1 ≠ a.o) := fun e => by omega
        exact ⟨rfl, by simp only [this, decide_false, Bool.false_and, Bool.not_false]⟩
      rw [if_neg (by simpa using b1)]
      refine ⟨l.1, by rw [add_own]; exact c0, ?_⟩
      refine ⟨a.o, by rw [add_own]; exact hs6.p1.cell 0, ?_⟩
      (try dsimp only); rw [HM.ite_apply]
      by_cases b2 : l.1 = a.o
      · rw [if_pos (by simpa using b2)]
        have : ¬ (0 ≤ l.1 ∧ l.1 < 8 ∧ l.1 ≠ a.o) := fun e => e.2.2 b2
        exact ⟨rfl, by simp only [this, decide_false, Bool.false_and, Bool.not_false]⟩
      rw [if_neg (by simpa using b2)]
      have : (0 ≤ l.1 ∧ l.1 < 8 ∧ l.1 ≠ a.o) := ⟨by omega, by omega, b2⟩
      refine ⟨rfl, ?_⟩
      simp only [this, ne_eq, not_false_eq_true, and_self, decide_true, Bool.true_and]
      by_cases b3 : chkR l.2 = 0 <;> simp [b3]
    rintro ⟨z, ⟨⟩⟩ h7 ⟨rfl, hzz⟩
    simp only at hzz
    subst hzz
    (try dsimp only); rw [HM.ite_apply]
    cases hok : linkOK a.o l with
    | false =>
      rw [hok, Bool.false_and] at hall
      rw [hall] at hq
      rw [if_pos (by rfl)]
      simp only [Sum.elim_inl, Sum.elim_inr, HM.pure_apply]
      exact hq _ hs6.drop.drop
    | true =>
      rw [hok, Bool.true_and] at hall
      rw [if_neg (by simp)]
      simp only [Sum.elim_inl, Sum.elim_inr, HM.pure_apply]
      refine .mk (g - 1) (by omega) ⟨by simp only; rw [wrap_id (by omega) (by omega)]; omega, by omega, by rw [hall, show a.ls.length - g + 1 = a.ls.length - (g - 1) by omega], hs6.drop⟩
  · rw [if_neg (by simp only [decide_eq_true_eq, hl2]; omega)]
    simp only [Sum.elim_inl, Sum.elim_inr, HM.pure_apply]
    rw [show a.ls.drop (a.ls.length - g) = [] by simp; omega, List.all_nil] at hall
    rw [hall] at hq
    exact hq _ hs1.drop

end Go.Proofs.YtmdagnoknmfhcaaDoor
