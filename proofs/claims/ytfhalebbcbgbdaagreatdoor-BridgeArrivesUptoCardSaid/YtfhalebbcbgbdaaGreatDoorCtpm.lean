/-
  Ctpm: contracts: which filters match a topic (the program).
-/
import Derived.Test.YtfhalebbcbgbdaaGreatDoorCtop
namespace Go.Proofs.YtfhalebbcbgbdaaGreatDoor
open Go.H Go.Proofs Go.Lib
set_option linter.unusedSimpArgs false
set_option linter.unusedVariables false
set_option synthInstance.maxSize 100000
set_option synthInstance.maxHeartbeats 400000

variable {h h0 : Heap} {R : List Asn}

theorem EqualFunc_spec {s t : Slc} {xs ys : List ByteArray} (hr : RowAt eS 1 h s xs) (ht : RowAt eS 1 h t ys) (hl : xs.length ≤ 1000000) {Q : Value → Heap → Prop} (hq : Q (.bool (eqL xs ys)) h) :
    HCalls Tryz.prog 178 #[.slice s.a s.len s.cap, .slice t.a t.len t.cap, .func (.func 179) #[] #[]] h Q := by
  refine slices_EqualFunc_calls s t _ h Q ?_
  unfold slices_EqualFunc
  have hls := hr.1
  have hlt := ht.1
  (try dsimp only); rw [HM.ite_apply]
  by_cases hne : xs.length = ys.length
  · rw [if_neg (by simp [hls, hlt, hne])]
    (try dsimp only); rw [HM.bind_apply]
    refine loop_gx (γ := Nat) (fun g c h' => h' = h ∧ c.1 = (((xs.length - g : Nat)) : Int) ∧ g ≤ xs.length ∧ eqL xs ys = eqL (xs.drop (xs.length - g)) (ys.drop (xs.length - g))) (fun g => g) xs.length ⟨rfl, by simp, Nat.le_refl _, by simp⟩ ?_
    rintro g ⟨c, ⟨⟩⟩ h' ⟨rfl, hc, hg, hf⟩
    simp only at hc
    subst hc
    (try dsimp only); rw [HM.ite_apply]
    by_cases hi : xs.length - g < xs.length
    · rw [if_pos (by simp only [decide_eq_true_eq, hls]; omega)]
      obtain ⟨x, hx⟩ : ∃ x, xs[xs.length - g]? = some x := ⟨_, List.getElem?_eq_getElem hi⟩
      obtain ⟨y, hy⟩ : ∃ y, ys[xs.length - g]? = some y := ⟨_, List.getElem?_eq_getElem (by omega)⟩
      rw [filtG_at hx, filtG_at hy] at hf
      (try dsimp only); rw [HM.bind_apply]
      refine idx_row hr hx fun a ha => ?_
      refine ⟨x, by have := ha 0 (.string x) rfl; rwa [Go.H.add_zero] at this, ?_⟩
      (try dsimp only); rw [HM.bind_apply]
      refine idx_row ht hy fun a' ha' => ?_
      refine ⟨y, by have := ha' 0 (.string y) rfl; rwa [Go.H.add_zero] at this, ?_⟩
      refine ⟨179, #[], #[], rfl, Tryz.call179, ?_⟩
      refine topic_Match_f1_calls x y h' _ ?_
      unfold topic_Match_f1
      have fin : ∀ z : Bool, z = (decide (x = plusS) || decide (x = y)) → (if (!z) = true then Q (.bool false) h' else Go.H.Next (fun g (c : Int × Unit) h'' => h'' = h' ∧ c.1 = (((xs.length - g : Nat)) : Int) ∧ g ≤ xs.length ∧ eqL xs ys = eqL (xs.drop (xs.length - g)) (ys.drop (xs.length - g))) (fun g => g) g (IntKind.wrap .i64 ((((xs.length - g : Nat)) : Int) + 1), ()) h') := by
        rintro z rfl
        simp only [eqL] at hf
        have hnext : xs.length - g + 1 = xs.length - (g - 1) := by omega
        rw [hnext] at hf
        cases hz : (decide (x = plusS) || decide (x = y)) with
        | false =>
          rw [hz, Bool.false_and] at hf
          rw [hf] at hq
          rw [if_pos (by rfl)]
          exact hq
        | true =>
          rw [hz, Bool.true_and] at hf
          rw [if_neg (by simp)]
          exact .mk (g - 1) (by omega) ⟨rfl, by simp only; rw [wrap_id (by omega) (by omega)]; omega, by omega, hf⟩
      refine bind_cut (fun z h'' => h'' = h' ∧ z.1 = (decide (x = plusS) || decide (x = y))) ?_ ?_
      · (try dsimp only); rw [HM.ite_apply]
        by_cases h1 : x = plusS
        · rw [if_pos (by simpa [plusS] using h1)]
          exact ⟨rfl, by simp [h1]⟩
        · rw [if_neg (by simpa [plusS] using h1)]
          exact ⟨rfl, by simp [h1]⟩
      rintro ⟨z, ⟨⟩⟩ h'' ⟨rfl, hz⟩
      refine ⟨z, rfl, ?_⟩
      have hfin := fin z hz
      (try dsimp only); rw [HM.ite_apply]
      by_cases hzz : (!z) = true
      · rw [if_pos hzz] at hfin ⊢
        exact hfin
      · rw [if_neg hzz] at hfin ⊢
        exact hfin
    · rw [if_neg (by simp only [decide_eq_true_eq, hls]; omega)]
      simp only [Sum.elim_inl, Sum.elim_inr, HM.pure_apply]
      have h1 : xs.drop (xs.length - g) = [] := by simp; omega
      have h2 : ys.drop (xs.length - g) = [] := by simp; omega
      rw [h1, h2] at hf
      rw [hf] at hq
      exact hq
  · have hfalse : ∀ (xs ys : List ByteArray), xs.length ≠ ys.length → eqL xs ys = false := by
      intro xs
      induction xs with
      | nil => intro ys hh; cases ys with
        | nil => exact absurd rfl hh
        | cons => rfl
      | cons x xs ih => intro ys hh; cases ys with
        | nil => rfl
        | cons y ys => simp only [eqL, ih ys (by simpa using hh), Bool.and_false]
    rw [hfalse xs ys hne] at hq
    rw [if_pos (by simp [hls, hlt]; omega)]
    exact hq

theorem byte_is (b c : UInt8) : ((b.toNat : Int) == (c.toNat : Int)) = decide (b = c) := by
  by_cases h : b = c
  · simp [h]
  · rw [decide_eq_false h]
    simp only [beq_eq_false_iff_ne, ne_eq]
    intro e
    exact h (UInt8.toNat_inj.1 (by omega))

set_option maxRecDepth 100000 in
theorem Match_spec (hs : sat h (old h0 :: R)) (ht : TP h0) {f n : ByteArray} (hfz : f.size ≤ 9223372036854775807) (hnz : n.size ≤ 9223372036854775807) {Q : Value → Heap → Prop}
    (hq : ∀ h', sat h' (old h0 :: R) → Q (.bool (matchB f n)) h') : HCalls Tryz.prog 142 #[.string f, .string n] h Q := by
  refine topic_Match_calls f n h Q ?_
  unfold topic_Match
  refine bind_cut (fun x h' => sat h' (old h0 :: R) ∧ x.1 = !(filterOK f && nameOK n)) ?_ ?_
  · refine bind_call1 (CheckFilter_spec hs ht hfz fun h1 hs1 => ⟨_, rfl, ?_⟩)
    unfold filtC
    (try dsimp only); rw [HM.ite_apply]
    cases hf : filterOK f with
    | false => rw [if_pos (by rfl)]; exact ⟨hs1, rfl⟩
    | true =>
      rw [if_neg (by simp)]
      refine bind_call1 (CheckName_spec hs1 ht hnz fun h2 hs2 => ⟨_, rfl, ?_⟩)
      unfold nameC
      cases hn : nameOK n <;> exact ⟨hs2, rfl⟩
  rintro ⟨x, ⟨⟩⟩ h1 ⟨hs1, hx⟩
  simp only at hx
  subst hx
  unfold matchB at hq
  (try dsimp only); rw [HM.ite_apply]
  cases hok : (filterOK f && nameOK n) with
  | false =>
    rw [hok] at hq
    rw [if_pos (by rfl)]
    exact hq _ hs1
  | true =>
  rw [hok, Bool.true_and] at hq
  rw [if_neg (by simp)]
  rw [Bool.and_eq_true] at hok
  have hsf := sizedT_iff.1 (filterOK_sized hok.1)
  have hsn := sizedT_iff.1 (nameOK_sized hok.2)
  have hgf : filtG (levels f) = true := by
    have := hok.1
    unfold filterOK at this
    rw [Bool.and_eq_true] at this
    exact this.2
  refine bind_cut (fun x h' => h' = h1 ∧ x.1 = dollarB f n) ?_ ?_
  · unfold dollarB
    refine ⟨n.get! 0, by decide, get_bang (k := 0) (by omega), ?_⟩
    (try dsimp only); rw [HM.ite_apply]
    have e36 := byte_is (n.get! 0) 36
    by_cases h36 : n.get! 0 = 36
    · rw [if_pos (by rw [show (36 : Int) = ((36 : UInt8).toNat : Int) from rfl, e36, h36]; rfl)]
      refine ⟨0, 1, ⟨rfl, by omega⟩, rfl, ?_⟩
      (try dsimp only); rw [HM.ite_apply]
      by_cases h43 : f.get! 0 = 43
      · rw [if_pos (by simpa using (first_one hsf.2.1 43).2 h43)]
        exact ⟨rfl, by simp [h36, h43]⟩
      · rw [if_neg (by simpa using fun e => h43 ((first_one hsf.2.1 43).1 e))]
        refine ⟨0, 1, ⟨rfl, by omega⟩, rfl, rfl, ?_⟩
        have e35 : decide (f.extract 0 1 = ByteArray.mk #[35]) = decide (f.get! 0 = 35) := by rw [decide_eq_decide]; exact first_one hsf.2.1 35
        simp only [h36, h43, decide_true, decide_false, Bool.true_and, Bool.false_or]
        exact e35
    · rw [if_neg (by rw [show (36 : Int) = ((36 : UInt8).toNat : Int) from rfl, e36]; simpa using h36)]
      exact ⟨rfl, by simp [h36]⟩
  rintro ⟨x, ⟨⟩⟩ h2 ⟨rfl, hx⟩
  simp only at hx
  subst hx
  (try dsimp only); rw [HM.ite_apply]
  cases hdl : dollarB f n with
  | true =>
    rw [hdl] at hq
    rw [if_pos rfl]
    exact hq _ hs1
  | false =>
  rw [hdl, Bool.not_false, Bool.true_and, match_prog _ _ (levels_ne f) hgf] at hq
  rw [if_neg (by simp)]
  refine bind_call1 (Levels_spec hs1 ht hsf.2.2.1 fun sf h3 hs3 => ⟨sf, rfl, ?_⟩)
  refine bind_call1 (Levels_spec hs3.p1 ht hsn.2.2.1 fun sn h4 hs4 => ⟨sn, rfl, ?_⟩)
  have hrn := hs4.own_row eS_len
  have hrf := (hs4.re [2, 0, 1]).own_row eS_len
  have hs5 : sat h4 (old h0 :: R) := (hs4.re [0, 2, 1]).drop.drop
  have hlf : (levels f).length ≤ 32 := hsf.2.2.2
  have hln : (levels n).length ≤ 32 := hsn.2.2.2
  have hne : 1 ≤ (levels f).length := by
    have := levels_len f
    omega
  clear hs4 hs3
  generalize levels f = lf at *
  generalize levels n = ln at *
  have hl1 := hrf.1
  have hl2 := hrn.1
  have hw : IntKind.wrap .i64 ((sf.len : Int) - 1) = ((lf.length - 1 : Nat) : Int) := by rw [hl1, wrap_id (by omega) (by omega)]; omega
  rw [hw]
  obtain ⟨x, hx⟩ : ∃ x, lf[lf.length - 1]? = some x := ⟨_, List.getElem?_eq_getElem (by omega)⟩
  have hall : allR lf = decide (x = hashS) := by unfold allR; rw [hx]; simp
  (try dsimp only); rw [HM.bind_apply]
  refine idx_row hrf hx fun a ha => ?_
  refine ⟨x, by have := ha 0 (.string x) rfl; rwa [Go.H.add_zero] at this, ?_⟩
  refine bind_cut (fun x h' => h' = h4 ∧ RowAt eS 1 h4 x.1 (cutR lf)) ?_ ?_
  · unfold cutR
    (try dsimp only); rw [HM.ite_apply]
    by_cases hh : x = hashS
    · rw [if_pos (by simpa [hashS] using hh), if_pos (by rw [hall]; simpa using hh)]
      (try dsimp only); rw [HM.bind_apply]
      exact slice_row hrf (by omega) fun s' hs' => ⟨rfl, hs'⟩
    · rw [if_neg (by simpa [hashS] using hh), if_neg (by rw [hall]; simpa using hh)]
      exact ⟨rfl, hrf⟩
  rintro ⟨sc, ⟨⟩⟩ h5 ⟨rfl, hrc⟩
  simp only at hrc
  have hl3 := hrc.1
  have hcl : (cutR lf).length ≤ 32 := by
    unfold cutR
    split
    · simp; omega
    · exact hlf
  refine bind_cut (fun x h' => h' = h5 ∧ x.1 = decide (ln.length < (cutR lf).length ∨ (allR lf = false ∧ (cutR lf).length < ln.length))) ?_ ?_
  · (try dsimp only); rw [HM.ite_apply]
    by_cases hh : ln.length < (cutR lf).length
    · rw [if_pos (by simp only [decide_eq_true_eq]; omega)]
      exact ⟨rfl, by simp [hh]⟩
    · rw [if_neg (by simp only [decide_eq_true_eq]; omega)]
      (try dsimp only); rw [HM.ite_apply]
      by_cases hxh : x = hashS
      · rw [if_neg (by simpa [hashS] using hxh)]
        exact ⟨rfl, by simp [hh, hall, hxh]⟩
      · rw [if_pos (by simpa [hashS] using hxh)]
        refine ⟨rfl, ?_⟩
        simp only [decide_eq_decide, hall, hxh, decide_false, true_and]
        omega
  rintro ⟨y, ⟨⟩⟩ h6 ⟨rfl, hy⟩
  simp only at hy
  subst hy
  unfold matchP at hq
  (try dsimp only); rw [HM.ite_apply]
  by_cases hc : ln.length < (cutR lf).length ∨ (allR lf = false ∧ (cutR lf).length < ln.length)
  · rw [if_pos hc] at hq
    rw [if_pos (by simpa using hc)]
    exact hq _ hs5
  · rw [if_neg hc] at hq
    rw [if_neg (by simpa using hc)]
    (try dsimp only); rw [HM.bind_apply]
    refine slice_row (n := sc.len) hrn (by omega) fun s' hs' => ?_
    rw [hl3] at hs'
    (try dsimp only)
    refine bind_call1 (EqualFunc_spec hrc hs' (by omega) ⟨_, rfl, ?_⟩)
    exact hq _ hs5

end Go.Proofs.YtfhalebbcbgbdaaGreatDoor
