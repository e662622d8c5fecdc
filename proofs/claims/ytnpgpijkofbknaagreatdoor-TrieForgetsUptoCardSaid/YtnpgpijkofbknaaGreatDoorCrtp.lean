/-
  Crtp: contracts: the document's topics and filters.
-/
import Derived.Test.YtnpgpijkofbknaaGreatDoorCtpm
namespace Go.Proofs.YtnpgpijkofbknaaGreatDoor
open Go.H Go.Proofs Go.Lib
set_option linter.unusedSimpArgs false
set_option linter.unusedVariables false
set_option synthInstance.maxSize 100000
set_option synthInstance.maxHeartbeats 400000

variable {h h0 : Heap} {R : List Asn}

theorem drop_byte {s : ByteArray} {i : Nat} (hi : i < s.size) : s.data.toList.drop i = s.get! i :: s.data.toList.drop (i + 1) := by
  have h1 : i < s.data.toList.length := by rw [Array.length_toList]; exact hi
  rw [List.drop_eq_getElem_cons h1]
  congr 1
  have h2 : i < s.data.size := hi
  show s.data.toList[i] = s.data[i]!
  rw [getElem!_pos s.data i h2]
  simp

theorem has_spec {s : ByteArray} (hsz : s.size ≤ 9223372036854775800) {c : UInt8} {Q : Value → Heap → Prop} (hq : Q (.bool (hasB c s)) h) :
    HCalls Tryz.prog 51 #[.string s, .int .u8 (c.toNat : Int)] h Q := by
  refine ref07_has_calls s _ h Q ?_
  unfold ref07_has
  (try dsimp only); rw [HM.bind_apply]
  refine loop_gx (γ := Nat) (fun g k h' => h' = h ∧ k.1 = (((s.size - g : Nat)) : Int) ∧ g ≤ s.size ∧ hasB c s = decide (c ∈ s.data.toList.drop (s.size - g))) (fun g => g) s.size ⟨rfl, by simp, Nat.le_refl _, by simp [hasB]⟩ ?_
  rintro g ⟨k, ⟨⟩⟩ h' ⟨rfl, hc, hg, hf⟩
  simp only at hc
  subst hc
  (try dsimp only); rw [HM.ite_apply]
  by_cases hi : s.size - g < s.size
  · rw [if_pos (by simp only [decide_eq_true_eq]; omega)]
    rw [drop_byte hi] at hf
    refine ⟨s.get! (s.size - g), by omega, by rw [Int.toNat_natCast]; exact get_bang hi, ?_⟩
    (try dsimp only); rw [HM.ite_apply, byte_is]
    by_cases hb : s.get! (s.size - g) = c
    · rw [if_pos (by simpa using hb)]
      rw [hf, show decide (c ∈ s.get! (s.size - g) :: s.data.toList.drop (s.size - g + 1)) = true by simp [hb]] at hq
      simp only [Sum.elim_inl, Sum.elim_inr, HM.pure_apply]
      exact hq
    · rw [if_neg (by simpa using hb)]
      simp only [Sum.elim_inl, Sum.elim_inr, HM.pure_apply]
      refine .mk (g - 1) (by omega) ⟨rfl, by simp only; rw [wrap_id (by omega) (by omega)]; omega, by omega, ?_⟩
      rw [hf, show s.size - (g - 1) = s.size - g + 1 by omega]
      simp [Ne.symm hb]
  · rw [if_neg (by simp only [decide_eq_true_eq]; omega)]
    have : s.data.toList.drop (s.size - g) = [] := by
      rw [List.drop_eq_nil_iff, Array.length_toList]
      show s.size ≤ _
      omega
    rw [hf, this] at hq
    simp only [Sum.elim_inl, Sum.elim_inr, HM.pure_apply]
    simpa using hq

theorem extract_one {s : ByteArray} {i : Nat} (hi : i < s.size) : (s.extract i (i + 1)).data.toList = [s.get! i] := by
  have h1 := drop_byte hi
  have h2 : (s.extract i (i + 1)).data.toList = (s.data.toList.drop i).take 1 := by
    simp [ByteArray.data_extract, Array.toList_extract, List.extract]
  rw [h2, h1]
  rfl

theorem rLevels_spec (hs : sat h R) {s : ByteArray} (hsz : s.size ≤ 256) {Q : Value → Heap → Prop}
    (hq : ∀ (sl : Slc) h', sat h' (ownS eS 1 sl (levels s) :: R) → Q (.slice sl.a sl.len sl.cap) h') :
    HCalls Tryz.prog 50 #[.string s] h Q := by
  refine ref07_Levels_calls s h Q ?_
  unfold ref07_Levels
  (try dsimp only); rw [HM.bind_apply]
  refine loop_gx (γ := Nat) (fun g k h' => ∃ xs : List ByteArray, sat h' (ownS eS 1 k.1 xs :: R) ∧ k.2.2.1 = (((s.size - g : Nat)) : Int) ∧ g ≤ s.size ∧ xs.length ≤ s.size - g ∧ k.2.1.size ≤ s.size - g ∧
    xs.map (·.data.toList) ++ lev 47 k.2.1.data.toList (s.data.toList.drop (s.size - g)) = (levels s).map (·.data.toList)) (fun g => g) s.size
    ⟨[], ownS_nil hs, by simp, Nat.le_refl _, Nat.zero_le _, Nat.zero_le _, by simp [levels_data]⟩ ?_
  rintro g ⟨sl, x, i, ⟨⟩⟩ h1 ⟨xs, hs1, hc, hg, hxl, hxs, hf⟩
  simp only at hc hs1 hxs hf
  subst hc
  (try dsimp only); rw [HM.ite_apply]
  by_cases hi : s.size - g < s.size
  · rw [if_pos (by simp only [decide_eq_true_eq]; omega)]
    rw [drop_byte hi] at hf
    have hnext : s.size - g + 1 = s.size - (g - 1) := by omega
    rw [hnext] at hf
    have hw : IntKind.wrap .i64 ((((s.size - g : Nat)) : Int) + 1) = ((s.size - (g - 1) : Nat) : Int) := by rw [wrap_id (by omega) (by omega)]; omega
    refine bind_cut (fun k h' => ∃ xs : List ByteArray, sat h' (ownS eS 1 k.1 xs :: R) ∧ xs.length ≤ s.size - (g - 1) ∧ k.2.1.size ≤ s.size - (g - 1) ∧
      xs.map (·.data.toList) ++ lev 47 k.2.1.data.toList (s.data.toList.drop (s.size - (g - 1))) = (levels s).map (·.data.toList)) ?_ ?_
    · refine ⟨s.get! (s.size - g), by omega, by rw [Int.toNat_natCast]; exact get_bang hi, ?_⟩
      (try dsimp only); rw [HM.ite_apply, show (47 : Int) = ((47 : UInt8).toNat : Int) from rfl, byte_is]
      by_cases hb : s.get! (s.size - g) = 47
      · rw [if_pos (by simpa using hb)]
        refine app_new (x := x) eS_len eS_cell rfl hs1 (by decide) (by decide) (by omega) fun s' h2 hs2 => ?_
        refine ⟨xs ++ [x], hs2, by simp; omega, Nat.zero_le _, ?_⟩
        simp only [lev, if_pos hb] at hf
        rw [← hf]
        simp
      · rw [if_neg (by simpa using hb)]
        refine ⟨s.size - g, s.size - g + 1, ⟨by rw [hw]; omega, by omega⟩, ⟨rfl, by omega⟩, ?_⟩
        have he := extract_one hi
        have hz : (s.extract (s.size - g) (s.size - g + 1)).size = 1 := by
          rw [ByteArray.size_extract]
          omega
        refine ⟨by rw [hz]; omega, xs, hs1, by omega, ?_, ?_⟩
        · simp only [ByteArray.size_append]
          omega
        · simp only [lev, if_neg hb] at hf
          rw [← hf]
          simp only [ByteArray.data_append, Array.toList_append, he]
    rintro ⟨sl', x', ⟨⟩⟩ h2 ⟨xs', hs2, hxl', hxs', hf'⟩
    simp only [Sum.elim_inl, Sum.elim_inr, HM.pure_apply]
    exact .mk (g - 1) (by omega) ⟨xs', hs2, by simp only [hw], by omega, hxl', hxs', hf'⟩
  · rw [if_neg (by simp only [decide_eq_true_eq]; omega)]
    have : s.data.toList.drop (s.size - g) = [] := by
      rw [List.drop_eq_nil_iff, Array.length_toList]
      show s.size ≤ _
      omega
    rw [this] at hf
    simp only [lev] at hf
    simp only [Sum.elim_inl, Sum.elim_inr, HM.pure_apply]
    have he : xs ++ [x] = levels s := map_data_inj (by simpa using hf)
    refine app_new (x := x) eS_len eS_cell rfl hs1 (by decide) (by decide) (by omega) fun s' h2 hs2 => ?_
    rw [he] at hs2
    exact hq s' h2 hs2

theorem rsized_spec (hs : sat h R) {s : ByteArray} (hsz : s.size ≤ 9223372036854775800) {Q : Value → Heap → Prop}
    (hq : ∀ h', sat h' R → Q (.bool (sizedT s)) h') : HCalls Tryz.prog 49 #[.string s] h Q := by
  refine ref07_sized_calls s h Q ?_
  unfold ref07_sized
  refine bind_callN (rFault_spec hs s hsz ⟨(match faultOf s with | some n => ((n : Int), true, ()) | none => (0, false, ())), by cases faultOf s <;> rfl, ?_⟩)
  refine bind_cut (fun x h' => h' = h ∧ x.1 = !((faultOf s).isNone && decide (s.size ≠ 0) && decide (s.size ≤ 256))) ?_ ?_
  · (try dsimp only); rw [HM.ite_apply]
    cases hf : faultOf s with
    | some n =>
      rw [if_pos rfl]
      exact ⟨rfl, rfl⟩
    | none =>
      rw [if_neg (by simp)]
      (try dsimp only); rw [HM.ite_apply]
      by_cases h0 : s.size = 0
      · rw [if_pos (by simp [h0])]
        exact ⟨rfl, by simp [h0]⟩
      · rw [if_neg (by simpa using h0)]
        refine ⟨rfl, ?_⟩
        by_cases h1 : s.size ≤ 256
        · simp [h0, h1]; omega
        · simp [h0, h1]; omega
  rintro ⟨x, ⟨⟩⟩ h1 ⟨rfl, hx⟩
  simp only at hx
  subst hx
  unfold sizedT at hq
  (try dsimp only); rw [HM.ite_apply]
  cases hz : ((faultOf s).isNone && decide (s.size ≠ 0) && decide (s.size ≤ 256)) with
  | false =>
    rw [hz] at hq
    rw [if_pos (by rfl)]
    exact hq _ hs
  | true =>
    rw [hz, Bool.true_and] at hq
    rw [if_neg (by simp)]
    have hle : s.size ≤ 256 := by
      simp only [Bool.and_eq_true, decide_eq_true_eq] at hz
      exact hz.2
    refine bind_call1 (rLevels_spec hs hle fun sl h2 hs2 => ⟨sl, rfl, ?_⟩)
    have hl := hs2.own_len
    have := hq _ hs2.drop
    have e : decide ((sl.len : Int) ≤ 32) = decide ((levels s).length ≤ 32) := by rw [decide_eq_decide, hl]; omega
    simp only [HM.pure_apply]
    rw [e]
    exact this

set_option maxRecDepth 100000 in
theorem rCheckFilter_spec (hs : sat h R) {s : ByteArray} (hsz : s.size ≤ 9223372036854775800) {Q : Value → Heap → Prop}
    (hq : ∀ h', sat h' R → Q (.int .i64 (filtC s)) h') : HCalls Tryz.prog 34 #[.string s] h Q := by
  refine ref07_CheckFilter_calls s h Q ?_
  unfold ref07_CheckFilter
  refine bind_call1 (rsized_spec hs hsz fun h1 hs1 => ⟨_, rfl, ?_⟩)
  unfold filtC filterOK at hq
  (try dsimp only); rw [HM.ite_apply]
  cases hz : sizedT s with
  | false =>
    rw [hz] at hq
    rw [if_pos (by rfl)]
    exact hq _ hs1
  | true =>
  rw [hz, Bool.true_and] at hq
  rw [if_neg (by simp)]
  have hle := sizedT_le hz
  refine bind_call1 (rLevels_spec hs1 hle fun sl h2 hs2 => ⟨sl, rfl, ?_⟩)
  have hlen := hs2.own_len
  have hrow := hs2.own_row eS_len
  have hn : (levels s).length ≤ 32 := (sizedT_iff.1 hz).2.2.2
  have hxs : ∀ x ∈ levels s, x.size ≤ 256 := fun x hx => Nat.le_trans (levels_le hx) hle
  generalize levels s = l at hlen hrow hn hq hxs
  have hs3 := hs2.drop
  clear hs2
  (try dsimp only); rw [HM.bind_apply]
  refine loop_gx (γ := Nat) (fun g c h' => h' = h2 ∧ c.1 = (((l.length - g : Nat)) : Int) ∧ g ≤ l.length ∧ filtG l = filtG (l.drop (l.length - g))) (fun g => g) l.length ⟨rfl, by simp, Nat.le_refl _, by simp⟩ ?_
  rintro g ⟨c, ⟨⟩⟩ h' ⟨rfl, hc, hg, hf⟩
  simp only at hc
  subst hc
  (try dsimp only); rw [HM.ite_apply]
  by_cases hlt : l.length - g < l.length
  · rw [if_pos (by simp only [decide_eq_true_eq, hlen]; omega)]
    obtain ⟨x, hx⟩ : ∃ x, l[l.length - g]? = some x := ⟨_, List.getElem?_eq_getElem hlt⟩
    have hxz : x.size ≤ 256 := hxs x (List.mem_of_getElem? hx)
    have ld : ∀ {Q : ByteArray → Heap → Prop}, Q x h' → (HM.bind (HM.idx sl.a sl.len (((l.length - g : Nat)) : Int) 1) fun a => HM.load1 .str a) h' Q := by
      intro Q hQ
      (try dsimp only); rw [HM.bind_apply]
      refine idx_row hrow hx fun a ha => ?_
      exact ⟨x, by have := ha 0 (.string x) rfl; rwa [Go.H.add_zero] at this, hQ⟩
    have ld2 : ∀ {β : Type} {k : ByteArray → HM β} {Q : β → Heap → Prop}, k x h' Q → (HM.bind (HM.idx sl.a sl.len (((l.length - g : Nat)) : Int) 1) fun a => HM.bind (HM.load1 .str a) k) h' Q := fun hk => ld (Q := fun y h'' => _) hk
    rw [filtG_at hx, filtG_cons] at hf
    have hrest : (l.drop (l.length - g + 1)).isEmpty = decide (l.length - g + 1 = l.length) := by
      by_cases he : l.length - g + 1 = l.length
      · rw [he]; simp
      · have : l.drop (l.length - g + 1) ≠ [] := by simp; omega
        cases hh : l.drop (l.length - g + 1) with
        | nil => exact absurd hh this
        | cons => simp [he]
    rw [hrest] at hf
    have hw : IntKind.wrap .i64 ((sl.len : Int) - 1) = (l.length : Int) - 1 := by rw [hlen]; exact wrap_id (by omega) (by omega)
    have hw2 : IntKind.wrap .i64 (((l.length - g : Nat) : Int) + 1) = ((l.length - (g - 1) : Nat) : Int) := by rw [wrap_id (by omega) (by omega)]; omega
    have hnext : l.length - g + 1 = l.length - (g - 1) := by omega
    rw [hnext] at hf
    rw [hw, hw2]
    refine ld2 ?_
    refine bind_call1 (has_spec (c := 43) (by omega) ⟨_, rfl, ?_⟩)
    refine ld2 ?_
    refine bind_call1 (has_spec (c := 35) (by omega) ⟨_, rfl, ?_⟩)
    unfold levBad at hf
    refine bind_cut (fun z h'' => h'' = h' ∧ z.1 = (hasB 43 x && decide (x ≠ plusS))) ?_ ?_
    · (try dsimp only); rw [HM.ite_apply]
      cases hasB 43 x with
      | true =>
        rw [if_pos rfl]
        refine ld2 ⟨rfl, ?_⟩
        by_cases hp : x = ByteArray.mk #[43] <;> simp [plusS, hp]
      | false => rw [if_neg (by simp)]; exact ⟨rfl, rfl⟩
    rintro ⟨z, ⟨⟩⟩ h'' ⟨rfl, hz1⟩
    simp only at hz1
    subst hz1
    (try dsimp only); rw [HM.ite_apply]
    cases ha : (hasB 43 x && decide (x ≠ plusS)) with
    | true =>
      rw [ha, Bool.true_or, Bool.not_true, Bool.false_and] at hf
      rw [hf, if_neg (by simp)] at hq
      rw [if_pos rfl]
      simp only [Sum.elim_inl, Sum.elim_inr, HM.pure_apply]
      exact hq _ hs3
    | false =>
    rw [ha, Bool.false_or] at hf
    rw [if_neg (by simp)]
    refine bind_cut (fun z h' => h' = h'' ∧ z.1 = (hasB 35 x && (decide (x ≠ hashS) || !decide (l.length - (g - 1) = l.length)))) ?_ ?_
    · (try dsimp only); rw [HM.ite_apply]
      cases hasB 35 x with
      | true =>
        rw [if_pos rfl]
        refine ld2 ?_
        (try dsimp only); rw [HM.ite_apply]
        by_cases hx35 : x = hashS
        · rw [if_neg (by simpa [hashS] using hx35)]
          refine ⟨rfl, ?_⟩
          simp only [hx35, ne_eq, not_true_eq_false, decide_false, Bool.false_or, Bool.true_and]
          rw [← decide_not, decide_eq_decide]
          omega
        · rw [if_pos (by simpa [hashS] using hx35)]
          exact ⟨rfl, by simp [hx35]⟩
      | false => rw [if_neg (by simp)]; exact ⟨rfl, rfl⟩
    rintro ⟨z, ⟨⟩⟩ h3 ⟨rfl, hz1⟩
    simp only at hz1
    subst hz1
    (try dsimp only); rw [HM.ite_apply]
    cases hb : (hasB 35 x && (decide (x ≠ hashS) || !decide (l.length - (g - 1) = l.length))) with
    | true =>
      rw [hb, Bool.not_true, Bool.false_and] at hf
      rw [hf, if_neg (by simp)] at hq
      rw [if_pos rfl]
      simp only [Sum.elim_inl, Sum.elim_inr, HM.pure_apply]
      exact hq _ hs3
    | false =>
      rw [hb, Bool.not_false, Bool.true_and] at hf
      rw [if_neg (by simp)]
      simp only [Sum.elim_inl, Sum.elim_inr, HM.pure_apply]
      exact .mk (g - 1) (by omega) ⟨rfl, rfl, by omega, hf⟩
  · rw [if_neg (by simp only [decide_eq_true_eq, hlen]; omega)]
    simp only [Sum.elim_inl, Sum.elim_inr, HM.pure_apply]
    have : l.drop (l.length - g) = [] := by simp; omega
    rw [this] at hf
    rw [hf] at hq
    exact hq _ hs3

theorem dollar_r {f n : ByteArray} (hf : f.size ≠ 0) (hn : n.size ≠ 0) {Q : Bool × Unit → Heap → Prop} (hq : Q (dollarB f n, ()) h) :
    (HM.bind (α := Int) (HM.strIdx n 0) fun (x4 : Int) =>
      HM.ite (x4 == 36) (
      HM.bind (α := Int) (HM.strIdx f 0) fun (x5 : Int) =>
      HM.ite (x5 == 43) (
      HM.pure (true, ())) (
      HM.bind (α := Int) (HM.strIdx f 0) fun (x6 : Int) =>
      HM.pure (x6 == 35, ()))) (
      HM.pure (false, ()))) h Q := by
  unfold dollarB at hq
  refine ⟨n.get! 0, by decide, get_bang (k := 0) (by omega), ?_⟩
  (try dsimp only); rw [HM.ite_apply, show (36 : Int) = ((36 : UInt8).toNat : Int) from rfl, byte_is]
  by_cases h36 : n.get! 0 = 36
  · rw [if_pos (by simpa using h36)]
    refine ⟨f.get! 0, by decide, get_bang (k := 0) (by omega), ?_⟩
    (try dsimp only); rw [HM.ite_apply, show (43 : Int) = ((43 : UInt8).toNat : Int) from rfl, byte_is]
    by_cases h43 : f.get! 0 = 43
    · rw [if_pos (by simpa using h43)]
      simp only [h36, h43, decide_true, Bool.true_and, Bool.true_or] at hq
      exact hq
    · rw [if_neg (by simpa using h43)]
      refine ⟨f.get! 0, by decide, get_bang (k := 0) (by omega), ?_⟩
      simp only [HM.pure_apply]
      rw [show (35 : Int) = ((35 : UInt8).toNat : Int) from rfl, byte_is]
      simp only [h36, h43, decide_true, decide_false, Bool.true_and, Bool.false_or] at hq
      exact hq
  · rw [if_neg (by simpa using h36)]
    simp only [h36, decide_false, Bool.false_and] at hq
    exact hq

end Go.Proofs.YtnpgpijkofbknaaGreatDoor
