/-
  Ctop: contracts: the program's topics and filters.
-/
import Derived.Test.YtnpgpijkofbknaaGreatDoorLtop
import Derived.Test.YtnpgpijkofbknaaGreatDoorKcnt
import Derived.Test.YtnpgpijkofbknaaGreatDoorHl
namespace Go.Proofs.YtnpgpijkofbknaaGreatDoor
open Go.H Go.Proofs Go.Lib
set_option linter.unusedSimpArgs false
set_option linter.unusedVariables false
set_option synthInstance.maxSize 100000
set_option synthInstance.maxHeartbeats 400000

/-- what is laid, in the heap that was there -/
structure TP (h0 : Heap) : Prop where
  u8 : U8 h0
  maxl : ∃ m, cellH h0 ⟨0, 0, none⟩ = some (.int .i64 m)

theorem eS_len : ∀ x : ByteArray, (eS x).length = 1 := fun _ => rfl
theorem eS_cell : ∀ x : ByteArray, ∀ v ∈ eS x, v.oneCell' = true := fun x v hv => by rw [List.mem_singleton.1 hv]; rfl

variable {h h0 : Heap} {R : List Asn}

theorem own_full {b : Nat} {xs : List ByteArray} (hs : sat h (cells b (xs.map Value.string).toArray :: R)) : sat h (ownS eS 1 ⟨some ⟨b, 0, none⟩, xs.length, xs.length⟩ xs :: R) := by
  refine ownS_mk (o := 0) ⟨rfl, Nat.le_refl _, rfl, by simp, ?_⟩ hs
  simp only [Nat.zero_mul, List.drop_zero, Nat.mul_one, List.toList_toArray]
  rw [List.take_of_length_le (by simp)]
  induction xs with
  | nil => rfl
  | cons x xs ih =>
    rw [List.map_cons, List.flatMap_cons]
    have : ∀ xs : List ByteArray, xs.map Value.string = xs.flatMap eS := fun xs => by
      induction xs with
      | nil => rfl
      | cons y ys ih => rw [List.map_cons, List.flatMap_cons, ih]; rfl
    rw [this xs]
    rfl

theorem Count_spec {s : ByteArray} {Q : Value → Heap → Prop} (hq : Q (.int .i64 ((s.data.toList.count 47 : Nat) : Int)) h) :
    HCalls Tryz.prog 68 #[.string s, .string (ByteArray.mk #[47])] h Q := fun w hw => by
  subst hw
  refine (Any.strings_Count_one countL s 47 w).mono ?_
  rintro e w' ⟨rfl, rfl⟩
  exact ⟨_, rfl, ⟨rfl, rfl, rfl⟩, hq⟩

theorem Contains_spec {s : ByteArray} {c : UInt8} {Q : Value → Heap → Prop} (hq : Q (.bool (hasB c s)) h) :
    HCalls Tryz.prog 47 #[.string s, .string (ByteArray.mk #[c])] h Q := fun w hw => by
  subst hw
  refine (Any.strings_Contains_one contL s c w).mono ?_
  rintro e w' ⟨rfl, rfl⟩
  rw [has_index]
  exact ⟨_, rfl, ⟨rfl, rfl, rfl⟩, hq⟩

theorem Levels_spec (hs : sat h (old h0 :: R)) (ht : TP h0) {s : ByteArray} (hsz : s.size ≤ 256) {Q : Value → Heap → Prop}
    (hq : ∀ (sl : Slc) h', sat h' (ownS eS 1 sl (levels s) :: old h0 :: R) → Q (.slice sl.a sl.len sl.cap) h') :
    HCalls Tryz.prog 29 #[.string s] h Q := by
  refine topic_Levels_calls s h Q ?_
  unfold topic_Levels
  refine bind_call1 (fun w hw => ?_)
  subst hw
  obtain ⟨m, hm⟩ := ht.maxl
  refine (Any.strings_Split splitS (by kernel_rfl) s (ByteArray.mk #[47]) m w (by omega) (hs.old_cell hm) (by decide)).mono ?_
  rintro e w' ⟨rfl, rfl⟩
  have hl : (levels s).length = countB s slash + 1 := splitB_all slash (by decide) 0 _ s rfl
  have := hq ⟨some ⟨w.heap.size, 0, none⟩, (levels s).length, (levels s).length⟩ _ (own_full (hs.push_cells (T := splitS_ren.t 9)))
  rw [hl] at this
  exact ⟨_, rfl, ⟨rfl, rfl, rfl⟩, ⟨some ⟨w.heap.size, 0, none⟩, countB s slash + 1, countB s slash + 1⟩, rfl, this⟩

theorem sized_spec (hs : sat h (old h0 :: R)) (ht : TP h0) {s : ByteArray} (hsz : s.size ≤ 9223372036854775807) {Q : Value → Heap → Prop}
    (hq : ∀ h', sat h' (old h0 :: R) → Q (.bool (sizedT s)) h') : HCalls Tryz.prog 46 #[.string s] h Q := by
  refine topic_sized_calls s h Q ?_
  unfold topic_sized
  refine bind_callN (Fault_spec hs ht.u8 s (by omega) fun h1 hs1 => ⟨(match faultOf s with | some n => ((n : Int), true, ()) | none => (0, false, ())), by cases faultOf s <;> rfl, ?_⟩)
  refine bind_cut (fun x h' => h' = h1 ∧ x.1 = sizedT s) ?_ ?_
  · (try dsimp only); rw [HM.ite_apply]
    cases hf : faultOf s with
    | some n =>
      rw [if_neg (by simp)]
      exact ⟨rfl, by simp [sizedT, hf]⟩
    | none =>
      rw [if_pos (by rfl), HM.ite_apply]
      have he : s = ByteArray.mk #[] ↔ s.size = 0 := by
        constructor
        · rintro rfl; rfl
        · intro h0
          refine data_inj ?_
          have : s.data.toList.length = 0 := by rw [Array.length_toList]; exact h0
          rw [List.length_eq_zero_iff.1 this]
      by_cases h0 : s.size = 0
      · rw [if_neg (by simp [he.2 h0])]
        exact ⟨rfl, by simp [sizedT, h0]⟩
      rw [if_pos (by simpa using fun e => h0 (he.1 e)), HM.ite_apply]
      by_cases h1 : s.size ≤ 256
      · rw [if_pos (by simp only [decide_eq_true_eq]; omega)]
        refine bind_call1 (Count_spec ⟨_, rfl, ?_⟩)
        refine ⟨rfl, ?_⟩
        have e : sizedT s = decide ((levels s).length ≤ 32) := by simp [sizedT, hf, h0, h1]
        rw [e, levels_len]
        simp only [decide_eq_decide]
        omega
      · rw [if_neg (by simp only [decide_eq_true_eq]; omega)]
        exact ⟨rfl, by simp [sizedT, h1]⟩
  rintro ⟨x, ⟨⟩⟩ h2 ⟨rfl, rfl⟩
  exact hq _ hs1

def nameC (s : ByteArray) : Int := if nameOK s = true then 0 else 144
def filtC (s : ByteArray) : Int := if filterOK s = true then 0 else 143

theorem CheckName_spec (hs : sat h (old h0 :: R)) (ht : TP h0) {s : ByteArray} (hsz : s.size ≤ 9223372036854775807) {Q : Value → Heap → Prop}
    (hq : ∀ h', sat h' (old h0 :: R) → Q (.int .u8 (nameC s)) h') : HCalls Tryz.prog 27 #[.string s] h Q := by
  refine topic_CheckName_calls s h Q ?_
  unfold topic_CheckName
  refine bind_cut (fun x h' => sat h' (old h0 :: R) ∧ x.1 = !nameOK s) ?_ ?_
  · refine bind_call1 (sized_spec hs ht hsz fun h1 hs1 => ⟨_, rfl, ?_⟩)
    (try dsimp only); rw [HM.ite_apply]
    cases hz : sizedT s with
    | false =>
      rw [if_pos (by rfl)]
      exact ⟨hs1, by simp [nameOK, hz]⟩
    | true =>
      rw [if_neg (by simp)]
      refine bind_call1 (Contains_spec (c := 43) ⟨_, rfl, ?_⟩)
      (try dsimp only); rw [HM.ite_apply]
      cases h43 : hasB 43 s with
      | true =>
        rw [if_pos rfl]
        exact ⟨hs1, by simp [nameOK, hz, h43]⟩
      | false =>
        rw [if_neg (by simp)]
        refine bind_call1 (Contains_spec (c := 35) ⟨_, rfl, ?_⟩)
        exact ⟨hs1, by simp [nameOK, hz, h43]⟩
  rintro ⟨x, ⟨⟩⟩ h1 ⟨hs1, hx⟩
  simp only at hx
  subst hx
  have := hq _ hs1
  unfold nameC at this
  (try dsimp only); rw [HM.ite_apply]
  cases hn : nameOK s with
  | true => rw [hn, if_pos rfl] at this; rw [if_neg (by simp)]; exact this
  | false => rw [hn, if_neg (by simp)] at this; rw [if_pos (by rfl)]; exact this

theorem filtG_at {l : List ByteArray} {i : Nat} {x : ByteArray} (hx : l[i]? = some x) : l.drop i = x :: l.drop (i + 1) := by
  obtain ⟨hi, rfl⟩ := List.getElem?_eq_some_iff.1 hx
  exact List.drop_eq_getElem_cons hi

set_option maxRecDepth 100000 in
theorem CheckFilter_spec (hs : sat h (old h0 :: R)) (ht : TP h0) {s : ByteArray} (hsz : s.size ≤ 9223372036854775807) {Q : Value → Heap → Prop}
    (hq : ∀ h', sat h' (old h0 :: R) → Q (.int .u8 (filtC s)) h') : HCalls Tryz.prog 30 #[.string s] h Q := by
  refine topic_CheckFilter_calls s h Q ?_
  unfold topic_CheckFilter
  refine bind_call1 (sized_spec hs ht hsz fun h1 hs1 => ⟨_, rfl, ?_⟩)
  (try dsimp only); rw [HM.ite_apply]
  unfold filtC filterOK at hq
  cases hz : sizedT s with
  | false =>
    rw [hz] at hq
    rw [if_pos (by rfl)]
    exact hq _ hs1
  | true =>
  rw [hz, Bool.true_and] at hq
  rw [if_neg (by simp)]
  have hle := sizedT_le hz
  refine bind_call1 (Levels_spec hs1 ht hle fun sl h2 hs2 => ⟨sl, rfl, ?_⟩)
  have hlen := hs2.own_len
  have hrow := hs2.own_row eS_len
  have hn : (levels s).length ≤ 32 := (sizedT_iff.1 hz).2.2.2
  generalize levels s = l at hlen hrow hn hq
  have hs3 := hs2.drop
  clear hs2
  (try dsimp only); rw [HM.bind_apply]
  refine loop_gx (γ := Nat) (fun g c h' => h' = h2 ∧ c.1 = (((l.length - g : Nat)) : Int) ∧ g ≤ l.length ∧ filtG l = filtG (l.drop (l.length - g))) (fun g => g) l.length ⟨rfl, by simp, Nat.le_refl _, by simp⟩ ?_
  rintro g ⟨c, ⟨⟩⟩ h' ⟨rfl, hc, hg, hf⟩
  simp only at hc
  subst hc
  (try dsimp only); rw [HM.ite_apply]
  by_cases hlt : l.length - g < l.length
  · rw [if_pos (by simp only [decide_eq_true_eq, hlen]; omega)]
    obtain ⟨x, hx⟩ : ∃ x, l[l.length - g]? = some x := ⟨_, List.getElem?_eq_getElem hlt⟩
    have hd := filtG_at hx
    rw [hd] at hf
    (try dsimp only); rw [HM.bind_apply]
    refine idx_row hrow hx fun a ha => ?_
    refine ⟨x, by have := ha 0 (.string x) rfl; rwa [Go.H.add_zero] at this, ?_⟩
    simp only [filtG] at hf
    have hrest : (l.drop (l.length - g + 1)).isEmpty = decide (l.length - g + 1 = l.length) := by
      by_cases he : l.length - g + 1 = l.length
      · rw [he]; simp
      · have : l.drop (l.length - g + 1) ≠ [] := by simp; omega
        cases hh : l.drop (l.length - g + 1) with
        | nil => exact absurd hh this
        | cons => simp [he]
    rw [hrest] at hf
    have hw : IntKind.wrap .i64 ((sl.len : Int) - 1) = (l.length : Int) - 1 := by rw [hlen]; exact wrap_id (by omega) (by omega)
    have hw2 : IntKind.wrap .i64 (((l.length - g : Nat) : Int) + 1) = ((l.length - (g - 1) : Nat) : Int) := by rw [wrap_id (by omega) (by omega)]; omega
    have hnext : l.length - g + 1 = l.length - (g - 1) := by omega
    rw [hnext] at hf
    rw [hw, hw2]
    by_cases h35 : hasB 35 x = true
    · rw [if_pos h35] at hf
      by_cases hlast : l.length - (g - 1) = l.length
      · by_cases h1 : x.size ≤ 1
        · rw [decide_eq_true hlast, decide_eq_true h1, Bool.true_and, Bool.true_and] at hf
          refine bind_cut (fun z h'' => h'' = h' ∧ z = .inl ()) ?_ ?_
          · refine bind_cut (fun z h'' => h'' = h' ∧ z = .inl ()) ?_ ?_
            · refine bind_cut (fun z h'' => h'' = h' ∧ z = .inl ()) ?_ ?_
              · refine bind_call1 (Contains_spec (c := 35) ⟨_, rfl, ?_⟩)
                (try dsimp only); rw [HM.ite_apply, if_pos h35]
                exact ⟨rfl, rfl⟩
              rintro z h'' ⟨rfl, rfl⟩
              simp only [Sum.elim_inl]
              (try dsimp only); rw [HM.ite_apply, if_neg (by simp only [decide_eq_true_eq]; omega)]
              exact ⟨rfl, rfl⟩
            rintro z h'' ⟨rfl, rfl⟩
            simp only [Sum.elim_inl]
            (try dsimp only); rw [HM.ite_apply, if_neg (by simp only [decide_eq_true_eq]; omega)]
            exact ⟨rfl, rfl⟩
          rintro z h'' ⟨rfl, rfl⟩
          simp only [Sum.elim_inl, Sum.elim_inr, HM.pure_apply]
          exact .mk (g - 1) (by omega) ⟨rfl, rfl, by omega, hf⟩
        · rw [decide_eq_false h1, Bool.and_false, Bool.false_and] at hf
          rw [hf, if_neg (by simp)] at hq
          refine bind_cut (fun z h'' => h'' = h' ∧ z = .inr (.inr (.inr (143, ())))) ?_ ?_
          · refine bind_cut (fun z h'' => h'' = h' ∧ z = .inl ()) ?_ ?_
            · refine bind_cut (fun z h'' => h'' = h' ∧ z = .inl ()) ?_ ?_
              · refine bind_call1 (Contains_spec (c := 35) ⟨_, rfl, ?_⟩)
                (try dsimp only); rw [HM.ite_apply, if_pos h35]
                exact ⟨rfl, rfl⟩
              rintro z h'' ⟨rfl, rfl⟩
              simp only [Sum.elim_inl]
              (try dsimp only); rw [HM.ite_apply, if_neg (by simp only [decide_eq_true_eq]; omega)]
              exact ⟨rfl, rfl⟩
            rintro z h'' ⟨rfl, rfl⟩
            simp only [Sum.elim_inl]
            (try dsimp only); rw [HM.ite_apply, if_pos (by simp only [decide_eq_true_eq]; omega)]
            exact ⟨rfl, rfl⟩
          rintro z h'' ⟨rfl, rfl⟩
          simp only [Sum.elim_inl, Sum.elim_inr, HM.pure_apply]
          exact hq _ hs3
      · rw [decide_eq_false hlast, Bool.false_and, Bool.false_and] at hf
        rw [hf, if_neg (by simp)] at hq
        refine bind_cut (fun z h'' => h'' = h' ∧ z = .inr (.inr (.inr (143, ())))) ?_ ?_
        · refine bind_cut (fun z h'' => h'' = h' ∧ z = .inr (.inr (.inr (.inr (143, ()))))) ?_ ?_
          · refine bind_cut (fun z h'' => h'' = h' ∧ z = .inl ()) ?_ ?_
            · refine bind_call1 (Contains_spec (c := 35) ⟨_, rfl, ?_⟩)
              (try dsimp only); rw [HM.ite_apply, if_pos h35]
              exact ⟨rfl, rfl⟩
            rintro z h'' ⟨rfl, rfl⟩
            simp only [Sum.elim_inl]
            (try dsimp only); rw [HM.ite_apply, if_pos (by simp only [decide_eq_true_eq]; omega)]
            exact ⟨rfl, rfl⟩
          rintro z h'' ⟨rfl, rfl⟩
          exact ⟨rfl, rfl⟩
        rintro z h'' ⟨rfl, rfl⟩
        simp only [Sum.elim_inl, Sum.elim_inr, HM.pure_apply]
        exact hq _ hs3
    · rw [if_neg h35] at hf
      by_cases h43 : hasB 43 x = true
      · by_cases h1 : x.size ≤ 1
        · rw [h43, decide_eq_true h1, Bool.or_true, Bool.true_and] at hf
          refine bind_cut (fun z h'' => h'' = h' ∧ z = .inl ()) ?_ ?_
          · refine bind_cut (fun z h'' => h'' = h' ∧ z = .inl ()) ?_ ?_
            · refine bind_cut (fun z h'' => h'' = h' ∧ z = .inr (.inl ())) ?_ ?_
              · refine bind_call1 (Contains_spec (c := 35) ⟨_, rfl, ?_⟩)
                (try dsimp only); rw [HM.ite_apply, if_neg h35]
                refine bind_call1 (Contains_spec (c := 43) ⟨_, rfl, ?_⟩)
                (try dsimp only); rw [HM.ite_apply, if_pos h43]
                exact ⟨rfl, rfl⟩
              rintro z h'' ⟨rfl, rfl⟩
              exact ⟨rfl, rfl⟩
            rintro z h'' ⟨rfl, rfl⟩
            simp only [Sum.elim_inl]
            (try dsimp only); rw [HM.ite_apply, if_neg (by simp only [decide_eq_true_eq]; omega)]
            exact ⟨rfl, rfl⟩
          rintro z h'' ⟨rfl, rfl⟩
          simp only [Sum.elim_inl, Sum.elim_inr, HM.pure_apply]
          exact .mk (g - 1) (by omega) ⟨rfl, rfl, by omega, hf⟩
        · rw [h43, decide_eq_false h1, Bool.or_false, Bool.not_true, Bool.false_and] at hf
          rw [hf, if_neg (by simp)] at hq
          refine bind_cut (fun z h'' => h'' = h' ∧ z = .inr (.inr (.inr (143, ())))) ?_ ?_
          · refine bind_cut (fun z h'' => h'' = h' ∧ z = .inl ()) ?_ ?_
            · refine bind_cut (fun z h'' => h'' = h' ∧ z = .inr (.inl ())) ?_ ?_
              · refine bind_call1 (Contains_spec (c := 35) ⟨_, rfl, ?_⟩)
                (try dsimp only); rw [HM.ite_apply, if_neg h35]
                refine bind_call1 (Contains_spec (c := 43) ⟨_, rfl, ?_⟩)
                (try dsimp only); rw [HM.ite_apply, if_pos h43]
                exact ⟨rfl, rfl⟩
              rintro z h'' ⟨rfl, rfl⟩
              exact ⟨rfl, rfl⟩
            rintro z h'' ⟨rfl, rfl⟩
            simp only [Sum.elim_inl]
            (try dsimp only); rw [HM.ite_apply, if_pos (by simp only [decide_eq_true_eq]; omega)]
            exact ⟨rfl, rfl⟩
          rintro z h'' ⟨rfl, rfl⟩
          simp only [Sum.elim_inl, Sum.elim_inr, HM.pure_apply]
          exact hq _ hs3
      · simp only [Bool.not_eq_true] at h43
        rw [h43, Bool.not_false, Bool.true_or, Bool.true_and] at hf
        refine bind_cut (fun z h'' => h'' = h' ∧ z = .inl ()) ?_ ?_
        · refine bind_cut (fun z h'' => h'' = h' ∧ z = .inr (.inl ())) ?_ ?_
          · refine bind_cut (fun z h'' => h'' = h' ∧ z = .inr (.inr (.inl ()))) ?_ ?_
            · refine bind_call1 (Contains_spec (c := 35) ⟨_, rfl, ?_⟩)
              (try dsimp only); rw [HM.ite_apply, if_neg h35]
              refine bind_call1 (Contains_spec (c := 43) ⟨_, rfl, ?_⟩)
              (try dsimp only); rw [HM.ite_apply, if_neg (by rw [h43]; simp)]
              exact ⟨rfl, rfl⟩
            rintro z h'' ⟨rfl, rfl⟩
            exact ⟨rfl, rfl⟩
          rintro z h'' ⟨rfl, rfl⟩
          exact ⟨rfl, rfl⟩
        rintro z h'' ⟨rfl, rfl⟩
        simp only [Sum.elim_inl, Sum.elim_inr, HM.pure_apply]
        exact .mk (g - 1) (by omega) ⟨rfl, rfl, by omega, hf⟩
  · rw [if_neg (by simp only [decide_eq_true_eq, hlen]; omega)]
    simp only [Sum.elim_inl, Sum.elim_inr, HM.pure_apply]
    have : l.drop (l.length - g) = [] := by simp; omega
    rw [this] at hf
    rw [hf] at hq
    exact hq _ hs3

end Go.Proofs.YtnpgpijkofbknaaGreatDoor
