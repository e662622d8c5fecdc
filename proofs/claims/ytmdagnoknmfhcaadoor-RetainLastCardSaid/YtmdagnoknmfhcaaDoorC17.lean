/-
  C17: the plain law of stores: the program's and the document's go together; what the document fixes.
-/
import Derived.Test.YtmdagnoknmfhcaaDoorCsr
namespace Go.Proofs.YtmdagnoknmfhcaaDoor
open Go.H Go.Proofs Go.Lib
set_option linter.unusedSimpArgs false
set_option linter.unusedVariables false
set_option synthInstance.maxSize 100000
set_option synthInstance.maxHeartbeats 400000
set_option maxRecDepth 100000

/-- a store and the document's -/
structure Sto (most : Int) (l : List (ByteArray × MsgT)) (L : List MsgT) : Prop where
  rel : Rel ltS (fun m : MsgT => m.1) l L
  len : (l.length : Int) ≤ most
  small : ∀ p ∈ l, p.1.size ≤ 256

theorem Sto.nil {most : Int} (h : 0 ≤ most) : Sto most [] [] := ⟨Rel.nil, by simpa using h, by simp⟩

variable {most : Int} {l : List (ByteArray × MsgT)} {L : List MsgT}

theorem Sto.lenL (h : Sto most l L) (hm : most ≤ 64) : l.length ≤ 64 ∧ L.length ≤ 64 := by
  have := h.len
  have := h.rel.len
  omega
theorem Sto.smallL (h : Sto most l L) : ∀ m ∈ L, m.1.size ≤ 256 := fun m hm => h.small (m.1, m) (h.rel.mem.2 ⟨hm, rfl⟩)

theorem Sto.get (h : Sto most l L) (k : ByteArray) : mget l k = getR L k := h.rel.get ordS k

theorem empty_size (x : ByteArray) : x = ByteArray.mk #[] ↔ x.size = 0 := by
  constructor
  · rintro rfl; rfl
  · intro h0
    refine data_inj ?_
    have : x.data.toList.length = 0 := by rw [Array.length_toList]; exact h0
    rw [List.length_eq_zero_iff.1 this]

theorem rest_len {k : ByteArray} : (restR L k).length = L.length ↔ getR L k = none := by
  unfold restR getR
  rw [List.length_filter_eq_length_iff, List.find?_eq_none]
  constructor
  · intro h x hx; simpa using h x hx
  · intro h x hx; simpa using h x hx

theorem Sto.set (h : Sto most l L) (m : MsgT) : (setP most l m).1 = (setR most L m).1 ∧ Sto most (setP most l m).2 (setR most L m).2 := by
  unfold setP setR
  by_cases h1 : nameOK m.1 = false
  · rw [if_pos h1, if_pos h1]; exact ⟨rfl, h⟩
  rw [if_neg h1, if_neg h1]
  have hsz : m.1.size ≤ 256 := sizedT_le (nameOK_sized (by simpa using h1))
  by_cases h2 : m.2.2.1 < 0 ∨ 2 < m.2.2.1
  · rw [if_pos h2, if_pos h2]; exact ⟨rfl, h⟩
  rw [if_neg h2, if_neg h2]
  by_cases h3 : m.2.1 = ByteArray.mk #[]
  · rw [if_pos h3, if_pos ((empty_size _).1 h3)]
    refine ⟨rfl, h.rel.del m.1, ?_, fun p hp => ?_⟩
    · have := h.len
      have h4 : (mdel l m.1).length ≤ l.length := by rw [mdel_filter h.rel.nd]; exact List.length_filter_le _ _
      simp only
      omega
    · rw [mdel_filter h.rel.nd] at hp
      exact h.small p (List.mem_filter.1 hp).1
  rw [if_neg h3, if_neg (fun e => h3 ((empty_size _).2 e))]
  have hget := h.get m.1
  have hll := h.rel.len
  by_cases h4 : mget l m.1 = none
  · have h5 := rest_len.2 (hget ▸ h4)
    by_cases h6 : most ≤ l.length
    · rw [if_pos ⟨h4, h6⟩, if_pos ⟨h5, by rw [h5]; omega⟩]; exact ⟨rfl, h⟩
    · rw [if_neg (fun e => h6 e.2), if_neg (fun e => h6 (by have := e.2; rw [h5] at this; omega))]
      refine ⟨rfl, h.rel.set ordS m, ?_, fun p hp => ?_⟩
      · rw [mset_none _ _ _ h4]
        simp only [List.length_append, List.length_cons, List.length_nil]
        omega
      · rw [mset_none _ _ _ h4] at hp
        rcases List.mem_append.1 hp with hp | hp
        · exact h.small p hp
        · rw [List.mem_singleton.1 hp]; exact hsz
  · have h5 : ¬ (restR L m.1).length = L.length := fun e => h4 (hget.trans (rest_len.1 e))
    rw [if_neg (fun e => h4 e.1), if_neg (fun e => h5 e.1)]
    have hp := mset_perm (l := l) (k := m.1) (x := m)
    refine ⟨rfl, h.rel.set ordS m, ?_, fun p hpm => ?_⟩
    · have h6 := hp.length_eq
      have hlt : (mdel l m.1).length < l.length := by
        rw [mdel_filter h.rel.nd]
        refine Nat.lt_of_le_of_ne (List.length_filter_le _ _) fun e => ?_
        rw [List.length_filter_eq_length_iff] at e
        refine h4 ((mget_none_iff _ _).2 fun hm => ?_)
        obtain ⟨q, hq, e2⟩ := List.mem_map.1 hm
        have := e q hq
        simp [e2] at this
      have := h.len
      simp only [List.length_cons] at h6
      simp only
      omega
    · rcases List.mem_cons.1 (hp.mem_iff.1 hpm) with rfl | hpm
      · exact hsz
      · rw [mdel_filter h.rel.nd] at hpm
        exact h.small p (List.mem_filter.1 hpm).1

theorem Sto.hit (h : Sto most l L) (f : ByteArray) : hitP l f (sortS (l.map (·.1))) = hitR L f := by
  unfold hitP hitR
  rw [h.rel.sorted]
  have : ∀ T : List MsgT, (∀ m ∈ T, m ∈ L) → (List.filter (matchB f) (T.map fun m => m.1)).map (fun n => (mget l n).getD zM) = T.filter fun m => matchB f m.1 := by
    intro T
    induction T with
    | nil => intro _; rfl
    | cons m T ih =>
      intro hT
      have ih := ih fun m hm => hT m (List.mem_cons_of_mem _ hm)
      rw [List.map_cons, List.filter_cons, List.filter_cons]
      split
      · rw [List.map_cons, ih, h.rel.of_mem ordS (hT m (List.mem_cons_self ..))]
        rfl
      · exact ih
  exact this L fun _ hm => hm

/-! ### what the document fixes -/

def wms : List MsgT := [(ByteArray.mk #[97, 47, 98], ByteArray.mk #[120], 1, ()), (ByteArray.mk #[97, 47, 99], ByteArray.mk #[121], 0, ()), (ByteArray.mk #[97, 47, 98], ByteArray.mk #[], 0, ())]
def wst : Nat → List (ByteArray × MsgT)
  | 0 => []
  | 1 => [(ByteArray.mk #[97, 47, 98], ByteArray.mk #[97, 47, 98], ByteArray.mk #[120], 1, ())]
  | 2 => [(ByteArray.mk #[97, 47, 98], ByteArray.mk #[97, 47, 98], ByteArray.mk #[120], 1, ()), (ByteArray.mk #[97, 47, 99], ByteArray.mk #[97, 47, 99], ByteArray.mk #[121], 0, ())]
  | _ => [(ByteArray.mk #[97, 47, 99], ByteArray.mk #[97, 47, 99], ByteArray.mk #[121], 0, ())]

theorem ok_ab : nameOK (ByteArray.mk #[97, 47, 98]) = true := by decide +kernel
theorem ok_ac : nameOK (ByteArray.mk #[97, 47, 99]) = true := by decide +kernel
theorem hit_ac : matchB (ByteArray.mk #[97, 47, 43]) (ByteArray.mk #[97, 47, 99]) = true := by decide +kernel
theorem ac_ab : ¬ (ByteArray.mk #[97, 47, 98] : ByteArray) = ByteArray.mk #[97, 47, 99] := by decide +kernel

theorem wset0 : setP 5 (wst 0) (ByteArray.mk #[97, 47, 98], ByteArray.mk #[120], 1, ()) = (0, wst 1) := by
  unfold setP
  rw [if_neg (by simp [ok_ab]), if_neg (by decide), if_neg (by decide +kernel), if_neg (by decide +kernel)]
  rfl
theorem wset1 : setP 5 (wst 1) (ByteArray.mk #[97, 47, 99], ByteArray.mk #[121], 0, ()) = (0, wst 2) := by
  unfold setP
  rw [if_neg (by simp [ok_ac]), if_neg (by decide), if_neg (by decide +kernel), if_neg (by decide +kernel)]
  simp only [wst, mset, if_neg ac_ab]
theorem wset2 : setP 5 (wst 2) (ByteArray.mk #[97, 47, 98], ByteArray.mk #[], 0, ()) = (0, wst 3) := by
  unfold setP
  rw [if_neg (by simp [ok_ab]), if_neg (by decide), if_pos (by rfl)]
  simp only [wst, mdel, if_true]
theorem whit : hitP (wst 3) (ByteArray.mk #[97, 47, 43]) (sortS ((wst 3).map (·.1))) = [(ByteArray.mk #[97, 47, 99], ByteArray.mk #[121], 0, ())] := by
  have e : sortS ((wst 3).map (·.1)) = [ByteArray.mk #[97, 47, 99]] := by
    unfold sortS wst
    simp [ofL]
  rw [e]
  unfold hitP
  rw [List.filter_cons, hit_ac, if_pos rfl]
  simp [wst, mget]

theorem own_flat {α : Type} {enc : α → List Value} {size : Nat} {h : Heap} {R : List Asn} (henc : ∀ x, (enc x).length = size) {b : Nat} {xs : List α} {cs : Array Value} (he : cs = (xs.flatMap enc).toArray) (hs : sat h (cells b cs :: R)) :
    sat h (ownS enc size ⟨some ⟨b, 0, none⟩, xs.length, xs.length⟩ xs :: R) := by
  subst he
  refine ownS_mk (o := 0) ⟨by simp, Nat.le_refl _, rfl, by simp [flat_len henc], ?_⟩ hs
  simp only [Nat.zero_mul, List.drop_zero, List.toList_toArray]
  rw [List.take_of_length_le (by rw [flat_len henc]; exact Nat.le_refl _)]

variable {h h0 : Heap} {R : List Asn}

theorem wakes_spec (hs : sat h (old h0 :: R)) (ht : TP h0) {Q : Value → Heap → Prop} (hq : ∀ h', sat h' (old h0 :: R) → Q (.bool true) h') : HCalls Tryd.prog 14 #[] h Q := by
  refine law17_wakes_calls h Q ?_
  unfold law17_wakes
  refine bind_call1 (retNew_spec hs 5 fun b h1 hs1 => ⟨some ⟨b, 0, none⟩, rfl, ?_⟩)
  refine new_cells hs1 fun x h2 hs2 => ?_
  have hs3 : sat h2 (stoA b 5 (wst 0) :: old h0 :: ownS encG 3 ⟨some ⟨x, 0, none⟩, 3, 3⟩ wms :: R) := (own_flat (enc := encG) (xs := wms) eG_len rfl hs2).re [1, 2, 0]
  clear hs2 hs1
  (try dsimp only); rw [HM.bind_apply]
  refine loop_gx (γ := Nat) (hb := fun s => by
      repeat' with_reducible first
        | refine @mono_bind _ _ _ _ ?_ (fun _ => ?_)
        | refine @mono_ite _ _ _ _ ?_ ?_
      all_goals infer_instance)
    (fun g c h' => c.1 = (((3 - g : Nat)) : Int) ∧ g ≤ 3 ∧ sat h' (stoA b 5 (wst (3 - g)) :: old h0 :: ownS encG 3 ⟨some ⟨x, 0, none⟩, 3, 3⟩ wms :: R)) (fun g => g) 3 ⟨rfl, Nat.le_refl _, by rw [Nat.sub_self]; exact hs3⟩ ?_
  rintro g ⟨c, ⟨⟩⟩ h3 ⟨hc, hg, hs4⟩
  simp only at hc
  subst hc
  (try dsimp only); rw [HM.ite_apply]
  by_cases hi : 3 - g < 3
  · rw [if_pos (by simp only [decide_eq_true_eq]; omega)]
    obtain ⟨m, hm⟩ : ∃ m, wms[3 - g]? = some m := ⟨_, List.getElem?_eq_getElem (by simpa [wms] using hi)⟩
    have hstep : setP 5 (wst (3 - g)) m = (0, wst (3 - (g - 1))) ∧ m.1.size ≤ 256 := by
      match g, hi, hm with
      | 3, _, hm => cases hm; exact ⟨wset0, by decide⟩
      | 2, _, hm => cases hm; exact ⟨wset1, by decide⟩
      | 1, _, hm => cases hm; exact ⟨wset2, by decide⟩
    obtain ⟨hstep, hmz⟩ := hstep
    (try dsimp only); rw [HM.bind_apply]
    refine idx_row (s := ⟨some ⟨x, 0, none⟩, 3, 3⟩) ((hs4.re [2, 0, 1]).own_row eG_len) hm fun a ha => ?_
    (try dsimp only); rw [HM.bind_apply]
    refine load_enc ha ?_
    refine new_cells hs4 fun y h4 hs5 => ?_
    (try dsimp only); rw [HM.bind_apply]
    refine storeN_all' hs5 rfl rfl fun h5 hs6' => ?_
    have hs6 : sat h5 (cells y (encG m).toArray :: stoA b 5 (wst (3 - g)) :: old h0 :: ownS encG 3 ⟨some ⟨x, 0, none⟩, 3, 3⟩ wms :: R) := hs6'
    refine loadN_cells (ts := [.str, .str, .int .i64]) m hs6 rfl ?_
    refine bind_call1 (Set_spec (b := b) (m := m) (hs6.re [1, 2, 0]) ht (by omega) fun h6 hs7 => ⟨_, rfl, ?_⟩)
    rw [hstep] at hs7 ⊢
    (try dsimp only); rw [HM.ite_apply, if_neg (by simp)]
    simp only [Sum.elim_inl, Sum.elim_inr, HM.pure_apply]
    exact .mk (g - 1) (by omega) ⟨by simp only; rw [wrap_id (by omega) (by omega)]; omega, by omega, (hs7.re [2, 0, 1]).drop⟩
  · rw [if_neg (by simp only [decide_eq_true_eq]; omega)]
    simp only [Sum.elim_inl, Sum.elim_inr, HM.pure_apply]
    have hg0 : g = 0 := by omega
    subst hg0
    rw [show (3 - 0 : Nat) = 3 from rfl] at hs4
    refine bind_call1 (Match_st (b := b) hs4 ht (by decide) (by decide) (by
      intro p hp
      rw [List.mem_singleton.1 hp]
      decide) fun sl h4 hs5 => ⟨sl, rfl, ?_⟩)
    rw [whit] at hs5
    have hl := hs5.own_len
    refine bind_cut (fun z h' => h' = h4 ∧ z.1 = true) ?_ ?_
    · (try dsimp only); rw [HM.ite_apply, if_pos (by rw [hl]; rfl)]
      (try dsimp only); rw [HM.bind_apply]
      refine idx_row (i := 0) (hs5.own_row eG_len) rfl fun a ha => ?_
      (try dsimp only); rw [HM.bind_apply]
      refine load_enc ha ⟨rfl, ?_⟩
      decide
    rintro ⟨z, ⟨⟩⟩ h5 ⟨rfl, hz⟩
    simp only at hz
    subst hz
    exact hq _ hs5.drop.drop.p1.drop

end Go.Proofs.YtmdagnoknmfhcaaDoor
