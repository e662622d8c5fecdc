/-
  Ctrg: contracts: tries: Drop; the document's Remove, Drop, Match.
-/
import Derived.Test.YtnpgpijkofbknaaGreatDoorCtrf
import Derived.Test.YtnpgpijkofbknaaGreatDoorCrtp
namespace Go.Proofs.YtnpgpijkofbknaaGreatDoor
open Go.H Go.Proofs
set_option linter.unusedSimpArgs false
set_option linter.unusedVariables false
set_option synthInstance.maxSize 100000
set_option synthInstance.maxHeartbeats 400000
set_option maxRecDepth 100000

variable {h h0 : Heap} {R : List Asn}

theorem trie_good {t : Nat} {L : List Ent} (hs : sat h (trieA t L :: R)) : (∀ x ∈ L, filterOK x.2.1 = true) ∧ Asc L := by
  obtain ⟨N, C, hA, -, -⟩ := trieA_iff.1 hs
  exact ⟨hA.good, hA.asc⟩

def ninL (D : List Ent) (x : Ent) : Bool := !(D.any fun y => decide (y = x))
theorem ninL_iff {D : List Ent} {x : Ent} : ninL D x = true ↔ x ∉ D := by
  unfold ninL
  rw [Bool.not_eq_true', List.any_eq_false]
  constructor
  · intro h hx
    have := h x hx
    simp at this
  · intro h y hy e
    rw [decide_eq_true_eq] at e
    exact h (e ▸ hy)

/-- the list without somebody's -/
abbrev dropL (id : Int) (L : List Ent) : List Ent := L.filter fun x => !decide (x.1 = id)

theorem tDrop_spec {t : Nat} {L : List Ent} (ht : TP h0) {id : Int} (hl : L.length ≤ 10000) (hs : sat h (trieA t L :: old h0 :: R)) {Q : Value → Heap → Prop}
    (hq : ∀ h', sat h' (trieA t (dropL id L) :: old h0 :: R) → Q (.int .i64 ((ofL9 id L).length : Nat)) h') :
    HCalls Tryz.prog 17 #[at9 t, .int .i64 id] h Q := by
  refine trie_Trie_Drop_calls (some ⟨t, 0, none⟩) id h Q ?_
  unfold trie_Trie_Drop
  obtain ⟨hgood, hasc⟩ := trie_good hs
  refine bind_call1 (tFor_spec hl hs fun s h1 hs1 => ⟨s, rfl, ?_⟩)
  have hlen := hs1.own_len
  have hDl : (ofL9 id L).length ≤ L.length := List.length_filter_le _ _
  have hD : ∀ e, e ∈ ofL9 id L ↔ e ∈ L ∧ e.1 = id := fun e => by rw [List.mem_filter, decide_eq_true_eq]
  have hfin : (L.filter fun x => ninL (ofL9 id L) x) = dropL id L := by
    refine List.filter_congr fun x hx => ?_
    apply Bool.eq_iff_iff.2
    rw [ninL_iff, hD, Bool.not_eq_true', decide_eq_false_iff_not]
    constructor
    · exact fun h e => h ⟨hx, e⟩
    · exact fun h e => h e.2
  generalize hDg : ofL9 id L = D at *
  (try dsimp only); rw [HM.bind_apply]
  refine loop_gx (γ := Nat) (hb := fun s => by
      repeat' with_reducible first
        | refine @mono_bind _ _ _ _ ?_ (fun _ => ?_)
        | refine @mono_ite _ _ _ _ ?_ ?_
        | refine @mono_req _ _ _ ?_
      all_goals infer_instance)
    (fun g x h' => g ≤ D.length ∧ x.1 = (g : Int) ∧ sat h' (ownS encE 3 s D :: trieA t (L.filter fun x => ninL (D.take g) x) :: old h0 :: R)) (fun g => D.length - g) 0
    ⟨Nat.zero_le _, rfl, by
      have e0 : (L.filter fun x => ninL (D.take 0) x) = L := List.filter_eq_self.2 fun x _ => rfl
      rw [e0]; exact hs1⟩ ?_
  clear hs1 hs
  rintro i ⟨ci, ⟨⟩⟩ h2 ⟨hi, hci, hs2⟩
  simp only at hi hci hs2
  subst hci
  have next : IntKind.wrap .i64 ((i : Int) + 1) = ((i + 1 : Nat) : Int) := by rw [wrap_id (by omega) (by omega)]; rfl
  simp only [HM.ite_apply, decide_eq_true_eq]
  by_cases hlt : i < D.length
  · rw [if_pos (by omega), HM.bind_apply]
    have hx := List.getElem?_eq_getElem hlt
    generalize D[i] = e at hx
    have heD := List.mem_of_getElem? hx
    obtain ⟨heL, heid⟩ := (hD e).1 heD
    refine idx_row (hs2.own_row eE_len) hx fun a ha => ?_
    refine loadN_of (ts := [.int .i64, .str, .int .i64]) (e.1, e.2.1, e.2.2, ()) (fun j v hv => ha j v hv) ?_
    refine new_cells hs2 fun x6 h3 hs3 => ?_
    (try dsimp only); rw [HM.bind_apply]
    refine storeN_all' hs3 rfl rfl fun h4 hs4' => ?_
    have hs4 : sat h4 (trieA t (L.filter fun x => ninL (D.take i) x) :: old h0 :: ownS encE 3 s D :: cells x6 #[.int .i64 e.1, .string e.2.1, .int .i64 e.2.2] :: R) := hs4'.re [2, 3, 1, 0]
    clear hs4' hs3 hs2
    refine ⟨e.2.1, by rw [add_own]; exact hs4.p3.cell 1, ?_⟩
    have hez := sizedT_le (filterOK_sized (hgood e heL))
    refine bind_call1 (tRemove_spec ht (by omega) (Nat.le_trans (List.length_filter_le _ _) (by omega)) hs4 fun h5 hs5 => ⟨_, rfl, ?_⟩)
    have hstep : delL (L.filter fun x => ninL (D.take i) x) id e.2.1 = L.filter fun x => ninL (D.take (i + 1)) x := by
      unfold delL
      rw [List.filter_filter]
      refine List.filter_congr fun x hxL => ?_
      have ht1 : D.take (i + 1) = D.take i ++ [e] := by rw [List.take_add_one, hx]; rfl
      rw [ht1]
      have hkey : keyE x = (id, e.2.1) ↔ x = e := by
        constructor
        · intro hk
          exact hasc.key hxL heL (hk.trans (by rw [← heid]))
        · rintro rfl
          rw [← heid]
      apply Bool.eq_iff_iff.2
      rw [Bool.and_eq_true, decide_eq_true_eq, ninL_iff, ninL_iff, List.mem_append, List.mem_singleton]
      constructor
      · rintro ⟨h1, h2⟩ (h3 | h3)
        · exact h2 h3
        · exact h1 (hkey.2 h3)
      · exact fun h1 => ⟨fun h2 => h1 (.inr (hkey.1 h2)), fun h2 => h1 (.inl h2)⟩
    rw [hstep] at hs5
    simp only [Sum.elim_inl, Sum.elim_inr, HM.pure_apply]
    exact .mk (i + 1) (by omega) ⟨by omega, next, (hs5.re [3, 2, 0, 1]).drop⟩
  · rw [if_neg (by omega)]
    have : i = D.length := by omega
    subst this
    rw [List.take_length, hfin] at hs2
    simp only [Sum.elim_inl, Sum.elim_inr, HM.pure_apply]
    rw [hlen]
    exact hq h2 hs2.drop

/-! ### the document's trie -/

def refA9 (r : Nat) (L : List Ent) : Asn := exA fun s : Slc => star (cells r #[.slice s.a s.len s.cap]) (ownS encE 3 s L)

theorem refA9_iff {r : Nat} {L : List Ent} : sat h (refA9 r L :: R) ↔ ∃ s : Slc, sat h (cells r #[.slice s.a s.len s.cap] :: ownS encE 3 s L :: R) := by
  unfold refA9
  rw [sat.ex_iff]
  constructor
  · rintro ⟨s, hs⟩; exact ⟨s, sat.star_iff.1 hs⟩
  · rintro ⟨s, hs⟩; exact ⟨s, sat.star_iff.2 hs⟩

theorem take_filter_snoc {α : Type} {L : List α} {i : Nat} {x : α} (hx : L[i]? = some x) (c : α → Bool) : (L.take (i + 1)).filter c = (L.take i).filter c ++ (if c x = true then [x] else []) := by
  rw [List.take_add_one, hx, List.filter_append]
  simp only [Option.toList_some, List.filter_cons, List.filter_nil]

theorem rRemove_spec {r : Nat} {L : List Ent} {id : Int} {f : ByteArray} (hl : L.length ≤ 10000) (hs : sat h (refA9 r L :: R)) {Q : Value → Heap → Prop}
    (hq : ∀ h', sat h' (refA9 r (delL L id f) :: R) → Q (.bool (decide ((delL L id f).length < L.length))) h') :
    HCalls Tryz.prog 16 #[at9 r, .int .i64 id, .string f] h Q := by
  refine ref09_Remove_calls (some ⟨r, 0, none⟩) id f h Q ?_
  unfold ref09_Remove
  obtain ⟨s, hs1⟩ := refA9_iff.1 hs
  have hlen := hs1.p1.own_len
  rw [HM.bind_apply]
  refine loop_gx (γ := Nat) (hb := fun s => by
      repeat' with_reducible first
        | refine @mono_bind _ _ _ _ ?_ (fun _ => ?_)
        | refine @mono_ite _ _ _ _ ?_ ?_
        | refine @mono_req _ _ _ ?_
      all_goals infer_instance)
    (fun g x h' => g ≤ L.length ∧ x.2.1 = (g : Int) ∧ sat h' (cells r #[.slice s.a s.len s.cap] :: ownS encE 3 s L :: ownS encE 3 x.1 (delL (L.take g) id f) :: R)) (fun g => L.length - g) 0
    ⟨Nat.zero_le _, rfl, by simpa [delL] using (ownS_nil (enc := encE) (size := 3) hs1).re [1, 2, 0]⟩ ?_
  clear hs1 hs
  rintro i ⟨o, ci, ⟨⟩⟩ h2 ⟨hi, hci, hs2⟩
  simp only at hi hci hs2
  subst hci
  have next : IntKind.wrap .i64 ((i : Int) + 1) = ((i + 1 : Nat) : Int) := by rw [wrap_id (by omega) (by omega)]; rfl
  have cr : ∀ {h' : Heap} {R' : List Asn}, sat h' (cells r #[.slice s.a s.len s.cap] :: R') → cellH h' ⟨r, 0, none⟩ = some (.slice s.a s.len s.cap) := fun hs' => hs'.cell 0
  refine ⟨_, rfl, s, by rw [add_own]; exact cr hs2, ?_⟩
  (try dsimp only); rw [HM.ite_apply]
  by_cases hlt : i < L.length
  · rw [if_pos (by simp only [decide_eq_true_eq]; omega)]
    have hx := List.getElem?_eq_getElem hlt
    generalize L[i] = e at hx
    refine bind_cut (fun x h' => h' = h2 ∧ x.1 = decide (keyE e ≠ (id, f))) ?_ ?_
    · refine ⟨_, rfl, s, by rw [add_own]; exact cr hs2, ?_⟩
      (try dsimp only); rw [HM.bind_apply]
      refine idx_row (hs2.p1.own_row eE_len) hx fun a ha => ?_
      refine ⟨e.1, ha 0 _ rfl, ?_⟩
      (try dsimp only); rw [HM.ite_apply]
      by_cases h1 : e.1 = id
      · rw [if_neg (by simp [h1])]
        refine ⟨_, rfl, s, by rw [add_own]; exact cr hs2, ?_⟩
        (try dsimp only); rw [HM.bind_apply]
        refine idx_row (hs2.p1.own_row eE_len) hx fun a ha => ?_
        refine ⟨e.2.1, ha 1 _ rfl, rfl, ?_⟩
        simp [h1]
      · rw [if_pos (by simp [h1])]
        exact ⟨rfl, by simp [h1]⟩
    rintro ⟨x, ⟨⟩⟩ h3 ⟨rfl, hxx⟩
    simp only at hxx
    subst hxx
    have hsn := take_filter_snoc hx (fun x : Ent => decide (keyE x ≠ (id, f)))
    have hbl : (delL (L.take i) id f).length ≤ 10000 := Nat.le_trans (List.length_filter_le _ _) (by rw [List.length_take]; omega)
    refine bind_cut (fun z h' => sat h' (cells r #[.slice s.a s.len s.cap] :: ownS encE 3 s L :: ownS encE 3 z.1 (delL (L.take (i + 1)) id f) :: R)) ?_ ?_
    · (try dsimp only); rw [HM.ite_apply]
      unfold delL at hbl hs2 ⊢
      rw [hsn]
      by_cases hk : decide (keyE e ≠ (id, f)) = true
      · rw [if_pos hk, if_pos hk]
        refine ⟨_, rfl, s, by rw [add_own]; exact cr hs2, ?_⟩
        (try dsimp only); rw [HM.bind_apply]
        refine idx_row (hs2.p1.own_row eE_len) hx fun a ha => ?_
        refine loadN_of (ts := [.int .i64, .str, .int .i64]) (e.1, e.2.1, e.2.2, ()) (fun j v hv => ha j v hv) ?_
        refine new_cells hs2 fun y h4 hs3 => ?_
        (try dsimp only); rw [HM.bind_apply]
        refine append_own (enc := encE) (ys := [e]) eE_len eE_cell rfl hs3.p3 rfl ?_ (by decide) (by decide) (by omega) fun s' h5 hs4 => ?_
        · simp only [srcSlc, Nat.one_mul, List.flatMap_cons, List.flatMap_nil, List.append_nil]
          exact hs3.reads rfl
        exact (hs4.re [1, 2, 3, 0]).drop
      · rw [if_neg hk, if_neg hk, List.append_nil]
        exact hs2
    rintro ⟨o', ⟨⟩⟩ h4 hs4
    simp only [Sum.elim_inl, Sum.elim_inr, HM.pure_apply]
    exact .mk (i + 1) (by omega) ⟨by omega, next, hs4⟩
  · rw [if_neg (by simp only [decide_eq_true_eq]; omega)]
    have : i = L.length := by omega
    subst this
    rw [List.take_length] at hs2
    simp only [Sum.elim_inl, Sum.elim_inr, HM.pure_apply]
    have hol := hs2.p2.own_len
    refine ⟨_, rfl, s, by rw [add_own]; exact cr hs2, _, rfl, ?_⟩
    (try dsimp only); rw [HM.bind_apply, add_own]
    refine store1_cells hs2 (by simp) rfl fun h5 hs5 => ?_
    have := hq h5 (refA9_iff.2 ⟨o, (hs5.re [1, 0, 2]).drop⟩)
    have e1 : decide (((o.len : Nat) : Int) < ((s.len : Nat) : Int)) = decide ((delL L id f).length < L.length) := by
      rw [decide_eq_decide, hol, hlen]; omega
    rw [← e1] at this
    exact this

theorem rDrop_spec {r : Nat} {L : List Ent} {id : Int} (hl : L.length ≤ 10000) (hs : sat h (refA9 r L :: R)) {Q : Value → Heap → Prop}
    (hq : ∀ h', sat h' (refA9 r (dropL id L) :: R) → Q (.int .i64 ((ofL9 id L).length : Nat)) h') :
    HCalls Tryz.prog 18 #[at9 r, .int .i64 id] h Q := by
  refine ref09_Drop_calls (some ⟨r, 0, none⟩) id h Q ?_
  unfold ref09_Drop
  obtain ⟨s, hs1⟩ := refA9_iff.1 hs
  have hlen := hs1.p1.own_len
  rw [HM.bind_apply]
  refine loop_gx (γ := Nat) (hb := fun s => by
      repeat' with_reducible first
        | refine @mono_bind _ _ _ _ ?_ (fun _ => ?_)
        | refine @mono_ite _ _ _ _ ?_ ?_
        | refine @mono_req _ _ _ ?_
      all_goals infer_instance)
    (fun g x h' => g ≤ L.length ∧ x.2.1 = (g : Int) ∧ sat h' (cells r #[.slice s.a s.len s.cap] :: ownS encE 3 s L :: ownS encE 3 x.1 (dropL id (L.take g)) :: R)) (fun g => L.length - g) 0
    ⟨Nat.zero_le _, rfl, by simpa [dropL] using (ownS_nil (enc := encE) (size := 3) hs1).re [1, 2, 0]⟩ ?_
  clear hs1 hs
  rintro i ⟨o, ci, ⟨⟩⟩ h2 ⟨hi, hci, hs2⟩
  simp only at hi hci hs2
  subst hci
  have next : IntKind.wrap .i64 ((i : Int) + 1) = ((i + 1 : Nat) : Int) := by rw [wrap_id (by omega) (by omega)]; rfl
  have cr : ∀ {h' : Heap} {R' : List Asn}, sat h' (cells r #[.slice s.a s.len s.cap] :: R') → cellH h' ⟨r, 0, none⟩ = some (.slice s.a s.len s.cap) := fun hs' => hs'.cell 0
  refine ⟨_, rfl, s, by rw [add_own]; exact cr hs2, ?_⟩
  (try dsimp only); rw [HM.ite_apply]
  by_cases hlt : i < L.length
  · rw [if_pos (by simp only [decide_eq_true_eq]; omega)]
    have hx := List.getElem?_eq_getElem hlt
    generalize L[i] = e at hx
    refine ⟨_, rfl, s, by rw [add_own]; exact cr hs2, ?_⟩
    (try dsimp only); rw [HM.bind_apply]
    refine idx_row (hs2.p1.own_row eE_len) hx fun a ha => ?_
    refine ⟨e.1, ha 0 _ rfl, ?_⟩
    have hsn := take_filter_snoc hx (fun x : Ent => !decide (x.1 = id))
    have hbl : (dropL id (L.take i)).length ≤ 10000 := Nat.le_trans (List.length_filter_le _ _) (by rw [List.length_take]; omega)
    refine bind_cut (fun z h' => sat h' (cells r #[.slice s.a s.len s.cap] :: ownS encE 3 s L :: ownS encE 3 z.1 (dropL id (L.take (i + 1))) :: R)) ?_ ?_
    · (try dsimp only); rw [HM.ite_apply]
      unfold dropL at hbl hs2 ⊢
      rw [hsn]
      have eb : (!(e.1 == id)) = (!decide (e.1 = id)) := rfl
      by_cases hk : (!decide (e.1 = id)) = true
      · rw [if_pos (by rw [eb]; exact hk), if_pos hk]
        refine ⟨_, rfl, s, by rw [add_own]; exact cr hs2, ?_⟩
        (try dsimp only); rw [HM.bind_apply]
        refine idx_row (hs2.p1.own_row eE_len) hx fun a ha => ?_
        refine loadN_of (ts := [.int .i64, .str, .int .i64]) (e.1, e.2.1, e.2.2, ()) (fun j v hv => ha j v hv) ?_
        refine new_cells hs2 fun y h4 hs3 => ?_
        (try dsimp only); rw [HM.bind_apply]
        refine append_own (enc := encE) (ys := [e]) eE_len eE_cell rfl hs3.p3 rfl ?_ (by decide) (by decide) (by omega) fun s' h5 hs4 => ?_
        · simp only [srcSlc, Nat.one_mul, List.flatMap_cons, List.flatMap_nil, List.append_nil]
          exact hs3.reads rfl
        exact (hs4.re [1, 2, 3, 0]).drop
      · rw [if_neg (by rw [eb]; exact hk), if_neg hk, List.append_nil]
        exact hs2
    rintro ⟨o', ⟨⟩⟩ h4 hs4
    simp only [Sum.elim_inl, Sum.elim_inr, HM.pure_apply]
    exact .mk (i + 1) (by omega) ⟨by omega, next, hs4⟩
  · rw [if_neg (by simp only [decide_eq_true_eq]; omega)]
    have : i = L.length := by omega
    subst this
    rw [List.take_length] at hs2
    simp only [Sum.elim_inl, Sum.elim_inr, HM.pure_apply]
    have hol := hs2.p2.own_len
    refine ⟨_, rfl, s, by rw [add_own]; exact cr hs2, _, rfl, ?_⟩
    (try dsimp only); rw [HM.bind_apply, add_own]
    refine store1_cells hs2 (by simp) rfl fun h5 hs5 => ?_
    have := hq h5 (refA9_iff.2 ⟨o, (hs5.re [1, 0, 2]).drop⟩)
    have hsum : (ofL9 id L).length + (dropL id L).length = L.length := by
      have := (List.filter_append_perm (fun x : Ent => decide (x.1 = id)) L).length_eq
      rw [List.length_append] at this
      exact this
    have e1 : IntKind.wrap .i64 (((s.len : Nat) : Int) - ((o.len : Nat) : Int)) = (((ofL9 id L).length : Nat) : Int) := by
      rw [hol, hlen, wrap_id (by omega) (by omega)]; omega
    (try dsimp only)
    rw [e1]
    exact this

end Go.Proofs.YtnpgpijkofbknaaGreatDoor
