/-
  C09: contracts of law 9: run, wakes, same.
-/
import Derived.Test.YtnpgpijkofbknaaGreatDoorCtrh
namespace Go.Proofs.YtnpgpijkofbknaaGreatDoor
open Go.H Go.Proofs
set_option linter.unusedSimpArgs false
set_option linter.unusedVariables false
set_option synthInstance.maxSize 100000
set_option synthInstance.maxHeartbeats 400000
set_option maxRecDepth 100000

variable {h h0 : Heap} {R : List Asn}

/-- what comes of an Add -/
inductive AddOut (L : List Ent) (id q : Int) (f : ByteArray) : Int → List Ent → Prop
  | bad : filterOK f = false → AddOut L id q f 143 L
  | qos : filterOK f = true → (q < 0 ∨ 2 < q) → AddOut L id q f 155 L
  | set (i : Nat) (x : Ent) : filterOK f = true → 0 ≤ q → q ≤ 2 → L[i]? = some x → keyE x = (id, f) → AddOut L id q f 0 (L.set i (id, f, q))
  | full : filterOK f = true → 0 ≤ q → q ≤ 2 → (∀ x ∈ L, keyE x ≠ (id, f)) → 64 ≤ cntL L id → AddOut L id q f 151 L
  | ins : filterOK f = true → 0 ≤ q → q ≤ 2 → (∀ x ∈ L, keyE x ≠ (id, f)) → cntL L id < 64 → AddOut L id q f 0 (insS ltK keyE (id, f, q) L)

theorem asc_idx {L : List Ent} (h : Asc L) {i j : Nat} {x y : Ent} (hi : L[i]? = some x) (hj : L[j]? = some y) (e : keyE x = keyE y) : i = j := by
  obtain ⟨h1, rfl⟩ := List.getElem?_eq_some_iff.1 hi
  obtain ⟨h2, rfl⟩ := List.getElem?_eq_some_iff.1 hj
  rcases Nat.lt_trichotomy i j with h3 | h3 | h3
  · have := List.pairwise_iff_getElem.1 h i j h1 h2 h3
    rw [e] at this
    exact absurd this (ordK.irr _)
  · exact h3
  · have := List.pairwise_iff_getElem.1 h j i h2 h1 h3
    rw [e] at this
    exact absurd this (ordK.irr _)

theorem AddOut.one {L L1 L2 : List Ent} {id q c1 c2 : Int} {f : ByteArray} (ha : Asc L) (h1 : AddOut L id q f c1 L1) (h2 : AddOut L id q f c2 L2) : c1 = c2 ∧ L1 = L2 := by
  have hmem : ∀ {i : Nat} {x : Ent}, L[i]? = some x → x ∈ L := fun h => List.mem_of_getElem? h
  cases h1 with
  | bad a1 =>
    cases h2 with
    | bad b1 => exact ⟨rfl, rfl⟩
    | qos b1 => rw [a1] at b1; cases b1
    | set i x b1 => rw [a1] at b1; cases b1
    | full b1 => rw [a1] at b1; cases b1
    | ins b1 => rw [a1] at b1; cases b1
  | qos a1 a2 =>
    cases h2 with
    | bad b1 => rw [a1] at b1; cases b1
    | qos b1 => exact ⟨rfl, rfl⟩
    | set i x b1 b2 b3 => omega
    | full b1 b2 b3 => omega
    | ins b1 b2 b3 => omega
  | set i x a1 a2 a3 a4 a5 =>
    cases h2 with
    | bad b1 => rw [a1] at b1; cases b1
    | qos b1 b2 => omega
    | set j y b1 b2 b3 b4 b5 =>
      have := asc_idx ha a4 b4 (a5.trans b5.symm)
      subst this
      exact ⟨rfl, rfl⟩
    | full b1 b2 b3 b4 => exact absurd a5 (b4 x (hmem a4))
    | ins b1 b2 b3 b4 => exact absurd a5 (b4 x (hmem a4))
  | full a1 a2 a3 a4 a5 =>
    cases h2 with
    | bad b1 => rw [a1] at b1; cases b1
    | qos b1 b2 => omega
    | set j y b1 b2 b3 b4 b5 => exact absurd b5 (a4 y (hmem b4))
    | full b1 b2 b3 b4 b5 => exact ⟨rfl, rfl⟩
    | ins b1 b2 b3 b4 b5 => omega
  | ins a1 a2 a3 a4 a5 =>
    cases h2 with
    | bad b1 => rw [a1] at b1; cases b1
    | qos b1 b2 => omega
    | set j y b1 b2 b3 b4 b5 => exact absurd b5 (a4 y (hmem b4))
    | full b1 b2 b3 b4 b5 => omega
    | ins b1 b2 b3 b4 b5 => exact ⟨rfl, rfl⟩

theorem AddOut.len {L L' : List Ent} {id q c : Int} {f : ByteArray} (h : AddOut L id q f c L') : L'.length ≤ L.length + 1 := by
  cases h
  · omega
  · omega
  · rw [List.length_set]; omega
  · omega
  · rw [(insS_perm ltK keyE _ L).length_eq]; simp
theorem AddOut.code {L L' : List Ent} {id q c : Int} {f : ByteArray} (h : AddOut L id q f c L') : 0 ≤ c ∧ c ≤ 255 := by
  cases h <;> decide

theorem AddOut.ids {L L' : List Ent} {id q c : Int} {f : ByteArray} (h : AddOut L id q f c L') : ∀ y ∈ L', y ∈ L ∨ y.1 = id := by
  intro y hy
  cases h
  · exact .inl hy
  · exact .inl hy
  · rcases List.mem_or_eq_of_mem_set hy with h | h
    · exact .inl h
    · exact .inr (by rw [h])
  · exact .inl hy
  · rcases List.mem_cons.1 ((insS_perm ltK keyE _ L).mem_iff.1 hy) with h | h
    · exact .inr (by rw [h])
    · exact .inl h

theorem tAdd9 {t : Nat} {L : List Ent} (ht : TP h0) {id q : Int} {f : ByteArray} (hsz : f.size ≤ 9223372036854775807) (hl : L.length ≤ 100000) (hs : sat h (trieA t L :: old h0 :: R)) {Q : Value → Heap → Prop}
    (hq : ∀ c L' h', AddOut L id q f c L' → sat h' (trieA t L' :: old h0 :: R) → Q (.int .u8 c) h') : HCalls Tryz.prog 13 #[at9 t, vEnt id f q] h Q :=
  tAdd_spec ht hsz hl hs (fun a h' hs' => hq _ _ h' (.bad a) hs') (fun a b h' hs' => hq _ _ h' (.qos a b) hs') (fun a b c i x d e h' hs' => hq _ _ h' (.set i x a b c d e) hs') (fun a b c d e h' hs' => hq _ _ h' (.full a b c d e) hs') (fun a b c d e h' hs' => hq _ _ h' (.ins a b c d e) hs')

theorem rAdd9 {r : Nat} {L : List Ent} {id q : Int} {f : ByteArray} (hsz : f.size ≤ 9223372036854775800) (hl : L.length ≤ 10000) (hs : sat h (refA9 r L :: R)) {Q : Value → Heap → Prop}
    (hq : ∀ c L' h', AddOut L id q f c L' → sat h' (refA9 r L' :: R) → Q (.int .i64 c) h') : HCalls Tryz.prog 19 #[at9 r, vEnt id f q] h Q :=
  rAdd_spec hsz hl hs (fun a h' hs' => hq _ _ h' (.bad a) hs') (fun a b h' hs' => hq _ _ h' (.qos a b) hs') (fun a b c i x d e _ h' hs' => hq _ _ h' (.set i x a b c d e) hs') (fun a b c d e h' hs' => hq _ _ h' (.full a b c d e) hs') (fun a b c d e h' hs' => hq _ _ h' (.ins a b c d e) hs')

abbrev encAct9 (x : Int × Int × ByteArray × Int) : List Value := [.int .i64 x.1, .int .i64 x.2.1, .string x.2.2.1, .int .i64 x.2.2.2]

set_option maxHeartbeats 2000000 in
theorem run9_spec (ht : TP h0) {s : Slc} {xs : List (Int × Int × ByteArray × Int)} (hr : RowAt encAct9 4 h0 s xs) (hsz : ∀ x ∈ xs, x.2.2.1.size ≤ 16777216) (hs : sat h (old h0 :: R)) {Q : Value → Heap → Prop}
    (hq : ∀ t r L h', L.length ≤ 100 → (∀ x ∈ L, ∃ a ∈ xs.take (min 100 xs.length), a.2.1 = x.1) → sat h' (trieA t L :: refA9 r L :: old h0 :: R) → Q (.tuple #[at9 t, at9 r, .bool true]) h') :
    HCalls Tryz.prog 5 #[.slice s.a s.len s.cap] h Q := by
  refine law09_run_calls s h Q ?_
  have he : (if 100 < ((s.len : Nat) : Int) then (100 : Int) else ((s.len : Nat) : Int)) = ((min 100 xs.length : Nat) : Int) := by
    rw [hr.1]; split <;> omega
  unfold law09_run
  rw [he]
  refine bind_call1 (tNew_spec hs fun t h1 hs1 => ⟨some ⟨t, 0, none⟩, rfl, ?_⟩)
  refine new_cells hs1 fun r h2 hs2 => ?_
  have hs3 : sat h2 (trieA t [] :: refA9 r [] :: old h0 :: R) := by
    have h3 := ownS_nil (enc := encE) (size := 3) hs2
    have h4 : sat h2 (refA9 r [] :: trieA t [] :: old h0 :: R) := refA9_iff.2 ⟨⟨none, 0, 0⟩, h3.p1⟩
    exact h4.p1
  clear hs1 hs2 hs
  refine slice_row hr (Nat.min_le_right _ _) fun s' hr' => ?_
  have hsz' : ∀ x ∈ xs.take (min 100 xs.length), x.2.2.1.size ≤ 16777216 := fun x hx => hsz x (List.mem_of_mem_take hx)
  have hys1 : (xs.take (min 100 xs.length)).length ≤ 100 := by simp; omega
  generalize xs.take (min 100 xs.length) = ys at hr' hsz' hys1 hq
  have hlen := hr'.1
  (try dsimp only); rw [HM.bind_apply]
  refine loop_gx (γ := Nat × List Ent) (hb := fun s => by
      repeat' with_reducible first
        | refine @mono_bind _ _ _ _ ?_ (fun _ => ?_)
        | refine @mono_ite _ _ _ _ ?_ ?_
        | refine @mono_req _ _ _ ?_
      all_goals infer_instance)
    (fun g x h' => g.1 ≤ ys.length ∧ x.2.1 = (g.1 : Int) ∧ x.1 = true ∧ g.2.length ≤ g.1 ∧ (∀ x ∈ g.2, ∃ a ∈ ys, a.2.1 = x.1) ∧ sat h' (trieA t g.2 :: refA9 r g.2 :: old h0 :: R)) (fun g => ys.length - g.1) (0, [])
    ⟨Nat.zero_le _, rfl, rfl, Nat.le_refl _, by simp, hs3⟩ ?_
  clear hs3
  rintro ⟨i, L⟩ ⟨ok, ci, ⟨⟩⟩ h3 ⟨hi, hci, hok, hL, hids, hs3⟩
  simp only at hi hci hok hL hids hs3
  subst hci
  subst hok
  have next : IntKind.wrap .i64 ((i : Int) + 1) = ((i + 1 : Nat) : Int) := by rw [wrap_id (by omega) (by omega)]; rfl
  simp only [HM.ite_apply, decide_eq_true_eq]
  by_cases hlt : i < ys.length
  · rw [if_pos (by omega), HM.bind_apply]
    have hx := List.getElem?_eq_getElem hlt
    have hxs := hsz' ys[i] (List.getElem_mem hlt)
    generalize ys[i] = x at hx hxs
    obtain ⟨d, id, f, q⟩ := x
    simp only at hxs
    refine idx_row hr' hx fun a ha => ?_
    refine loadN_of (ts := [.int .i64, .int .i64, .str, .int .i64]) (d, id, f, q, ()) (fun j v hv => hs3.p2.old_cell (ha j v hv)) ?_
    refine new_cells hs3 fun x8 h4 hs4 => ?_
    (try dsimp only); rw [HM.bind_apply]
    refine storeN_all' hs4 rfl rfl fun h5 hs5' => ?_
    have hs5 : sat h5 (trieA t L :: old h0 :: refA9 r L :: cells x8 #[.int .i64 d, .int .i64 id, .string f, .int .i64 q] :: R) := hs5'.re [1, 3, 2, 0]
    clear hs5' hs4 hs3
    have hE : ∀ {h' : Heap} {R' : List Asn}, sat h' (cells x8 #[.int .i64 d, .int .i64 id, .string f, .int .i64 q] :: R') → cellH h' ⟨x8, 0, none⟩ = some (.int .i64 d) ∧ cellH h' ⟨x8, 1, none⟩ = some (.int .i64 id) ∧ cellH h' ⟨x8, 2, none⟩ = some (.string f) ∧ cellH h' ⟨x8, 3, none⟩ = some (.int .i64 q) := fun hs' => ⟨hs'.cell 0, hs'.cell 1, hs'.cell 2, hs'.cell 3⟩
    have eid : ((⟨x8, 0, none⟩ : Addr).add 1).add 0 = ⟨x8, 1, none⟩ := rfl
    have ef : ((⟨x8, 0, none⟩ : Addr).add 1).add 1 = ⟨x8, 2, none⟩ := rfl
    have hN : ∀ {h' : Heap} {R' : List Asn} {Q' : Int × ByteArray × Int × Unit → Heap → Prop}, sat h' (cells x8 #[.int .i64 d, .int .i64 id, .string f, .int .i64 q] :: R') → Q' (id, f, q, ()) h' → HM.loadN [.int .i64, .str, .int .i64] ((⟨x8, 0, none⟩ : Addr).add 1) h' Q' := by
      intro h' R' Q' hs' hq'
      refine loadN_of (ts := [.int .i64, .str, .int .i64]) (id, f, q, ()) (fun j v hv => ?_) hq'
      obtain ⟨e0, e1, e2, e3⟩ := hE hs'
      match j, hv with
      | 0, hv => cases hv; exact e1
      | 1, hv => cases hv; exact e2
      | 2, hv => cases hv; exact e3
      | j + 3, hv => cases hv
    have hLl : L.length ≤ 100 := by omega
    refine ⟨d, by rw [add_own]; exact (hE hs5.p3).1, ⟨by decide, ?_⟩⟩
    -- what is done
    refine bind_cut (fun z h' => h' = h5 ∧ z.1 = (d.tmod 5 == 1 || d.tmod 5 == -1)) ?_ ?_
    · rw [HM.ite_apply]
      by_cases g1 : (d.tmod 5 == 1) = true
      · rw [if_pos g1]; exact ⟨rfl, by rw [g1]; rfl⟩
      · rw [if_neg g1]; exact ⟨rfl, by simp only [Bool.not_eq_true] at g1; rw [g1]; rfl⟩
    rintro ⟨z, ⟨⟩⟩ h6 ⟨rfl, hz⟩
    simp only at hz
    clear hz
    refine bind_cut (fun x h' => x.1 = true ∧ ∃ L' : List Ent, L'.length ≤ L.length + 1 ∧ (∀ y ∈ L', y ∈ L ∨ y.1 = id) ∧ sat h' (trieA t L' :: refA9 r L' :: old h0 :: R)) ?_ ?_
    · rw [HM.ite_apply]
      cases z with
      | true =>
        rw [if_pos rfl]
        refine bind_cut (fun x h' => x.1 = true ∧ ∃ L' : List Ent, L'.length ≤ L.length + 1 ∧ (∀ y ∈ L', y ∈ L ∨ y.1 = id) ∧ sat h' (trieA t L' :: refA9 r L' :: old h0 :: R)) ?_ (fun x h' hh => hh)
        (try dsimp only); rw [HM.ite_apply, if_pos rfl]
        refine ⟨id, by rw [eid]; exact (hE hs5.p3).2.1, f, by rw [ef]; exact (hE hs5.p3).2.2.1, id, by rw [eid]; exact (hE hs5.p3).2.1, f, by rw [ef]; exact (hE hs5.p3).2.2.1, ?_⟩
        refine bind_call1 (tRemove_spec ht hxs (by omega) hs5 fun h7 hs7 => ⟨_, rfl, ?_⟩)
        refine ⟨f, by rw [ef]; exact (hE hs7.p3).2.2.1, rfl, id, by rw [eid]; exact (hE hs7.p3).2.1, rfl, ?_⟩
        refine bind_call1 (rRemove_spec (by omega) (hs7.re [2, 0, 1, 3]) fun h8 hs8 => ⟨_, rfl, ?_⟩)
        exact ⟨by simp, delL L id f, Nat.le_trans (List.length_filter_le _ _) (by omega), fun y hy => .inl (List.mem_filter.1 hy).1, (hs8.re [3, 1, 0, 2]).drop⟩
      | false =>
        rw [if_neg (by simp)]
        refine bind_cut (fun z h' => h' = h6) ?_ ?_
        · (try dsimp only); rw [HM.ite_apply]; split <;> rfl
        rintro ⟨z2, ⟨⟩⟩ h7 rfl
        refine bind_cut (fun x h' => x.1 = true ∧ ∃ L' : List Ent, L'.length ≤ L.length + 1 ∧ (∀ y ∈ L', y ∈ L ∨ y.1 = id) ∧ sat h' (trieA t L' :: refA9 r L' :: old h0 :: R)) ?_ (fun x h' hh => hh)
        (try dsimp only); rw [HM.ite_apply]
        cases z2 with
        | true =>
          rw [if_pos rfl]
          refine bind_cut (fun x h' => x.1 = true ∧ ∃ L' : List Ent, L'.length ≤ L.length + 1 ∧ (∀ y ∈ L', y ∈ L ∨ y.1 = id) ∧ sat h' (trieA t L' :: refA9 r L' :: old h0 :: R)) ?_ (fun x h' hh => hh)
          (try dsimp only); rw [HM.ite_apply, if_pos rfl]
          refine ⟨id, by rw [eid]; exact (hE hs5.p3).2.1, id, by rw [eid]; exact (hE hs5.p3).2.1, ?_⟩
          refine bind_call1 (tDrop_spec ht (by omega) hs5 fun h8 hs8 => ⟨_, rfl, ?_⟩)
          refine ⟨id, by rw [eid]; exact (hE hs8.p3).2.1, rfl, ?_⟩
          refine bind_call1 (rDrop_spec (by omega) (hs8.re [2, 0, 1, 3]) fun h9 hs9 => ⟨_, rfl, ?_⟩)
          exact ⟨by simp, dropL id L, Nat.le_trans (List.length_filter_le _ _) (by omega), fun y hy => .inl (List.mem_filter.1 hy).1, (hs9.re [3, 1, 0, 2]).drop⟩
        | false =>
          rw [if_neg (by simp)]
          refine bind_cut (fun x h' => x.1 = true ∧ ∃ L' : List Ent, L'.length ≤ L.length + 1 ∧ (∀ y ∈ L', y ∈ L ∨ y.1 = id) ∧ sat h' (trieA t L' :: refA9 r L' :: old h0 :: R)) ?_ (fun x h' hh => hh)
          (try dsimp only); rw [HM.ite_apply, if_pos rfl]
          refine hN hs5.p3 ?_
          refine hN hs5.p3 ?_
          have hasc := (trie_good hs5).2
          refine bind_call1 (tAdd9 (f := f) ht (by omega) (by omega) hs5 fun c L' h8 ho hs8 => ⟨c, rfl, ?_⟩)
          refine hN hs8.p3 ?_
          refine ⟨rfl, ?_⟩
          refine bind_call1 (rAdd9 (f := f) (by omega) (by omega) (hs8.re [2, 0, 1, 3]) fun c2 L2 h9 ho2 hs9 => ⟨c2, rfl, ?_⟩)
          obtain ⟨rfl, rfl⟩ := ho.one hasc ho2
          have hc := ho.code
          refine ⟨?_, L', ho.len, ho.ids, (hs9.re [3, 1, 0, 2]).drop⟩
          simp only []
          rw [wrap_id (by omega) (by omega)]
          simp
    rintro ⟨x, ⟨⟩⟩ h7 ⟨hx1, L', hL', hI', hs7⟩
    simp only at hx1
    subst hx1
    simp only [Sum.elim_inl, Sum.elim_inr, HM.pure_apply]
    refine .mk (i + 1, L') (by simp only []; omega) ⟨by simp only []; omega, next, rfl, by simp only []; omega, fun y hy => ?_, hs7⟩
    rcases hI' y hy with h | h
    · exact hids y h
    · exact ⟨_, List.mem_of_getElem? hx, h.symm⟩
  · rw [if_neg (by omega)]
    simp only [Sum.elim_inl, Sum.elim_inr, HM.pure_apply]
    exact hq t r L h3 (by omega) hids hs3

/-! ### wakes -/

def e9a : Ent := (1, ByteArray.mk #[97, 47, 43], 0)
def e9b : Ent := (2, ByteArray.mk #[97, 47, 98], 1)
def e9c : Ent := (1, ByteArray.mk #[35], 2)
def E9 : List Ent := [e9a, e9b, e9c]
def W9 : Nat → List Ent
  | 0 => []
  | 1 => [e9a]
  | 2 => [e9a, e9b]
  | _ => [e9c, e9a, e9b]

theorem ok9a : filterOK (ByteArray.mk #[97, 47, 43]) = true := by decide +kernel
theorem ok9b : filterOK (ByteArray.mk #[97, 47, 98]) = true := by decide +kernel
theorem ok9c : filterOK (ByteArray.mk #[35]) = true := by decide +kernel
theorem m9 : (W9 3).filter (fun x => matchB x.2.1 (ByteArray.mk #[97, 47, 98])) = W9 3 := by decide +kernel

theorem ins9b : insS ltK keyE e9b [e9a] = [e9a, e9b] := by decide +kernel
theorem ins9c : insS ltK keyE e9c [e9a, e9b] = [e9c, e9a, e9b] := by decide +kernel

theorem step9 {i : Nat} {e : Ent} (hi : E9[i]? = some e) : AddOut (W9 i) e.1 e.2.2 e.2.1 0 (W9 (i + 1)) := by
  match i, hi with
  | 0, hi =>
    cases hi
    exact .ins ok9a (by decide) (by decide) (by simp [W9]) (by decide)
  | 1, hi =>
    cases hi
    have := AddOut.ins (L := W9 1) (id := 2) (q := 1) ok9b (by decide) (by decide) (by intro x hx; rw [List.mem_singleton.1 hx]; decide) (by decide)
    rw [show insS ltK keyE (2, ByteArray.mk #[97, 47, 98], 1) (W9 1) = W9 2 from ins9b] at this
    exact this
  | 2, hi =>
    cases hi
    have := AddOut.ins (L := W9 2) (id := 1) (q := 2) ok9c (by decide) (by decide) (by
      intro x hx
      have : x = e9a ∨ x = e9b := by simpa [W9] using hx
      rcases this with rfl | rfl <;> decide) (by decide)
    rw [show insS ltK keyE (1, ByteArray.mk #[35], 2) (W9 2) = W9 3 from ins9c] at this
    exact this
  | i + 3, hi => cases hi

theorem wakes9_spec (ht : TP h0) (hs : sat h (old h0 :: R)) {Q : Value → Heap → Prop} (hq : ∀ h', sat h' (old h0 :: R) → Q (.bool true) h') : HCalls Tryz.prog 6 #[] h Q := by
  refine law09_wakes_calls h Q ?_
  unfold law09_wakes
  refine bind_call1 (tNew_spec hs fun t h1 hs1 => ⟨some ⟨t, 0, none⟩, rfl, ?_⟩)
  refine new_cells hs1 fun x2 h2 hs2 => ?_
  have hs3 : sat h2 (ownS encE 3 ⟨some ⟨x2, 0, none⟩, 3, 3⟩ E9 :: trieA t [] :: old h0 :: R) := ownS_mk (o := 0) ⟨rfl, Nat.le_refl _, rfl, by simp, by simp [E9, e9a, e9b, e9c]⟩ hs2
  clear hs2 hs1 hs
  (try dsimp only); rw [HM.bind_apply]
  refine loop_gx (γ := Nat) (hb := fun s => by
      repeat' with_reducible first
        | refine @mono_bind _ _ _ _ ?_ (fun _ => ?_)
        | refine @mono_ite _ _ _ _ ?_ ?_
        | refine @mono_req _ _ _ ?_
      all_goals infer_instance)
    (fun g x h' => g ≤ 3 ∧ x.1 = (g : Int) ∧ sat h' (ownS encE 3 ⟨some ⟨x2, 0, none⟩, 3, 3⟩ E9 :: trieA t (W9 g) :: old h0 :: R)) (fun g => 3 - g) 0
    ⟨Nat.zero_le _, rfl, hs3⟩ ?_
  clear hs3
  rintro i ⟨ci, ⟨⟩⟩ h3 ⟨hi, hci, hs3⟩
  simp only at hi hci hs3
  subst hci
  have next : IntKind.wrap .i64 ((i : Int) + 1) = ((i + 1 : Nat) : Int) := by rw [wrap_id (by omega) (by omega)]; rfl
  simp only [HM.ite_apply, decide_eq_true_eq]
  by_cases hlt : i < 3
  · rw [if_pos (by omega), HM.bind_apply]
    have hx : E9[i]? = some (E9[i]'hlt) := List.getElem?_eq_getElem hlt
    generalize E9[i]'hlt = e at hx
    have hst := step9 hx
    refine idx_row (s := ⟨some ⟨x2, 0, none⟩, 3, 3⟩) (hs3.own_row eE_len) hx fun a ha => ?_
    refine loadN_of (ts := [.int .i64, .str, .int .i64]) (e.1, e.2.1, e.2.2, ()) (fun j v hv => ha j v hv) ?_
    refine new_cells hs3 fun x7 h4 hs4 => ?_
    (try dsimp only); rw [HM.bind_apply]
    refine storeN_all' hs4 rfl rfl fun h5 hs5 => ?_
    refine loadN_cells (ts := [.int .i64, .str, .int .i64]) (e.1, e.2.1, e.2.2, ()) hs5 rfl ?_
    have hez : e.2.1.size ≤ 9223372036854775807 := by
      match i, hx with
      | 0, hx => cases hx; decide
      | 1, hx => cases hx; decide
      | 2, hx => cases hx; decide
      | i + 3, hx => cases hx
    have hwl : (W9 i).length ≤ 100000 := by
      match i, hx with
      | 0, hx => decide
      | 1, hx => decide
      | 2, hx => decide
      | i + 3, hx => cases hx
    have hs6 : sat h5 (trieA t (W9 i) :: old h0 :: ownS encE 3 ⟨some ⟨x2, 0, none⟩, 3, 3⟩ E9 :: R) := (hs5.re [0, 2, 3, 1]).drop
    have hasc := (trie_good hs6).2
    refine bind_call1 (tAdd9 (f := e.2.1) ht hez hwl hs6 fun c L' h6 ho hs7 => ⟨c, rfl, ?_⟩)
    obtain ⟨rfl, rfl⟩ := ho.one hasc hst
    (try dsimp only); rw [HM.ite_apply, if_neg (by decide)]
    simp only [Sum.elim_inl, Sum.elim_inr, HM.pure_apply]
    exact .mk (i + 1) (by omega) ⟨by omega, next, hs7.re [2, 0, 1]⟩
  · rw [if_neg (by omega)]
    have : i = 3 := by omega
    subst this
    simp only [Sum.elim_inl, Sum.elim_inr, HM.pure_apply]
    refine bind_call1 (tMatch_spec ht (by decide) (by decide) hs3.drop fun s h4 hs4 => ⟨s, rfl, ?_⟩)
    rw [m9] at hs4
    have hsl : s.len = 3 := hs4.own_len
    have hro := hs4.own_row eE_len
    refine bind_cut (fun z h' => h' = h4 ∧ z.1 = true) ?_ ?_
    · (try dsimp only); rw [HM.ite_apply, if_pos (by rw [hsl]; rfl)]
      (try dsimp only); rw [HM.bind_apply]
      refine idx_row (i := 0) hro (x := e9c) rfl fun a ha => ?_
      refine loadN_of (ts := [.int .i64, .str, .int .i64]) (e9c.1, e9c.2.1, e9c.2.2, ()) (fun j v hv => ha j v hv) ?_
      (try dsimp only); rw [HM.ite_apply, if_pos (by decide)]
      (try dsimp only); rw [HM.bind_apply]
      refine idx_row (i := 2) hro (x := e9b) rfl fun a ha => ?_
      refine ⟨e9b.1, ha 0 _ rfl, rfl, ?_⟩
      decide
    rintro ⟨z, ⟨⟩⟩ h5 ⟨rfl, hz⟩
    simp only at hz
    subst hz
    exact hq h5 hs4.drop.drop

theorem same9_spec {s1 s2 : Slc} {L : List Ent} (hl : L.length ≤ 10000) (hs : sat h (ownS encE 3 s1 L :: ownS encE 3 s2 L :: R)) {Q : Value → Heap → Prop} (hq : Q (.bool true) h) :
    HCalls Tryz.prog 7 #[.slice s1.a s1.len s1.cap, .slice s2.a s2.len s2.cap] h Q := by
  refine law09_same_calls s1 s2 h Q ?_
  unfold law09_same
  have h1 := hs.own_len
  have h2 := hs.p1.own_len
  rw [HM.ite_apply, if_neg (by simp [h1, h2])]
  (try dsimp only); rw [HM.bind_apply]
  refine loop_gx (γ := Nat) (hb := fun s => by
      repeat' with_reducible first
        | refine @mono_bind _ _ _ _ ?_ (fun _ => ?_)
        | refine @mono_ite _ _ _ _ ?_ ?_
        | refine @mono_req _ _ _ ?_
      all_goals infer_instance)
    (fun g x h' => g ≤ L.length ∧ x.1 = (g : Int) ∧ h' = h) (fun g => L.length - g) 0
    ⟨Nat.zero_le _, rfl, rfl⟩ ?_
  rintro i ⟨ci, ⟨⟩⟩ h3 ⟨hi, hci, rfl⟩
  simp only at hi hci
  subst hci
  have next : IntKind.wrap .i64 ((i : Int) + 1) = ((i + 1 : Nat) : Int) := by rw [wrap_id (by omega) (by omega)]; rfl
  simp only [HM.ite_apply, decide_eq_true_eq]
  by_cases hlt : i < L.length
  · rw [if_pos (by omega), HM.bind_apply]
    have hx := List.getElem?_eq_getElem hlt
    generalize L[i] = e at hx
    refine idx_row (hs.own_row eE_len) hx fun a ha => ?_
    refine loadN_of (ts := [.int .i64, .str, .int .i64]) (e.1, e.2.1, e.2.2, ()) (fun j v hv => ha j v hv) ?_
    (try dsimp only); rw [HM.bind_apply]
    refine idx_row (hs.p1.own_row eE_len) hx fun a ha => ?_
    refine loadN_of (ts := [.int .i64, .str, .int .i64]) (e.1, e.2.1, e.2.2, ()) (fun j v hv => ha j v hv) ?_
    (try dsimp only); rw [HM.ite_apply, if_neg (by simp)]
    simp only [Sum.elim_inl, Sum.elim_inr, HM.pure_apply]
    exact .mk (i + 1) (by omega) ⟨by omega, next, rfl⟩
  · rw [if_neg (by omega)]
    simp only [Sum.elim_inl, Sum.elim_inr, HM.pure_apply]
    exact hq

end Go.Proofs.YtnpgpijkofbknaaGreatDoor
