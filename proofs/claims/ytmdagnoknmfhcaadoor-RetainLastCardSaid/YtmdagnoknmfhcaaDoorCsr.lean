/-
  Csr: contracts: the document's stores of messages.
-/
import Derived.Test.YtmdagnoknmfhcaaDoorCrtp
import Derived.Test.YtmdagnoknmfhcaaDoorCret
namespace Go.Proofs.YtmdagnoknmfhcaaDoor
open Go.H Go.Proofs Go.Lib
set_option linter.unusedSimpArgs false
set_option linter.unusedVariables false
set_option synthInstance.maxSize 100000
set_option synthInstance.maxHeartbeats 400000
set_option maxRecDepth 100000

variable {h h0 : Heap} {R : List Asn}

def storA (b : Nat) (most : Int) (L : List MsgT) : Asn := exA fun s : Slc => star (cells b #[.int .i64 most, .slice s.a s.len s.cap]) (ownS encG 3 s L)

theorem storA_iff {b : Nat} {most : Int} {L : List MsgT} : sat h (storA b most L :: R) ↔ ∃ s : Slc, sat h (cells b #[.int .i64 most, .slice s.a s.len s.cap] :: ownS encG 3 s L :: R) := by
  unfold storA
  rw [sat.ex_iff]
  constructor
  · rintro ⟨m, hs⟩; exact ⟨m, sat.star_iff.1 hs⟩
  · rintro ⟨m, hs⟩; exact ⟨m, sat.star_iff.2 hs⟩

theorem rNew_spec (hs : sat h R) (n : Int) {Q : Value → Heap → Prop} (hq : ∀ b h', sat h' (storA b (mostOf n) [] :: R) → Q (ptr0 b) h') : HCalls Tryd.prog 13 #[.int .i64 n] h Q := by
  refine ref17_New_calls n h Q ?_
  unfold ref17_New
  refine bind_cut (fun z h' => h' = h ∧ z.1 = if n < 0 then 0 else n) ?_ ?_
  · (try dsimp only); rw [HM.ite_apply]
    by_cases h1 : n < 0
    · rw [if_pos (by simpa using h1)]; exact ⟨rfl, by simp [h1]⟩
    · rw [if_neg (by simpa using h1)]; exact ⟨rfl, by simp [h1]⟩
  rintro ⟨x, ⟨⟩⟩ h1 ⟨rfl, hx⟩
  simp only at hx
  subst hx
  refine bind_cut (fun z h' => h' = h1 ∧ z.1 = mostOf n) ?_ ?_
  · (try dsimp only); rw [HM.ite_apply]
    unfold mostOf
    by_cases h2 : 64 < (if n < 0 then 0 else n)
    · rw [if_pos (by simpa using h2)]
      refine ⟨rfl, ?_⟩
      simp only
      split at h2 <;> split <;> split <;> omega
    · rw [if_neg (by simpa using h2)]
      refine ⟨rfl, ?_⟩
      simp only
      split at h2 <;> split <;> split <;> omega
  rintro ⟨x, ⟨⟩⟩ h2 ⟨rfl, hx⟩
  simp only at hx
  subst hx
  refine new_cells hs fun b h3 hs3 => ?_
  exact hq b h3 (storA_iff.2 ⟨⟨none, 0, 0⟩, (ownS_nil (enc := encG) (size := 3) hs3).p1⟩)

theorem load_enc {a : Addr} {m : MsgT} (ha : ∀ j v, (encG m)[j]? = some v → cellH h (a.add j) = some v) {Q : MsgT → Heap → Prop} (hq : Q m h) : HM.loadN [.str, .str, .int .i64] a h Q :=
  loadN_of (ts := [.str, .str, .int .i64]) m (fun i v hv => ha i v hv) hq

/-- the messages but for that of a topic -/
def restR (L : List MsgT) (k : ByteArray) : List MsgT := L.filter fun m => decide (m.1 ≠ k)

theorem without_spec {s : Slc} {L : List MsgT} {k : ByteArray} (hs : sat h (ownS encG 3 s L :: R)) (hL : L.length ≤ 1000) {Q : Value → Heap → Prop}
    (hq : ∀ (sl : Slc) h', sat h' (ownS encG 3 sl (restR L k) :: ownS encG 3 s L :: R) → Q (.slice sl.a sl.len sl.cap) h') : HCalls Tryd.prog 40 #[.slice s.a s.len s.cap, .string k] h Q := by
  refine ref17_without_calls s k h Q ?_
  unfold ref17_without
  have hlen := hs.own_len
  (try dsimp only); rw [HM.bind_apply]
  refine loop_gx (γ := Nat) (fun g c h' => c.2.1 = (((L.length - g : Nat)) : Int) ∧ g ≤ L.length ∧ sat h' (ownS encG 3 c.1 (restR (L.take (L.length - g)) k) :: ownS encG 3 s L :: R)) (fun g => g) L.length
    ⟨by simp, Nat.le_refl _, by rw [Nat.sub_self]; exact ownS_nil hs⟩ ?_
  rintro g ⟨out, c, ⟨⟩⟩ h2 ⟨hc, hg, hs5⟩
  simp only at hc hs5
  subst hc
  (try dsimp only); rw [HM.ite_apply]
  by_cases hi : L.length - g < L.length
  · rw [if_pos (by simp only [decide_eq_true_eq, hlen]; omega)]
    obtain ⟨m, hm⟩ : ∃ m, L[L.length - g]? = some m := ⟨_, List.getElem?_eq_getElem hi⟩
    have hw : IntKind.wrap .i64 ((((L.length - g : Nat)) : Int) + 1) = ((L.length - (g - 1) : Nat) : Int) := by rw [wrap_id (by omega) (by omega)]; omega
    have htake : L.take (L.length - (g - 1)) = L.take (L.length - g) ++ [m] := by
      rw [show L.length - (g - 1) = L.length - g + 1 by omega, List.take_add_one, hm]
      rfl
    (try dsimp only); rw [HM.bind_apply]
    refine idx_row (hs5.p1.own_row eG_len) hm fun a ha => ?_
    refine ⟨m.1, ha 0 _ rfl, ?_⟩
    refine bind_cut (fun z h' => sat h' (ownS encG 3 z.1 (restR (L.take (L.length - (g - 1))) k) :: ownS encG 3 s L :: R)) ?_ ?_
    · rw [htake]
      unfold restR
      rw [List.filter_append]
      (try dsimp only); rw [HM.ite_apply]
      by_cases he : m.1 = k
      · rw [if_neg (by simpa using he)]
        simp only [List.filter_cons, he, ne_eq, not_true_eq_false, decide_false, Bool.false_eq_true, if_false, List.filter_nil, List.append_nil]
        exact hs5
      · rw [if_pos (by simpa using he)]
        (try dsimp only); rw [HM.bind_apply]
        refine idx_row (hs5.p1.own_row eG_len) hm fun a' ha' => ?_
        (try dsimp only); rw [HM.bind_apply]
        refine load_enc ha' ?_
        have hsmall : (restR (L.take (L.length - g)) k).length ≤ 1000 := by
          unfold restR
          refine Nat.le_trans (List.length_filter_le _ _) ?_
          rw [List.length_take]
          omega
        refine app_new (x := m) eG_len eG_cell rfl hs5 (by decide) (by decide) (by omega) fun s' h4 hs7 => ?_
        simp only [List.filter_cons, he, ne_eq, not_false_eq_true, decide_true, if_true, List.filter_nil]
        exact hs7
    rintro ⟨z, ⟨⟩⟩ h4 hs7
    simp only [Sum.elim_inl, Sum.elim_inr, HM.pure_apply]
    exact .mk (g - 1) (by omega) ⟨by simp only [hw], by omega, hs7⟩
  · rw [if_neg (by simp only [decide_eq_true_eq, hlen]; omega)]
    rw [List.take_of_length_le (by omega)] at hs5
    exact hq out h2 hs5

def setR (most : Int) (L : List MsgT) (m : MsgT) : Int × List MsgT :=
  if nameOK m.1 = false then (144, L)
  else if m.2.2.1 < 0 ∨ 2 < m.2.2.1 then (155, L)
  else if m.2.1.size = 0 then (0, restR L m.1)
  else if (restR L m.1).length = L.length ∧ most ≤ (restR L m.1).length then (151, L)
  else (0, insS ltS (·.1) m (restR L m.1))

/-- what is put together on the way -/
def goIns (m : MsgT) : List MsgT → Bool × List MsgT
  | [] => (false, [])
  | x :: r => if ltS m.1 x.1 then (true, m :: x :: r) else ((goIns m r).1, x :: (goIns m r).2)
theorem ins_go (m : MsgT) : ∀ L : List MsgT, insS ltS (·.1) m L = (if (goIns m L).1 = true then (goIns m L).2 else (goIns m L).2 ++ [m])
  | [] => rfl
  | x :: r => by
    unfold insS goIns
    split
    · simp
    · rw [ins_go m r]
      split <;> rename_i h1 <;> simp [h1]

/-- the loop's state behind some of the messages: has it been put; what there is -/
def insSt (m : MsgT) (L : List MsgT) : Bool × List MsgT := L.foldl (fun c x => if c.1 = false ∧ ltS m.1 x.1 then (true, c.2 ++ [m, x]) else (c.1, c.2 ++ [x])) (false, [])
theorem insSt_snoc (m : MsgT) (L : List MsgT) (x : MsgT) : insSt m (L ++ [x]) = (if (insSt m L).1 = false ∧ ltS m.1 x.1 then (true, (insSt m L).2 ++ [m, x]) else ((insSt m L).1, (insSt m L).2 ++ [x])) := by
  unfold insSt
  rw [List.foldl_append]
  rfl
theorem insSt_true (m : MsgT) : ∀ (L out : List MsgT), L.foldl (fun c x => if c.1 = false ∧ ltS m.1 x.1 then (true, c.2 ++ [m, x]) else (c.1, c.2 ++ [x])) (true, out) = (true, out ++ L)
  | [], out => by simp
  | x :: r, out => by
    rw [List.foldl_cons, if_neg (by simp), insSt_true m r]
    simp
theorem insSt_go (m : MsgT) : ∀ (L out : List MsgT), L.foldl (fun c x => if c.1 = false ∧ ltS m.1 x.1 then (true, c.2 ++ [m, x]) else (c.1, c.2 ++ [x])) (false, out) = ((goIns m L).1, out ++ (goIns m L).2)
  | [], out => by simp [goIns]
  | x :: r, out => by
    rw [List.foldl_cons]
    by_cases hx : ltS m.1 x.1
    · rw [if_pos ⟨rfl, hx⟩, insSt_true]
      simp [goIns, hx]
    · rw [if_neg (fun h => hx h.2), insSt_go m r]
      simp [goIns, hx]
theorem insSt_end (m : MsgT) (L : List MsgT) : insS ltS (·.1) m L = (if (insSt m L).1 = true then (insSt m L).2 else (insSt m L).2 ++ [m]) := by
  unfold insSt
  rw [insSt_go, ins_go]
  simp
theorem insSt_len (m : MsgT) : ∀ (L : List MsgT), (insSt m L).2.length ≤ L.length + 1 := fun L => by
  unfold insSt
  rw [insSt_go]
  have := (insS_perm ltS (fun x : MsgT => x.1) m L).length_eq
  rw [ins_go] at this
  simp only [List.nil_append, List.length_cons] at this ⊢
  split at this
  · omega
  · simp at this; omega

theorem rSet_spec {b : Nat} {most : Int} {L : List MsgT} {m : MsgT} (hs : sat h (storA b most L :: R)) (hL : L.length ≤ 64) (hsz : m.1.size ≤ 9223372036854775800) {Q : Value → Heap → Prop}
    (hq : ∀ h', sat h' (storA b most (setR most L m).2 :: R) → Q (.int .i64 (setR most L m).1) h') : HCalls Tryd.prog 16 #[ptr0 b, vM m] h Q := by
  refine ref17_Set_calls (some ⟨b, 0, none⟩) m h Q ?_
  obtain ⟨s, hs⟩ := storA_iff.1 hs
  unfold ref17_Set
  refine new_cells hs fun x h1 hs1 => ?_
  refine ⟨m.1, by rw [add_own]; exact hs1.cell 0, ?_⟩
  refine bind_call1 (rCheckName_spec hs1 hsz fun h2 hs2' => ⟨_, rfl, ?_⟩)
  have hs2 : sat h2 (cells x (encG m).toArray :: cells b #[.int .i64 most, .slice s.a s.len s.cap] :: ownS encG 3 s L :: R) := hs2'
  clear hs2' hs1 hs
  have fin : ∀ {h'}, sat h' (cells x (encG m).toArray :: cells b #[.int .i64 most, .slice s.a s.len s.cap] :: ownS encG 3 s L :: R) → sat h' (storA b most L :: R) := fun hh => storA_iff.2 ⟨s, hh.drop⟩
  unfold setR at hq
  (try dsimp only); rw [HM.ite_apply]
  cases hn : nameOK m.1 with
  | false =>
    rw [if_pos hn] at hq
    rw [if_pos (by simp [nameC, hn])]
    exact hq _ (fin hs2)
  | true =>
  rw [if_neg (by simp [hn])] at hq
  rw [if_neg (by simp [nameC, hn])]
  refine bind_cut (fun z h' => h' = h2 ∧ z.1 = decide (m.2.2.1 < 0 ∨ 2 < m.2.2.1)) ?_ ?_
  · refine ⟨m.2.2.1, by rw [add_own]; exact hs2.cell 2, ?_⟩
    (try dsimp only); rw [HM.ite_apply]
    by_cases h1 : m.2.2.1 < 0
    · rw [if_pos (by simpa using h1)]
      exact ⟨rfl, by simp [h1]⟩
    · rw [if_neg (by simpa using h1)]
      refine ⟨m.2.2.1, by rw [add_own]; exact hs2.cell 2, rfl, ?_⟩
      simp [h1]
  rintro ⟨z, ⟨⟩⟩ h3 ⟨rfl, hz⟩
  simp only at hz
  subst hz
  (try dsimp only); rw [HM.ite_apply]
  by_cases hqs : m.2.2.1 < 0 ∨ 2 < m.2.2.1
  · rw [if_pos hqs] at hq
    rw [if_pos (by simpa using hqs)]
    exact hq _ (fin hs2)
  rw [if_neg hqs] at hq
  rw [if_neg (by simpa using hqs)]
  refine ⟨_, rfl, s, by rw [add_own]; exact hs2.p1.cell 1, ?_⟩
  refine ⟨m.1, by rw [add_own]; exact hs2.cell 0, ?_⟩
  refine bind_call1 (without_spec (hs2.re [2, 0, 1]) (by omega) fun sl h4 hs4' => ⟨sl, rfl, ?_⟩)
  have hs4 : sat h4 (cells x (encG m).toArray :: cells b #[.int .i64 most, .slice s.a s.len s.cap] :: ownS encG 3 sl (restR L m.1) :: ownS encG 3 s L :: R) := hs4'.re [2, 3, 0, 1]
  clear hs4' hs2
  have hrl : (restR L m.1).length ≤ 64 := Nat.le_trans (List.length_filter_le _ _) hL
  generalize restR L m.1 = T at hs4 hq hrl
  have hl1 : sl.len = T.length := (hs4.re [2, 0, 1]).own_len
  have hl2 : s.len = L.length := (hs4.re [3, 0, 1, 2]).own_len
  refine ⟨m.2.1, by rw [add_own]; exact hs4.cell 1, ?_⟩
  (try dsimp only); rw [HM.ite_apply]
  by_cases hp : m.2.1.size = 0
  · rw [if_pos hp] at hq
    rw [if_pos (by simp [hp])]
    refine ⟨_, rfl, ?_⟩
    (try dsimp only); rw [HM.bind_apply, add_own]
    refine store1_cells hs4.p1 (by simp) rfl fun h5 hs5 => ?_
    exact hq _ (storA_iff.2 ⟨sl, (hs5.re [0, 2, 1, 3]).re [0, 1] |>.re [2, 3, 0, 1] |>.drop.drop⟩)
  rw [if_neg hp] at hq
  rw [if_neg (by simpa using hp)]
  refine bind_cut (fun z h' => h' = h4 ∧ z.1 = decide (T.length = L.length ∧ most ≤ T.length)) ?_ ?_
  · refine ⟨_, rfl, s, by rw [add_own]; exact hs4.p1.cell 1, ?_⟩
    (try dsimp only); rw [HM.ite_apply]
    by_cases he : T.length = L.length
    · rw [if_pos (by simp [hl1, hl2, he])]
      refine ⟨_, rfl, most, by rw [add_own]; exact hs4.p1.cell 0, rfl, ?_⟩
      rw [hl1]
      simp [he]
    · rw [if_neg (by simp [hl1, hl2]; omega)]
      exact ⟨rfl, by simp [he]⟩
  rintro ⟨z, ⟨⟩⟩ h5 ⟨rfl, hz⟩
  simp only at hz
  subst hz
  (try dsimp only); rw [HM.ite_apply]
  by_cases hc : T.length = L.length ∧ most ≤ T.length
  · rw [if_pos hc] at hq
    rw [if_pos (by simpa using hc)]
    exact hq _ (storA_iff.2 ⟨s, (hs4.drop.re [1, 0, 2]).drop⟩)
  rw [if_neg hc] at hq
  rw [if_neg (by simpa using hc)]
  (try dsimp only); rw [HM.bind_apply]
  refine loop_gx (γ := Nat) (hb := fun s => by
      repeat' with_reducible first
        | refine @mono_bind _ _ _ _ ?_ (fun _ => ?_)
        | refine @mono_ite _ _ _ _ ?_ ?_
      all_goals infer_instance)
    (fun g c h' => c.2.2.1 = (((T.length - g : Nat)) : Int) ∧ g ≤ T.length ∧ c.1 = (insSt m (T.take (T.length - g))).1 ∧
      sat h' (ownS encG 3 c.2.1 (insSt m (T.take (T.length - g))).2 :: cells x (encG m).toArray :: cells b #[.int .i64 most, .slice s.a s.len s.cap] :: ownS encG 3 sl T :: ownS encG 3 s L :: R)) (fun g => g) T.length
    ⟨by simp, Nat.le_refl _, by simp [insSt], by
      rw [Nat.sub_self]
      exact ownS_nil hs4⟩ ?_
  rintro g ⟨pb, out, c, ⟨⟩⟩ h2 ⟨hc', hg, hpb, hs5⟩
  simp only at hc' hs5 hpb
  subst hc'
  subst hpb
  (try dsimp only); rw [HM.ite_apply]
  by_cases hi : T.length - g < T.length
  · rw [if_pos (by simp only [decide_eq_true_eq, hl1]; omega)]
    obtain ⟨y, hy⟩ : ∃ y, T[T.length - g]? = some y := ⟨_, List.getElem?_eq_getElem hi⟩
    have hw : IntKind.wrap .i64 ((((T.length - g : Nat)) : Int) + 1) = ((T.length - (g - 1) : Nat) : Int) := by rw [wrap_id (by omega) (by omega)]; omega
    have htake : T.take (T.length - (g - 1)) = T.take (T.length - g) ++ [y] := by
      rw [show T.length - (g - 1) = T.length - g + 1 by omega, List.take_add_one, hy]
      rfl
    have hstep := insSt_snoc m (T.take (T.length - g)) y
    rw [← htake] at hstep
    have hsm := insSt_len m (T.take (T.length - g))
    rw [List.length_take] at hsm
    generalize insSt m (T.take (T.length - g)) = st at hs5 hstep hsm ⊢
    refine bind_cut (fun z h' => h' = h2 ∧ z.1 = decide (st.1 = false ∧ ltS m.1 y.1)) ?_ ?_
    · (try dsimp only); rw [HM.ite_apply]
      cases hst : st.1 with
      | true => rw [if_neg (by simp)]; exact ⟨rfl, by simp⟩
      | false =>
        rw [if_pos (by rfl)]
        refine ⟨m.1, by rw [add_own]; exact hs5.p1.cell 0, ?_⟩
        (try dsimp only); rw [HM.bind_apply]
        refine idx_row ((hs5.re [3, 0, 1, 2]).own_row eG_len) hy fun a ha => ?_
        refine ⟨y.1, ha 0 _ rfl, rfl, ?_⟩
        simp only [less_ltS, true_and]
    rintro ⟨z, ⟨⟩⟩ h6 ⟨rfl, hz⟩
    simp only at hz
    subst hz
    refine bind_cut (fun z h' => z.2.1 = (insSt m (T.take (T.length - (g - 1)))).1 ∧ ∃ pre, pre ++ [y] = (insSt m (T.take (T.length - (g - 1)))).2 ∧ pre.length ≤ 100 ∧ sat h' (ownS encG 3 z.1 pre :: cells x (encG m).toArray :: cells b #[.int .i64 most, .slice s.a s.len s.cap] :: ownS encG 3 sl T :: ownS encG 3 s L :: R)) ?_ ?_
    · rw [hstep]
      (try dsimp only); rw [HM.ite_apply]
      by_cases hcc : st.1 = false ∧ ltS m.1 y.1
      · rw [if_pos (by simpa using hcc), if_pos hcc]
        refine loadN_cells (ts := [.str, .str, .int .i64]) m hs5.p1 rfl ?_
        refine app_new (x := m) eG_len eG_cell rfl hs5 (by decide) (by decide) (by omega) fun s' h7 hs7 => ?_
        exact ⟨rfl, st.2 ++ [m], by simp, by simp; omega, hs7⟩
      · rw [if_neg (by simpa using hcc), if_neg hcc]
        exact ⟨rfl, st.2, rfl, by omega, hs5⟩
    rintro ⟨z1, z2, ⟨⟩⟩ h7 ⟨hz2, pre, hpre, hplen, hs7⟩
    simp only at hz2 hs7
    (try dsimp only); rw [HM.bind_apply]
    refine idx_row ((hs7.re [3, 0, 1, 2]).own_row eG_len) hy fun a ha => ?_
    (try dsimp only); rw [HM.bind_apply]
    refine load_enc ha ?_
    refine app_new (x := y) eG_len eG_cell rfl hs7 (by decide) (by decide) (by omega) fun s' h8 hs8 => ?_
    rw [hpre] at hs8
    simp only [Sum.elim_inl, Sum.elim_inr, HM.pure_apply]
    exact .mk (g - 1) (by omega) ⟨by simp only [hw], by omega, hz2, hs8⟩
  · rw [if_neg (by simp only [decide_eq_true_eq, hl1]; omega)]
    rw [List.take_of_length_le (by omega)] at hs5 ⊢
    have hend := insSt_end m T
    have hsm := insSt_len m T
    generalize insSt m T = st at hs5 hend hsm ⊢
    simp only [Sum.elim_inl, Sum.elim_inr, HM.pure_apply]
    refine bind_cut (fun z h' => sat h' (ownS encG 3 z.1 (insS ltS (·.1) m T) :: cells x (encG m).toArray :: cells b #[.int .i64 most, .slice s.a s.len s.cap] :: ownS encG 3 sl T :: ownS encG 3 s L :: R)) ?_ ?_
    · rw [hend]
      (try dsimp only); rw [HM.ite_apply]
      cases hst : st.1 with
      | true => rw [if_neg (by simp), if_pos rfl]; exact hs5
      | false =>
        rw [if_pos (by rfl), if_neg (by simp)]
        refine loadN_cells (ts := [.str, .str, .int .i64]) m hs5.p1 rfl ?_
        refine app_new (x := m) eG_len eG_cell rfl hs5 (by decide) (by decide) (by omega) fun s' h7 hs7 => hs7
    rintro ⟨z, ⟨⟩⟩ h7 hs7
    simp only at hs7
    refine ⟨_, rfl, ?_⟩
    (try dsimp only); rw [HM.bind_apply, add_own]
    refine store1_cells (hs7.re [2, 0, 1]) (by simp) rfl fun h8 hs8 => ?_
    exact hq _ (storA_iff.2 ⟨z, (hs8.re [2, 3, 4, 0, 1]).drop.drop.drop⟩)

/-- what it is told of a topic -/
def getR (L : List MsgT) (k : ByteArray) : Option MsgT := L.find? fun m => decide (m.1 = k)

theorem rGet_spec {b : Nat} {most : Int} {L : List MsgT} {k : ByteArray} (hs : sat h (storA b most L :: R)) (hL : L.length ≤ 64) {Q : Value → Heap → Prop}
    (hq : ∀ h', sat h' (storA b most L :: R) → Q (.tuple #[vM ((getR L k).getD zM), .bool (getR L k).isSome]) h') : HCalls Tryd.prog 18 #[ptr0 b, .string k] h Q := by
  refine ref17_Get_calls (some ⟨b, 0, none⟩) k h Q ?_
  obtain ⟨s, hs⟩ := storA_iff.1 hs
  unfold ref17_Get
  refine new_cells hs fun x h1 hs1' => ?_
  have hs1 : sat h1 (cells x (encG zM).toArray :: cells b #[.int .i64 most, .slice s.a s.len s.cap] :: ownS encG 3 s L :: R) := hs1'
  clear hs1' hs
  have hl : s.len = L.length := (hs1.re [2, 0, 1]).own_len
  (try dsimp only); rw [HM.bind_apply]
  refine loop_gx (γ := Nat) (hb := fun s => by
      repeat' with_reducible first
        | refine @mono_bind _ _ _ _ ?_ (fun _ => ?_)
        | refine @mono_ite _ _ _ _ ?_ ?_
      all_goals infer_instance)
    (fun g c h' => h' = h1 ∧ c.1 = (((L.length - g : Nat)) : Int) ∧ g ≤ L.length ∧ getR L k = getR (L.drop (L.length - g)) k) (fun g => g) L.length ⟨rfl, by simp, Nat.le_refl _, by simp⟩ ?_
  rintro g ⟨c, ⟨⟩⟩ h' ⟨rfl, hc, hg, hf⟩
  simp only at hc
  subst hc
  have c1 : cellH h' ⟨b, 1, none⟩ = some (.slice s.a s.len s.cap) := hs1.p1.cell 1
  refine ⟨_, rfl, s, by rw [add_own]; exact c1, ?_⟩
  (try dsimp only); rw [HM.ite_apply]
  by_cases hi : L.length - g < L.length
  · rw [if_pos (by simp only [decide_eq_true_eq, hl]; omega)]
    obtain ⟨m, hm⟩ : ∃ m, L[L.length - g]? = some m := ⟨_, List.getElem?_eq_getElem hi⟩
    have hdrop : L.drop (L.length - g) = m :: L.drop (L.length - g + 1) := by
      obtain ⟨hj, rfl⟩ := List.getElem?_eq_some_iff.1 hm
      exact List.drop_eq_getElem_cons hj
    rw [hdrop, show L.length - g + 1 = L.length - (g - 1) by omega] at hf
    refine ⟨_, rfl, s, by rw [add_own]; exact c1, ?_⟩
    have hrow := (hs1.re [2, 0, 1]).own_row eG_len
    (try dsimp only); rw [HM.bind_apply]
    refine idx_row hrow hm fun a ha => ?_
    refine ⟨m.1, ha 0 _ rfl, ?_⟩
    (try dsimp only); rw [HM.ite_apply]
    unfold getR at hf
    by_cases he : m.1 = k
    · rw [List.find?_cons_of_pos (by simpa using he)] at hf
      rw [if_pos (by simpa using he)]
      refine ⟨_, rfl, s, by rw [add_own]; exact c1, ?_⟩
      (try dsimp only); rw [HM.bind_apply]
      refine idx_row hrow hm fun a' ha' => ?_
      (try dsimp only); rw [HM.bind_apply]
      refine load_enc ha' ?_
      (try dsimp only); rw [HM.bind_apply]
      refine storeN_all' hs1 rfl rfl fun h2 hs2' => ?_
      have hs2 : sat h2 (cells x (encG m).toArray :: cells b #[.int .i64 most, .slice s.a s.len s.cap] :: ownS encG 3 s L :: R) := hs2'
      refine loadN_cells (ts := [.str, .str, .int .i64]) m hs2 rfl ?_
      simp only [Sum.elim_inl, Sum.elim_inr, HM.pure_apply]
      have := hq h2 (storA_iff.2 ⟨s, hs2.drop⟩)
      unfold getR at this
      rw [hf] at this
      exact this
    · rw [List.find?_cons_of_neg (by simpa using he)] at hf
      rw [if_neg (by simpa using he)]
      simp only [Sum.elim_inl, Sum.elim_inr, HM.pure_apply]
      exact .mk (g - 1) (by omega) ⟨rfl, by simp only; rw [wrap_id (by omega) (by omega)]; omega, by omega, hf⟩
  · rw [if_neg (by simp only [decide_eq_true_eq, hl]; omega)]
    simp only [Sum.elim_inl, Sum.elim_inr, HM.pure_apply]
    have hd : L.drop (L.length - g) = [] := by simp; omega
    rw [hd] at hf
    have hf' : getR L k = none := hf
    (try dsimp only); rw [HM.bind_apply]
    refine storeN_all' hs1 rfl rfl fun h2 hs2' => ?_
    have hs2 : sat h2 (cells x (encG zM).toArray :: cells b #[.int .i64 most, .slice s.a s.len s.cap] :: ownS encG 3 s L :: R) := hs2'
    refine loadN_cells (ts := [.str, .str, .int .i64]) zM hs2 rfl ?_
    have := hq h2 (storA_iff.2 ⟨s, hs2.drop⟩)
    rw [hf'] at this
    exact this

def hitR (L : List MsgT) (f : ByteArray) : List MsgT := L.filter fun m => matchB f m.1

theorem rMat_spec {b : Nat} {most : Int} {L : List MsgT} {f : ByteArray} (hs : sat h (storA b most L :: R)) (hL : L.length ≤ 64) (hk : ∀ m ∈ L, m.1.size ≤ 256) (hsz : f.size ≤ 9223372036854775800) {Q : Value → Heap → Prop}
    (hq : ∀ (sl : Slc) h', sat h' (ownS encG 3 sl (hitR L f) :: storA b most L :: R) → Q (.slice sl.a sl.len sl.cap) h') : HCalls Tryd.prog 20 #[ptr0 b, .string f] h Q := by
  refine ref17_Match_calls (some ⟨b, 0, none⟩) f h Q ?_
  obtain ⟨s, hs⟩ := storA_iff.1 hs
  have hl : s.len = L.length := hs.p1.own_len
  unfold ref17_Match
  (try dsimp only); rw [HM.bind_apply]
  refine loop_gx (γ := Nat) (hb := fun s => by
      repeat' with_reducible first
        | refine @mono_bind _ _ _ _ ?_ (fun _ => ?_)
        | refine @mono_ite _ _ _ _ ?_ ?_
      all_goals infer_instance)
    (fun g c h' => c.2.1 = (((L.length - g : Nat)) : Int) ∧ g ≤ L.length ∧ sat h' (ownS encG 3 c.1 (hitR (L.take (L.length - g)) f) :: cells b #[.int .i64 most, .slice s.a s.len s.cap] :: ownS encG 3 s L :: R)) (fun g => g) L.length
    ⟨by simp, Nat.le_refl _, by rw [Nat.sub_self]; exact ownS_nil hs⟩ ?_
  rintro g ⟨out, c, ⟨⟩⟩ h2 ⟨hc, hg, hs5⟩
  simp only at hc hs5
  subst hc
  refine ⟨_, rfl, s, by rw [add_own]; exact hs5.p1.cell 1, ?_⟩
  (try dsimp only); rw [HM.ite_apply]
  by_cases hi : L.length - g < L.length
  · rw [if_pos (by simp only [decide_eq_true_eq, hl]; omega)]
    obtain ⟨m, hm⟩ : ∃ m, L[L.length - g]? = some m := ⟨_, List.getElem?_eq_getElem hi⟩
    have hmz : m.1.size ≤ 256 := hk m (List.mem_of_getElem? hm)
    have hw : IntKind.wrap .i64 ((((L.length - g : Nat)) : Int) + 1) = ((L.length - (g - 1) : Nat) : Int) := by rw [wrap_id (by omega) (by omega)]; omega
    have htake : L.take (L.length - (g - 1)) = L.take (L.length - g) ++ [m] := by
      rw [show L.length - (g - 1) = L.length - g + 1 by omega, List.take_add_one, hm]
      rfl
    refine ⟨_, rfl, s, by rw [add_own]; exact hs5.p1.cell 1, ?_⟩
    (try dsimp only); rw [HM.bind_apply]
    refine idx_row ((hs5.re [2, 0, 1]).own_row eG_len) hm fun a ha => ?_
    refine ⟨m.1, ha 0 _ rfl, ?_⟩
    refine bind_call1 (rMatch_spec hs5 hsz (by omega) fun h3 hs6' => ⟨_, rfl, ?_⟩)
    have hs6 : sat h3 (ownS encG 3 out (hitR (L.take (L.length - g)) f) :: cells b #[.int .i64 most, .slice s.a s.len s.cap] :: ownS encG 3 s L :: R) := hs6'
    clear hs6' hs5
    refine bind_cut (fun z h' => sat h' (ownS encG 3 z.1 (hitR (L.take (L.length - (g - 1))) f) :: cells b #[.int .i64 most, .slice s.a s.len s.cap] :: ownS encG 3 s L :: R)) ?_ ?_
    · rw [htake]
      unfold hitR
      rw [List.filter_append]
      (try dsimp only); rw [HM.ite_apply]
      cases hmm : matchB f m.1 with
      | true =>
        rw [if_pos rfl]
        refine ⟨_, rfl, s, by rw [add_own]; exact hs6.p1.cell 1, ?_⟩
        (try dsimp only); rw [HM.bind_apply]
        refine idx_row ((hs6.re [2, 0, 1]).own_row eG_len) hm fun a' ha' => ?_
        (try dsimp only); rw [HM.bind_apply]
        refine load_enc ha' ?_
        have hsmall : (hitR (L.take (L.length - g)) f).length ≤ 64 := by
          unfold hitR
          refine Nat.le_trans (List.length_filter_le _ _) ?_
          rw [List.length_take]
          omega
        refine app_new (x := m) eG_len eG_cell rfl hs6 (by decide) (by decide) (by omega) fun s' h4 hs7 => ?_
        simp only [List.filter_cons, hmm, if_true, List.filter_nil]
        exact hs7
      | false =>
        rw [if_neg (by simp)]
        simp only [List.filter_cons, hmm, Bool.false_eq_true, if_false, List.filter_nil, List.append_nil]
        exact hs6
    rintro ⟨z, ⟨⟩⟩ h4 hs7
    simp only [Sum.elim_inl, Sum.elim_inr, HM.pure_apply]
    exact .mk (g - 1) (by omega) ⟨by simp only [hw], by omega, hs7⟩
  · rw [if_neg (by simp only [decide_eq_true_eq, hl]; omega)]
    rw [List.take_of_length_le (by omega)] at hs5
    exact hq out h2 ((storA_iff.2 ⟨s, hs5.re [1, 2, 0]⟩).p1)

end Go.Proofs.YtmdagnoknmfhcaaDoor
