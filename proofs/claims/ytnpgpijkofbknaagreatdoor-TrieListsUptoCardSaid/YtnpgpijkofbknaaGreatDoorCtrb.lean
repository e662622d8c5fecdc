/-
  Ctrb: contracts: tries: New, Add, prune, Remove, over the branches.
-/
import Derived.Test.YtnpgpijkofbknaaGreatDoorCtri
namespace Go.Proofs.YtnpgpijkofbknaaGreatDoor
open Go.H Go.Proofs
set_option linter.unusedSimpArgs false
set_option linter.unusedVariables false
set_option synthInstance.maxSize 100000
set_option synthInstance.maxHeartbeats 400000
set_option maxRecDepth 100000

variable {h h0 : Heap} {R : List Asn}

/-- a trie: its branches, its counts -/
def trM (t : Nat) (N : Nds) (C : List (Int × Int)) : Asn := exA fun x : Nat × Nat =>
  star (pr (TreeOK x.1 N)) (star (cells t (trC x.1 x.2)) (star (ndsA N) (mapA eKI9 eVI9 x.2 C)))

theorem trM_iff {t : Nat} {N : Nds} {C : List (Int × Int)} : sat h (trM t N C :: R) ↔ ∃ rb cm, TreeOK rb N ∧ sat h (cells t (trC rb cm) :: ndsA N :: mapA eKI9 eVI9 cm C :: R) := by
  unfold trM
  rw [sat.ex_iff]
  constructor
  · rintro ⟨⟨rb, cm⟩, hs⟩
    rw [sat.star_iff, sat.pr_iff] at hs
    exact ⟨rb, cm, hs.1, (sat.star_iff.1 (sat.star_iff.1 hs.2).p1).re [2, 0, 1]⟩
  · rintro ⟨rb, cm, hT, hs⟩
    refine ⟨(rb, cm), ?_⟩
    rw [sat.star_iff, sat.pr_iff]
    exact ⟨hT, sat.star_iff.2 (sat.star_iff.2 (hs.re [1, 2, 0])).p1⟩

theorem ent_set {N : Nds} {p : Path} {nd : Nd} (hp : mget N p = some nd) (k v : Int) (p' : Path) (k' : Int) :
    ent (mset N p { nd with q := mset nd.q k v }) p' k' = if p = p' ∧ k = k' then some v else ent N p' k' := by
  unfold ent
  rw [mget_set]
  by_cases e : p = p'
  · subst e
    rw [if_pos rfl, hp]
    simp only [Option.bind_some, mget_set, true_and]
  · rw [if_neg e, if_neg (fun h => e h.1)]
theorem ent_del {N : Nds} {p : Path} {nd : Nd} (hp : mget N p = some nd) (hn : (nd.q.map (·.1)).Nodup) (k : Int) (p' : Path) (k' : Int) :
    ent (mset N p { nd with q := mdel nd.q k }) p' k' = if p = p' ∧ k = k' then none else ent N p' k' := by
  unfold ent
  rw [mget_set]
  by_cases e : p = p'
  · subst e
    rw [if_pos rfl, hp]
    simp only [Option.bind_some, mget_mdel hn, true_and]
  · rw [if_neg e, if_neg (fun h => e h.1)]
theorem ent_nx {N : Nds} {p : Path} {nd : Nd} (hp : mget N p = some nd) (nx : List (ByteArray × Option Addr)) (p' : Path) (k' : Int) : ent (mset N p { nd with nx := nx }) p' k' = ent N p' k' := by
  unfold ent
  rw [mget_set]
  by_cases e : p = p'
  · subst e
    rw [if_pos rfl, hp]
    rfl
  · rw [if_neg e]

theorem triNew_spec (hs : sat h R) {Q : Value → Heap → Prop} (hq : ∀ t nd h', nd.q = [] → nd.nx = [] → sat h' (trM t [([], nd)] [] :: R) → Q (at9 t) h') : HCalls Tryz.prog 15 #[] h Q := by
  refine trie_New_calls h Q ?_
  unfold trie_New
  refine bind_call1 (sprout_spec hs fun b qm nm h1 hs1 => ⟨some ⟨b, 0, none⟩, rfl, ?_⟩)
  refine new_map (ek := eKI9) (ev := eVI9) hs1 fun cm h2 hs2 => ?_
  refine new_cells hs2 fun t h3 hs3 => ?_
  refine hq t ⟨b, qm, nm, [], []⟩ h3 rfl rfl (trM_iff.2 ⟨b, cm, ⟨by simp, ⟨_, rfl, rfl⟩, ?_, ?_, ?_⟩, ?_⟩)
  · intro p nd x v h1 h2
    rw [mget_cons] at h1
    by_cases e : ([] : Path) = p
    · rw [if_pos e] at h1; cases h1; simp at h2
    · rw [if_neg e] at h1; simp at h1
  · intro p x nd' h1
    rw [mget_cons, if_neg (by simp)] at h1
    simp at h1
  · intro p nd h1
    rw [mget_cons] at h1
    by_cases e : ([] : Path) = p
    · rw [← e]; simp
    · rw [if_neg e] at h1; simp at h1
  · have h4 := nds_add (N := []) (p := []) (bigA_nil (f := fun p : Path × Nd => ndA p.2).2 hs3.p2).p1
    exact h4.re [1, 0, 2]

abbrev EntU := Int × ByteArray × Int × Unit
abbrev vEnt (id : Int) (f : ByteArray) (q : Int) : Value := .agg #[.int .i64 id, .string f, .int .i64 q]

set_option maxHeartbeats 2000000 in
theorem Add_spec {t : Nat} {N : Nds} {C : List (Int × Int)} (ht : TP h0) {id q : Int} {f : ByteArray} (hsz : f.size ≤ 9223372036854775807) (hs : sat h (trM t N C :: old h0 :: R)) {Q : Value → Heap → Prop}
    (hbad : filterOK f = false → ∀ h', sat h' (trM t N C :: old h0 :: R) → Q (.int .u8 143) h')
    (hqos : filterOK f = true → (q < 0 ∨ 2 < q) → ∀ h', sat h' (trM t N C :: old h0 :: R) → Q (.int .u8 155) h')
    (hset : filterOK f = true → 0 ≤ q → q ≤ 2 → ∀ q0, ent N (levels f) id = some q0 → ∀ N' h', (∀ p' k', ent N' p' k' = if levels f = p' ∧ id = k' then some q else ent N p' k') → sat h' (trM t N' C :: old h0 :: R) → Q (.int .u8 0) h')
    (hfull : filterOK f = true → 0 ≤ q → q ≤ 2 → ent N (levels f) id = none → 64 ≤ (mget C id).getD 0 → ∀ h', sat h' (trM t N C :: old h0 :: R) → Q (.int .u8 151) h')
    (hadd : filterOK f = true → 0 ≤ q → q ≤ 2 → ent N (levels f) id = none → (mget C id).getD 0 < 64 → ∀ N' h', (∀ p' k', ent N' p' k' = if levels f = p' ∧ id = k' then some q else ent N p' k') →
      sat h' (trM t N' (mset C id (IntKind.wrap .i64 ((mget C id).getD 0 + 1))) :: old h0 :: R) → Q (.int .u8 0) h') :
    HCalls Tryz.prog 13 #[at9 t, vEnt id f q] h Q := by
  refine trie_Trie_Add_calls (some ⟨t, 0, none⟩) (id, f, q, ()) h Q ?_
  unfold trie_Trie_Add
  refine new_cells hs fun x1 h1 hs1 => ?_
  have hE : ∀ {h' : Heap} {R' : List Asn}, sat h' (cells x1 #[.int .i64 id, .string f, .int .i64 q] :: R') → cellH h' ⟨x1, 0, none⟩ = some (.int .i64 id) ∧ cellH h' ⟨x1, 1, none⟩ = some (.string f) ∧ cellH h' ⟨x1, 2, none⟩ = some (.int .i64 q) := fun hs' => ⟨hs'.cell 0, hs'.cell 1, hs'.cell 2⟩
  (try dsimp only); rw [HM.ite_apply, if_neg (by simp)]
  refine ⟨f, by rw [add_own]; exact (hE hs1).2.1, ?_⟩
  refine bind_call1 (CheckFilter_spec (hs1.re [2, 0, 1]) ht hsz fun h2 hs2 => ⟨filtC f, rfl, ?_⟩)
  have hs3 : sat h2 (cells x1 #[.int .i64 id, .string f, .int .i64 q] :: trM t N C :: old h0 :: R) := hs2.re [1, 2, 0]
  clear hs1 hs hs2
  (try dsimp only); rw [HM.ite_apply]
  unfold filtC
  by_cases hf : filterOK f = true
  case neg =>
    rw [if_neg hf, if_pos (by decide)]
    exact hbad (by simpa using hf) h2 hs3.drop
  rw [if_pos hf, if_neg (by decide)]
  clear hbad
  refine bind_cut (fun x h' => h' = h2 ∧ (x.1 = true ↔ (q < 0 ∨ 2 < q))) ?_ ?_
  · refine ⟨q, by rw [add_own]; exact (hE hs3).2.2, ?_⟩
    (try dsimp only); rw [HM.ite_apply]
    by_cases g1 : q < 0
    · rw [if_pos (by simpa using g1)]
      exact ⟨rfl, by simp [g1]⟩
    · rw [if_neg (by simpa using g1)]
      exact ⟨q, by rw [add_own]; exact (hE hs3).2.2, rfl, by simp [g1]⟩
  rintro ⟨x, ⟨⟩⟩ h3 ⟨rfl, hx⟩
  simp only at hx
  rw [HM.ite_apply]
  by_cases g : q < 0 ∨ 2 < q
  · rw [if_pos (hx.2 g)]
    exact hqos hf g h3 hs3.drop
  rw [if_neg (fun e => g (hx.1 e))]
  clear hx hqos
  have hq0 : 0 ≤ q := by omega
  have hq2 : q ≤ 2 := by omega
  clear g
  have hfz : f.size ≤ 256 := sizedT_le (filterOK_sized hf)
  refine ⟨f, by rw [add_own]; exact (hE hs3).2.1, ?_⟩
  obtain ⟨rb, cm, hT, hs4'⟩ := trM_iff.1 hs3.p1
  have hs4 : sat h3 (cells t (trC rb cm) :: ndsA N :: old h0 :: mapA eKI9 eVI9 cm C :: cells x1 #[.int .i64 id, .string f, .int .i64 q] :: R) := hs4'.re [0, 1, 4, 2, 3]
  clear hs4' hs3
  -- is it there already?
  refine bind_cut (fun x h' => (x = (mget N (levels f)).bind fun nd => ptrOf nd) ∧ sat h' (cells t (trC rb cm) :: ndsA N :: old h0 :: mapA eKI9 eVI9 cm C :: cells x1 #[.int .i64 id, .string f, .int .i64 q] :: R)) ?_ ?_
  · exact find_spec ht hT (by omega) hs4 (fun hn h' hs' => ⟨none, rfl, by rw [hn]; rfl, hs'⟩) (fun nd hn h' hs' => ⟨ptrOf nd, rfl, by rw [hn]; rfl, hs'⟩)
  clear hs4
  rintro x8 h4 ⟨hx8, hs4⟩
  refine bind_cut (fun z h' => (z = .inl () ∧ ent N (levels f) id = none ∧ sat h' (cells t (trC rb cm) :: ndsA N :: old h0 :: mapA eKI9 eVI9 cm C :: cells x1 #[.int .i64 id, .string f, .int .i64 q] :: R)) ∨
    (z = .inr (0, ()) ∧ ∃ q0 N', ent N (levels f) id = some q0 ∧ (∀ p' k', ent N' p' k' = if levels f = p' ∧ id = k' then some q else ent N p' k') ∧ sat h' (trM t N' C :: old h0 :: R))) ?_ ?_
  · rw [HM.ite_apply]
    cases hg : mget N (levels f) with
    | none =>
      rw [hg] at hx8
      subst hx8
      rw [if_neg (by simp)]
      exact .inl ⟨rfl, by unfold ent; rw [hg]; rfl, hs4⟩
    | some nd =>
      rw [hg] at hx8
      subst hx8
      rw [if_pos (by rfl)]
      refine ⟨_, rfl, some nd.qm, by rw [add_own]; exact (nds_cell hg hs4.p1).1, id, by rw [add_own]; exact (hE hs4.p4).1, ?_⟩
      (try dsimp only); rw [HM.bind_apply]
      refine nds_q hg hs4.p1 ?_
      (try dsimp only); rw [HM.ite_apply]
      cases hm : mget nd.q id with
      | none =>
        rw [if_neg (by simp)]
        exact .inl ⟨rfl, by unfold ent; rw [hg]; exact hm, hs4⟩
      | some q0 =>
        rw [if_pos (by rfl)]
        refine ⟨_, rfl, some nd.qm, by rw [add_own]; exact (nds_cell hg hs4.p1).1, id, by rw [add_own]; exact (hE hs4.p4).1, q, by rw [add_own]; exact (hE hs4.p4).2.2, ?_⟩
        (try dsimp only); rw [HM.bind_apply]
        refine nds_setq hg hs4.p1 fun h5 hs5 => ?_
        exact .inr ⟨rfl, q0, _, by unfold ent; rw [hg]; exact hm, ent_set hg id q, trM_iff.2 ⟨rb, cm, hT.setq hg _, (hs5.re [4, 1, 0, 3, 2]).drop⟩⟩
  clear hs4 hx8
  clear x8
  rintro z h5 (⟨rfl, hnone, hs5⟩ | ⟨rfl, q0, N', hq0', hN', hs5⟩)
  case inr =>
    simp only [Sum.elim_inr, HM.pure_apply]
    exact hset hf hq0 hq2 q0 hq0' N' h5 hN' hs5
  simp only [Sum.elim_inl]
  clear hset
  refine ⟨_, rfl, some cm, by rw [add_own]; exact hs5.cell 1, id, by rw [add_own]; exact (hE hs5.p4).1, ?_⟩
  (try dsimp only); rw [HM.bind_apply]
  refine lookup_map kI9 (ek := eKI9) (kind := .one (.int .i64)) (z := 0) rfl hs5.p3 ?_
  (try dsimp only); rw [HM.ite_apply]
  by_cases hfl : 64 ≤ (mget C id).getD 0
  · rw [if_pos (by simpa using hfl)]
    exact hfull hf hq0 hq2 hnone hfl h5 (trM_iff.2 ⟨rb, cm, hT, (hs5.re [4, 0, 1, 3, 2]).drop⟩)
  rw [if_neg (by simpa using hfl)]
  clear hfull
  refine ⟨_, rfl, some ⟨rb, 0, none⟩, by rw [add_own]; exact hs5.cell 0, f, by rw [add_own]; exact (hE hs5.p4).2.1, ?_⟩
  refine bind_call1 (Levels_spec hs5.p2 ht hfz fun sl h6 hs6' => ⟨sl, rfl, ?_⟩)
  have hs6 : sat h6 (ndsA N :: ownS eS 1 sl (levels f) :: cells t (trC rb cm) :: mapA eKI9 eVI9 cm C :: cells x1 #[.int .i64 id, .string f, .int .i64 q] :: old h0 :: R) := hs6'.re [3, 0, 2, 4, 5, 1]
  clear hs6' hs5
  have hlen := hs6.p1.own_len
  have hl32 : (levels f).length ≤ 32 := (sizedT_iff.1 (filterOK_sized hf)).2.2.2
  obtain ⟨r, hr1, hr2⟩ := hT.root
  -- the branches are made
  refine bind_cut (fun x h' => ∃ N1 nd, TreeOK rb N1 ∧ (∀ p k, ent N1 p k = ent N p k) ∧ mget N1 (levels f) = some nd ∧ x.1 = ptrOf nd ∧
    sat h' (ndsA N1 :: ownS eS 1 sl (levels f) :: cells t (trC rb cm) :: mapA eKI9 eVI9 cm C :: cells x1 #[.int .i64 id, .string f, .int .i64 q] :: old h0 :: R)) ?_ ?_
  · refine loop_gx (γ := Nat × Nds) (hb := fun s => by
        repeat' with_reducible first
          | refine @mono_bind _ _ _ _ ?_ (fun _ => ?_)
          | refine @mono_ite _ _ _ _ ?_ ?_
          | refine @mono_req _ _ _ ?_
        all_goals infer_instance)
      (fun g x h' => g.1 ≤ (levels f).length ∧ x.2.1 = (g.1 : Int) ∧ TreeOK rb g.2 ∧ (∀ p k, ent g.2 p k = ent N p k) ∧ (∃ nd, mget g.2 ((levels f).take g.1) = some nd ∧ x.1 = ptrOf nd) ∧
        sat h' (ndsA g.2 :: ownS eS 1 sl (levels f) :: cells t (trC rb cm) :: mapA eKI9 eVI9 cm C :: cells x1 #[.int .i64 id, .string f, .int .i64 q] :: old h0 :: R)) (fun g => (levels f).length - g.1) (0, N)
      ⟨Nat.zero_le _, rfl, hT, fun _ _ => rfl, ⟨r, by simpa using hr1, by rw [← hr2]⟩, hs6⟩ ?_
    clear hs6 hr1 hr2 r hnone hadd hT
    rintro ⟨i, N1⟩ ⟨pt, ci, ⟨⟩⟩ h7 ⟨hi, hci, hT, hent, ⟨nd, hnd, hpt⟩, hs7⟩
    simp only at hi hci hT hent hnd hpt hs7
    subst hci
    subst hpt
    have next : IntKind.wrap .i64 ((i : Int) + 1) = ((i + 1 : Nat) : Int) := by rw [wrap_id (by omega) (by omega)]; rfl
    simp only [HM.ite_apply, decide_eq_true_eq]
    by_cases hlt : i < (levels f).length
    · rw [if_pos (by omega), HM.bind_apply]
      have hx := List.getElem?_eq_getElem hlt
      generalize (levels f)[i] = x at hx
      have htk := take_snoc hx
      refine idx_row (hs7.p1.own_row eS_len) hx fun a ha => ?_
      refine ⟨x, ha 0 _ rfl, ?_⟩
      refine ⟨_, rfl, some nd.nm, by rw [add_own]; exact (nds_cell hnd hs7).2, ?_⟩
      (try dsimp only); rw [HM.bind_apply]
      refine nds_next hnd hs7 ?_
      -- the branch is there, or is made
      refine bind_cut (fun _ h' => ∃ N2 nd2 c, TreeOK rb N2 ∧ (∀ p k, ent N2 p k = ent N p k) ∧ mget N2 ((levels f).take i) = some nd2 ∧ nd2.b = nd.b ∧ mget nd2.nx x = some (ptrOf c) ∧ mget N2 ((levels f).take (i + 1)) = some c ∧
        sat h' (ndsA N2 :: ownS eS 1 sl (levels f) :: cells t (trC rb cm) :: mapA eKI9 eVI9 cm C :: cells x1 #[.int .i64 id, .string f, .int .i64 q] :: old h0 :: R)) ?_ ?_
      · (try dsimp only); rw [HM.ite_apply]
        cases hg : mget nd.nx x with
        | some v =>
          obtain ⟨c, hc, rfl⟩ := hT.down _ _ _ _ hnd hg
          rw [if_neg (by simp)]
          exact ⟨N1, nd, c, hT, hent, hnd, rfl, hg, by rw [htk]; exact hc, hs7⟩
        | none =>
          rw [if_pos (by rfl)]
          refine ⟨_, rfl, some nd.nm, by rw [add_own]; exact (nds_cell hnd hs7).2, ?_⟩
          refine bind_call1 (sprout_spec hs7 fun b qm nm h8 hs8 => ⟨some ⟨b, 0, none⟩, rfl, ?_⟩)
          refine ⟨some nd.nm, by rw [add_own]; exact (nds_cell hnd hs8.p1).2, rfl, ?_⟩
          (try dsimp only); rw [HM.bind_apply]
          refine nds_setn hnd hs8.p1 fun h9 hs9 => ?_
          obtain ⟨hno, hT2⟩ := hT.grow (c := ⟨b, qm, nm, [], []⟩) hnd hg rfl (by rw [List.length_take]; omega)
          have e1 : ∀ p k, ent (mset N1 ((levels f).take i) { nd with nx := mset nd.nx x (ptrOf ⟨b, qm, nm, [], []⟩) } ++ [((levels f).take i ++ [x], ⟨b, qm, nm, [], []⟩)]) p k = ent N p k := by
            intro p k
            rw [← hent p k, ← ent_nx hnd (mset nd.nx x (ptrOf ⟨b, qm, nm, [], []⟩)) p k]
            unfold ent
            rw [mget_append, mget_cons, mget_nil]
            by_cases e : (levels f).take i ++ [x] = p
            · rw [if_pos e, ← e, mget_set, if_neg (fun e => app_ne _ _ e.symm), hno]
              rfl
            · rw [if_neg e]
              cases mget (mset N1 ((levels f).take i) { nd with nx := mset nd.nx x (ptrOf ⟨b, qm, nm, [], []⟩) }) p <;> rfl
          refine ⟨_, { nd with nx := mset nd.nx x (ptrOf ⟨b, qm, nm, [], []⟩) }, ⟨b, qm, nm, [], []⟩, hT2, e1, ?_, rfl, by simp [mget_set], ?_, nds_add hs9.p1⟩
          · rw [mget_append, mget_set, if_pos rfl]
            rfl
          · rw [htk, mget_append, mget_set, if_neg (fun e => app_ne _ _ e.symm), hno, mget_cons, if_pos rfl]
            rfl
      clear hs7 hT hent hnd
      rintro ⟨⟩ h8 ⟨N2, nd2, c, hT2, he2, hnd2, hb2, hxc, hc, hs8⟩
      have ep : ptrOf nd = ptrOf nd2 := by unfold ptrOf; rw [hb2]
      rw [ep]
      refine ⟨_, rfl, some nd2.nm, by rw [add_own]; exact (nds_cell hnd2 hs8).2, ?_⟩
      (try dsimp only); rw [HM.bind_apply]
      refine nds_next hnd2 hs8 ?_
      rw [hxc]
      simp only [Sum.elim_inl, Sum.elim_inr, HM.pure_apply]
      exact .mk (i + 1, N2) (by simp only []; omega) ⟨by simp only []; omega, next, hT2, he2, ⟨c, hc, rfl⟩, hs8⟩
    · rw [if_neg (by omega)]
      have : i = (levels f).length := by omega
      subst this
      rw [List.take_length] at hnd
      exact ⟨N1, nd, hT, hent, hnd, rfl, hs7⟩
  clear hs6 hr1 hr2 r hT
  rintro ⟨pt, ci, ⟨⟩⟩ h7 ⟨N1, nd, hT, hent, hnd, hpt, hs7⟩
  simp only at hpt
  subst hpt
  refine ⟨_, rfl, some nd.qm, by rw [add_own]; exact (nds_cell hnd hs7).1, id, by rw [add_own]; exact (hE hs7.p4).1, q, by rw [add_own]; exact (hE hs7.p4).2.2, ?_⟩
  (try dsimp only); rw [HM.bind_apply]
  refine nds_setq hnd hs7 fun h8 hs8 => ?_
  refine ⟨_, rfl, some cm, by rw [add_own]; exact hs8.p2.cell 1, id, by rw [add_own]; exact (hE hs8.p4).1, ?_⟩
  (try dsimp only); rw [HM.bind_apply]
  refine lookup_map kI9 (ek := eKI9) (kind := .one (.int .i64)) (z := 0) rfl hs8.p3 ?_
  (try dsimp only); rw [HM.bind_apply]
  refine set_map kI9 (ek := eKI9) (inj_int .i64) (ev := eVI9) (x := IntKind.wrap .i64 ((mget C id).getD 0 + 1)) hs8.p3 fun h9 hs9 => ?_
  refine hadd hf hq0 hq2 hnone (by omega) _ h9 (fun p' k' => ?_) (trM_iff.2 ⟨rb, cm, hT.setq hnd (mset nd.q id q), (hs9.re [4, 2, 3, 1, 0, 5]).drop.drop⟩)
  rw [ent_set hnd, hent]

end Go.Proofs.YtnpgpijkofbknaaGreatDoor
