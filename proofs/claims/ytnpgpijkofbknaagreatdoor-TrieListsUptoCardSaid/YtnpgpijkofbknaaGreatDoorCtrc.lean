/-
  Ctrc: contracts: tries: prune, Remove, over the branches.
-/
import Derived.Test.YtnpgpijkofbknaaGreatDoorCtrb
import Derived.Test.YtnpgpijkofbknaaGreatDoorHv
namespace Go.H
section
variable {α : Type} {enc : α → List Value} {size : Nat} {h : Heap} {s : Slc} {x : α} {xs : List α}
theorem RowAt.tail (hr : RowAt enc size h s (x :: xs)) : RowAt enc size h (sliceOf s 1 s.len s.cap size) xs := by
  have h1 := hr.1
  have h2 := hr.2.1
  rw [List.length_cons] at h1
  refine ⟨?_, ?_, fun i y hy => ?_⟩
  · simp only [sliceOf]; omega
  · simp only [sliceOf]; omega
  · obtain ⟨a, ha, hc⟩ := hr.2.2 (i + 1) y (by simpa using hy)
    have hlt := (List.getElem?_eq_some_iff.1 hy).1
    refine ⟨a.add size, ?_, fun j v hv => ?_⟩
    · simp only [sliceOf]
      rw [if_neg (by omega), ha, Nat.one_mul]
      rfl
    · have := hc j v hv
      rw [add_add'] at this ⊢
      rw [add_add']
      rw [show size + (i * size + j) = (i + 1) * size + j by rw [Nat.succ_mul]; omega]
      exact this
theorem slice_tail (hr : RowAt enc size h s (x :: xs)) {Q : Slc → Heap → Prop} (hq : Q (sliceOf s 1 s.len s.cap size) h) : HM.slice s (some 1) none none size h Q := by
  have h1 := hr.1
  have h2 := hr.2.1
  rw [List.length_cons] at h1
  exact ⟨1, s.len, s.cap, rfl, ⟨rfl, rfl⟩, ⟨rfl, by omega⟩, hq⟩
end
end Go.H
namespace Go.Proofs.YtnpgpijkofbknaaGreatDoor
open Go.H Go.Proofs
set_option linter.unusedSimpArgs false
set_option linter.unusedVariables false
set_option synthInstance.maxSize 100000
set_option synthInstance.maxHeartbeats 400000
set_option maxRecDepth 100000

variable {h h0 : Heap} {R : List Asn}

theorem mdel_mset {K V : Type} [DecidableEq K] : ∀ (l : List (K × V)) (k : K) (v : V), mdel (mset l k v) k = mdel l k
  | [], k, v => by simp [mset, mdel]
  | (a, b) :: l, k, v => by
    simp only [mset]
    by_cases e : a = k
    · rw [if_pos e]; simp [mdel, e]
    · rw [if_neg e]; simp only [mdel, if_neg e]; rw [mdel_mset l k v]

theorem not_pre (p : Path) (x : ByteArray) : ¬ (p ++ [x]) <+: p := fun h => by
  have := h.length_le
  simp at this
  omega

theorem pre_of {p p' : Path} {x : ByteArray} (h : ¬ p <+: p') : ¬ (p ++ [x]) <+: p' := fun hh => h ((List.prefix_append p [x]).trans hh)

set_option maxHeartbeats 1000000 in
theorem prune_spec {A : Asn} {rb : Nat} {id : Int} : ∀ (ls p : Path) {N : Nds} {nd : Nd} {s : Slc} {h : Heap} {R : List Asn} (hT : TreeOK rb N) (hnd : mget N p = some nd) (hrow : ∀ {h' : Heap} {R' : List Asn}, sat h' (A :: R') → RowAt eS 1 h' s ls)
    (hs : sat h (ndsA N :: A :: R)) {Q : Value → Heap → Prop}
    (hq : ∀ N' nd' h', TreeOK rb N' → mget N' p = some nd' → nd'.b = nd.b → (∀ p', ¬ p <+: p' → mget N' p' = mget N p') → (∀ p' k', ent N' p' k' = if p' = p ++ ls ∧ k' = id then none else ent N p' k') →
      sat h' (ndsA N' :: A :: R) → Q (.bool (nd'.q.isEmpty && nd'.nx.isEmpty)) h'),
    HCalls Tryz.prog 33 #[.pointer (ptrOf nd), .int .i64 id, .slice s.a s.len s.cap] h Q := by
  intro ls
  induction ls with
  | nil =>
    intro p N nd s h R hT hnd hrow hs Q hq
    refine trie_branch_prune_calls (ptrOf nd) id s h Q ?_
    unfold trie_branch_prune
    have hl : s.len = 0 := (hrow hs.p1).1
    have hn := nds_nodup hnd hs
    refine bind_cut (fun _ h' => sat h' (ndsA (mset N p { nd with q := mdel nd.q id }) :: A :: R)) ?_ ?_
    · rw [HM.ite_apply, if_pos (by simp [hl])]
      refine ⟨_, rfl, some nd.qm, by rw [add_own]; exact (nds_cell hnd hs).1, ?_⟩
      (try dsimp only); rw [HM.bind_apply]
      exact nds_delq hnd hs fun h1 hs1 => hs1
    rintro ⟨⟩ h1 hs1
    have hnd1 : mget (mset N p { nd with q := mdel nd.q id }) p = some { nd with q := mdel nd.q id } := by rw [mget_set, if_pos rfl]
    have fin : Q (.bool ((mdel nd.q id).isEmpty && nd.nx.isEmpty)) h1 := by
      refine hq _ _ h1 (hT.setq hnd _) hnd1 rfl (fun p' hp' => ?_) (fun p' k' => ?_) hs1
      · rw [mget_set, if_neg (fun e => hp' (by rw [e]; exact List.prefix_refl _))]
      · rw [ent_del hnd hn.1, List.append_nil]
        by_cases e : p = p' ∧ id = k'
        · rw [if_pos e, if_pos ⟨e.1.symm, e.2.symm⟩]
        · rw [if_neg e, if_neg (fun e' => e ⟨e'.1.symm, e'.2.symm⟩)]
    refine bind_cut (fun x h' => h' = h1 ∧ x.1 = ((mdel nd.q id).isEmpty && nd.nx.isEmpty)) ?_ ?_
    · refine ⟨_, rfl, some nd.qm, by rw [add_own]; exact (nds_cell hnd1 hs1).1, ?_⟩
      (try dsimp only); rw [HM.bind_apply]
      refine nds_lenq hnd1 hs1 ?_
      (try dsimp only); rw [HM.ite_apply]
      cases hm : mdel nd.q id with
      | cons a l => rw [if_neg (by simp; omega)]; exact ⟨rfl, rfl⟩
      | nil =>
        rw [if_pos (by simp)]
        refine ⟨_, rfl, some nd.nm, by rw [add_own]; exact (nds_cell hnd1 hs1).2, ?_⟩
        (try dsimp only); rw [HM.bind_apply]
        refine nds_lenn hnd1 hs1 ?_
        refine ⟨rfl, ?_⟩
        simp only []
        cases nd.nx <;> simp
        omega
    rintro ⟨x, ⟨⟩⟩ h2 ⟨rfl, hx⟩
    simp only at hx
    subst hx
    exact fin
  | cons x r ih =>
    intro p N nd s h R hT hnd hrow hs Q hq
    refine trie_branch_prune_calls (ptrOf nd) id s h Q ?_
    unfold trie_branch_prune
    have hl : s.len = r.length + 1 := (hrow hs.p1).1
    refine bind_cut (fun _ h' => ∃ N' nd', TreeOK rb N' ∧ mget N' p = some nd' ∧ nd'.b = nd.b ∧ nd'.qm = nd.qm ∧ nd'.nm = nd.nm ∧ (∀ p', ¬ p <+: p' → mget N' p' = mget N p') ∧ (∀ p' k', ent N' p' k' = if p' = p ++ x :: r ∧ k' = id then none else ent N p' k') ∧ sat h' (ndsA N' :: A :: R)) ?_ ?_
    · rw [HM.ite_apply, if_neg (by simp [hl]; omega)]
      refine ⟨_, rfl, some nd.nm, by rw [add_own]; exact (nds_cell hnd hs).2, ?_⟩
      (try dsimp only); rw [HM.bind_apply]
      have h0r := hrow hs.p1
      refine idx_row (i := 0) h0r (x := x) rfl fun a ha => ?_
      refine ⟨x, ha 0 _ rfl, ?_⟩
      (try dsimp only); rw [HM.bind_apply]
      refine nds_next hnd hs ?_
      cases hg : mget nd.nx x with
      | none =>
        have hno : ∀ k', ent N (p ++ x :: r) k' = none := by
          intro k'
          unfold ent
          cases hh : mget N (p ++ x :: r) with
          | none => rfl
          | some nd' =>
            have e : p ++ x :: r = (p ++ [x]) ++ r := by simp
            rw [e] at hh
            obtain ⟨c, hc⟩ := hT.pre _ _ _ hh
            obtain ⟨n0, h3, h4⟩ := hT.up _ _ _ hc
            rw [hnd] at h3
            cases h3
            rw [hg] at h4
            cases h4
        refine bind_cut (fun z h' => h' = h ∧ z.1 = false) ?_ ?_
        · (try dsimp only); rw [HM.ite_apply, if_neg (by simp)]
          exact ⟨rfl, rfl⟩
        rintro ⟨z, ⟨⟩⟩ h1 ⟨rfl, hz⟩
        simp only at hz
        subst hz
        (try dsimp only); rw [HM.bind_apply, HM.ite_apply, if_neg (by simp)]
        refine ⟨N, nd, hT, hnd, rfl, rfl, rfl, fun _ _ => rfl, fun p' k' => ?_, hs⟩
        by_cases e : p' = p ++ x :: r ∧ k' = id
        · rw [if_pos e, e.1, hno]
        · rw [if_neg e]
      | some v =>
        obtain ⟨c, hc, rfl⟩ := hT.down _ _ _ _ hnd hg
        refine bind_cut (fun z h' => ∃ N1 c1, TreeOK rb N1 ∧ mget N1 (p ++ [x]) = some c1 ∧ c1.b = c.b ∧ (∀ p', ¬ (p ++ [x]) <+: p' → mget N1 p' = mget N p') ∧ (∀ p' k', ent N1 p' k' = if p' = (p ++ [x]) ++ r ∧ k' = id then none else ent N p' k') ∧
          z.1 = (c1.q.isEmpty && c1.nx.isEmpty) ∧ sat h' (ndsA N1 :: A :: R)) ?_ ?_
        · (try dsimp only); rw [HM.ite_apply, if_pos (by rfl)]
          refine slice_tail h0r ?_
          refine bind_call1 (ih (p ++ [x]) hT hc (fun hs' => (hrow hs').tail) hs fun N1 c1 h1 a1 a2 a3 a4 a5 hs1 => ⟨_, rfl, ?_⟩)
          exact ⟨N1, c1, a1, a2, a3, a4, a5, rfl, hs1⟩
        rintro ⟨z, ⟨⟩⟩ h1 ⟨N1, c1, hT1, hc1, hb1, hf1, he1, hz, hs1⟩
        simp only at hz
        subst hz
        have hnd1 : mget N1 p = some nd := by rw [hf1 p (not_pre p x)]; exact hnd
        have hpx : (p ++ [x]) ++ r = p ++ x :: r := by simp
        rw [hpx] at he1
        (try dsimp only); rw [HM.bind_apply, HM.ite_apply]
        by_cases hem : (c1.q.isEmpty && c1.nx.isEmpty) = true
        · rw [if_pos hem]
          rw [Bool.and_eq_true, List.isEmpty_iff, List.isEmpty_iff] at hem
          have hk := (nds_nodup hnd1 hs1).2
          have hg1 : mget nd.nx x = some (ptrOf c1) := by
            obtain ⟨n0, h3, h4⟩ := hT1.up _ _ _ hc1
            rw [hnd1] at h3
            cases h3
            exact h4
          refine ⟨_, rfl, some nd.nm, by rw [add_own]; exact (nds_cell hnd1 hs1).2, ?_⟩
          (try dsimp only); rw [HM.bind_apply]
          refine idx_row (i := 0) (hrow hs1.p1) (x := x) rfl fun a ha => ?_
          refine ⟨x, ha 0 _ rfl, ?_⟩
          (try dsimp only); rw [HM.bind_apply]
          refine nds_deln hnd1 hs1 fun h2 hs2 => ?_
          have hc2 : mget (mset N1 p { nd with nx := mdel nd.nx x }) (p ++ [x]) = some c1 := by rw [mget_set, if_neg (fun e => app_ne p x e.symm)]; exact hc1
          have hkeys : ((mset N1 p { nd with nx := mdel nd.nx x }).map (·.1)).Nodup := by rw [keys_mset hnd1]; exact hT1.keys
          refine ⟨_, { nd with nx := mdel nd.nx x }, hT1.cut hnd1 hk hc1 hem.2, ?_, rfl, rfl, rfl, fun p' hp' => ?_, fun p' k' => ?_, nds_drop hc2 hs2⟩
          · rw [mget_mdel hkeys, if_neg (app_ne p x), mget_set, if_pos rfl]
          · rw [mget_mdel hkeys, if_neg (fun e => hp' (by rw [← e]; exact List.prefix_append _ _)), mget_set, if_neg (fun e => hp' (by rw [e]; exact List.prefix_refl _))]
            exact hf1 p' (pre_of hp')
          · rw [← he1]
            have : ent (mset N1 p { nd with nx := mdel nd.nx x }) p' k' = ent N1 p' k' := ent_nx hnd1 _ p' k'
            rw [← this]
            unfold ent
            rw [mget_mdel hkeys]
            by_cases e : p ++ [x] = p'
            · subst e
              rw [if_pos rfl, hc2]
              simp [hem.1]
            · rw [if_neg e]
        · rw [if_neg hem]
          exact ⟨N1, nd, hT1, hnd1, rfl, rfl, rfl, fun p' hp' => hf1 p' (pre_of hp'), he1, hs1⟩
    clear hs
    rintro ⟨⟩ h1 ⟨N', nd', hT', hnd', hb, hqm, hnm, hf, he, hs1⟩
    have ep : ptrOf nd = ptrOf nd' := by unfold ptrOf; rw [hb]
    refine bind_cut (fun x h' => h' = h1 ∧ x.1 = (nd'.q.isEmpty && nd'.nx.isEmpty)) ?_ ?_
    · rw [ep]
      refine ⟨_, rfl, some nd'.qm, by rw [add_own]; exact (nds_cell hnd' hs1).1, ?_⟩
      (try dsimp only); rw [HM.bind_apply]
      refine nds_lenq hnd' hs1 ?_
      (try dsimp only); rw [HM.ite_apply]
      cases hm : nd'.q with
      | cons a l => rw [if_neg (by simp; omega)]; exact ⟨rfl, rfl⟩
      | nil =>
        rw [if_pos (by simp)]
        refine ⟨_, rfl, some nd'.nm, by rw [add_own]; exact (nds_cell hnd' hs1).2, ?_⟩
        (try dsimp only); rw [HM.bind_apply]
        refine nds_lenn hnd' hs1 ?_
        refine ⟨rfl, ?_⟩
        simp only []
        cases nd'.nx <;> simp
        omega
    rintro ⟨x, ⟨⟩⟩ h2 ⟨rfl, hx⟩
    simp only at hx
    subst hx
    exact hq N' nd' h2 hT' hnd' hb hf he hs1

set_option maxHeartbeats 1000000 in
theorem Remove_spec {t : Nat} {N : Nds} {C : List (Int × Int)} (ht : TP h0) {id : Int} {f : ByteArray} (hsz : f.size ≤ 16777216) (hs : sat h (trM t N C :: old h0 :: R)) {Q : Value → Heap → Prop}
    (hno : ent N (levels f) id = none → ∀ h', sat h' (trM t N C :: old h0 :: R) → Q (.bool false) h')
    (hyes : ∀ q0, ent N (levels f) id = some q0 → ∀ N' h', (∀ p' k', ent N' p' k' = if p' = levels f ∧ k' = id then none else ent N p' k') →
      sat h' (trM t N' (if IntKind.wrap .i64 ((mget C id).getD 0 - 1) = 0 then mdel C id else mset C id (IntKind.wrap .i64 ((mget C id).getD 0 - 1))) :: old h0 :: R) → Q (.bool true) h') :
    HCalls Tryz.prog 14 #[at9 t, .int .i64 id, .string f] h Q := by
  refine trie_Trie_Remove_calls (some ⟨t, 0, none⟩) id f h Q ?_
  unfold trie_Trie_Remove
  rw [HM.ite_apply, if_neg (by simp)]
  obtain ⟨rb, cm, hT, hs1'⟩ := trM_iff.1 hs
  have hs1 : sat h (cells t (trC rb cm) :: ndsA N :: old h0 :: mapA eKI9 eVI9 cm C :: R) := hs1'.re [0, 1, 3, 2]
  clear hs1' hs
  have back : ∀ {h' : Heap}, sat h' (cells t (trC rb cm) :: ndsA N :: old h0 :: mapA eKI9 eVI9 cm C :: R) → sat h' (trM t N C :: old h0 :: R) := fun hs' => trM_iff.2 ⟨rb, cm, hT, hs'.re [0, 1, 3, 2]⟩
  refine bind_cut (fun x h' => (x = (mget N (levels f)).bind fun nd => ptrOf nd) ∧ sat h' (cells t (trC rb cm) :: ndsA N :: old h0 :: mapA eKI9 eVI9 cm C :: R)) ?_ ?_
  · exact find_spec ht hT hsz hs1 (fun hn h' hs' => ⟨none, rfl, by rw [hn]; rfl, hs'⟩) (fun nd hn h' hs' => ⟨ptrOf nd, rfl, by rw [hn]; rfl, hs'⟩)
  clear hs1
  rintro x1 h1 ⟨hx, hs1⟩
  rw [HM.ite_apply]
  cases hg : mget N (levels f) with
  | none =>
    rw [hg] at hx
    subst hx
    rw [if_pos (by rfl)]
    exact hno (by unfold ent; rw [hg]; rfl) h1 (back hs1)
  | some nd =>
    rw [hg] at hx
    subst hx
    rw [if_neg (by simp)]
    refine ⟨_, rfl, some nd.qm, by rw [add_own]; exact (nds_cell hg hs1.p1).1, ?_⟩
    (try dsimp only); rw [HM.bind_apply]
    refine nds_q hg hs1.p1 ?_
    (try dsimp only); rw [HM.ite_apply]
    cases hm : mget nd.q id with
    | none =>
      rw [if_pos (by simp)]
      exact hno (by unfold ent; rw [hg]; exact hm) h1 (back hs1)
    | some q0 =>
      rw [if_neg (by simp)]
      have hq0 : ent N (levels f) id = some q0 := by unfold ent; rw [hg]; exact hm
      refine ⟨_, rfl, some ⟨rb, 0, none⟩, by rw [add_own]; exact hs1.cell 0, ?_⟩
      refine bind_call1 (Levels9_spec hs1.p2 ht hsz fun sl h2 hs2' => ⟨sl, rfl, ?_⟩)
      have hs2 : sat h2 (cells t (trC rb cm) :: ndsA N :: ownS eS 1 sl (levels f) :: mapA eKI9 eVI9 cm C :: old h0 :: R) := hs2'.re [2, 3, 0, 4, 1]
      clear hs2' hs1
      refine ⟨some ⟨rb, 0, none⟩, by rw [add_own]; exact hs2.cell 0, rfl, ?_⟩
      obtain ⟨r, hr1, hr2⟩ := hT.root
      have ep : (Value.pointer (some ⟨rb, 0, none⟩)) = .pointer (ptrOf r) := by unfold ptrOf; rw [hr2]
      rw [ep]
      refine bind_call1 (prune_spec (A := ownS eS 1 sl (levels f)) (levels f) [] hT hr1 (fun hs' => hs'.own_row eS_len) (hs2.re [1, 2, 0]) fun N' nd' h3 hT' _ _ _ he hs3' => ⟨_, rfl, ?_⟩)
      have hs3 : sat h3 (cells t (trC rb cm) :: mapA eKI9 eVI9 cm C :: ndsA N' :: old h0 :: R) := (hs3'.re [1, 2, 3, 0, 4]).drop
      clear hs3' hs2
      refine ⟨_, rfl, some cm, by rw [add_own]; exact hs3.cell 1, ?_⟩
      (try dsimp only); rw [HM.bind_apply]
      refine lookup_map kI9 (ek := eKI9) (kind := .one (.int .i64)) (z := 0) rfl hs3.p1 ?_
      (try dsimp only); rw [HM.bind_apply]
      refine set_map kI9 (ek := eKI9) (inj_int .i64) (ev := eVI9) (x := IntKind.wrap .i64 ((mget C id).getD 0 - 1)) hs3.p1 fun h4 hs4 => ?_
      refine ⟨_, rfl, some cm, by rw [add_own]; exact hs4.p1.cell 1, ?_⟩
      (try dsimp only); rw [HM.bind_apply]
      refine lookup_map kI9 (ek := eKI9) (kind := .one (.int .i64)) (z := 0) rfl hs4 ?_
      rw [mget_set, if_pos rfl]
      generalize hw : IntKind.wrap .i64 ((mget C id).getD 0 - 1) = w at hs4 hyes
      refine bind_cut (fun _ h' => sat h' (mapA eKI9 eVI9 cm (if w = 0 then mdel C id else mset C id w) :: cells t (trC rb cm) :: ndsA N' :: old h0 :: R)) ?_ ?_
      · (try dsimp only); rw [HM.ite_apply]
        by_cases hw0 : w = 0
        · rw [if_pos (by simpa using hw0), if_pos hw0]
          refine ⟨_, rfl, some cm, by rw [add_own]; exact hs4.p1.cell 1, ?_⟩
          (try dsimp only); rw [HM.bind_apply]
          refine del_map kI9 (ek := eKI9) (ev := eVI9) hs4 fun h5 hs5 => ?_
          rw [mdel_mset] at hs5
          exact hs5
        · rw [if_neg (by simpa using hw0), if_neg hw0]
          exact hs4
      rintro ⟨⟩ h5 hs5
      refine hyes q0 hq0 N' h5 (fun p' k' => ?_) (trM_iff.2 ⟨rb, cm, hT', hs5.re [1, 2, 0]⟩)
      rw [he, List.nil_append]

end Go.Proofs.YtnpgpijkofbknaaGreatDoor
