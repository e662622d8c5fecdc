/-
  Ctrf: contracts: tries over the document's list: Match, For, Drop.
-/
import Derived.Test.YtnpgpijkofbknaaGreatDoorLm09
import Derived.Test.YtnpgpijkofbknaaGreatDoorCtpm
namespace Go.Proofs.YtnpgpijkofbknaaGreatDoor
open Go.H Go.Proofs
set_option linter.unusedSimpArgs false
set_option linter.unusedVariables false
set_option synthInstance.maxSize 100000
set_option synthInstance.maxHeartbeats 400000
set_option maxRecDepth 100000

variable {h h0 : Heap} {R : List Asn}

theorem matchE_perm {rb : Nat} {N : Nds} {L : List Ent} (hT : TreeOK rb N) (hA : TriAbs N L) (hk : QOK N) {n : ByteArray} (hn : nameOK n = true) :
    (matchE N [] (levels n) (decide (n.get! 0 = 36))).Perm (L.filter fun x => matchB x.2.1 n) := by
  refine (List.perm_ext_iff_of_nodup (matchE_nodup hT hA hk _ _ _ (name_levels hn)) (hA.asc.nodup.filter _)).2 fun e => ?_
  rw [mem_matchE hT hA hk, List.mem_filter]
  constructor
  · rintro ⟨r, hr, h1, h2⟩
    rw [List.nil_append] at h2
    subst h2
    refine ⟨h1, ?_⟩
    rw [← mrel_matchB (hA.good _ h1) hn]
    exact hr
  · rintro ⟨h1, h2⟩
    refine ⟨levels e.2.1, ?_, h1, rfl⟩
    rw [mrel_matchB (hA.good _ h1) hn]
    exact h2

theorem entsN_nodup {M : Nds} (hn : (M.map (·.1)).Nodup) (h1 : ∀ q ∈ M, (entsOf q.1 q.2.q).Nodup ∧ ∀ e ∈ entsOf q.1 q.2.q, levels e.2.1 = q.1) : (entsN M).Nodup := by
  induction M with
  | nil => exact List.nodup_nil
  | cons q M ih =>
    rw [List.map_cons, List.nodup_cons] at hn
    unfold entsN
    rw [List.flatMap_cons, List.nodup_append]
    refine ⟨(h1 q (List.mem_cons_self ..)).1, ih hn.2 (fun q' hq' => h1 q' (List.mem_cons_of_mem _ hq')), fun a ha b hb e => ?_⟩
    subst e
    obtain ⟨q', hq', hm⟩ := List.mem_flatMap.1 hb
    have e1 := (h1 q (List.mem_cons_self ..)).2 a ha
    have e2 := (h1 q' (List.mem_cons_of_mem _ hq')).2 a hm
    exact hn.1 (List.mem_map.2 ⟨q', hq', by rw [← e2, e1]⟩)

theorem entsN_perm_L {rb : Nat} {N : Nds} {L : List Ent} (hT : TreeOK rb N) (hA : TriAbs N L) (hk : QOK N) : (entsN N).Perm L := by
  have hat : ∀ q ∈ N, entAt N q.1 = entsOf q.1 q.2.q := fun q hq => entAt_of (mget_of_mem hT.keys hq)
  have hnd : (entsN N).Nodup := entsN_nodup hT.keys fun q hq => by
    rw [← hat q hq]
    exact ⟨entAt_nodup hk _, fun e he => ((mem_entAt hA hk _ _).1 he).2⟩
  refine (List.perm_ext_iff_of_nodup hnd hA.asc.nodup).2 fun e => ?_
  unfold entsN
  rw [List.mem_flatMap]
  constructor
  · rintro ⟨q, hq, he⟩
    rw [← hat q hq] at he
    exact ((mem_entAt hA hk _ _).1 he).1
  · intro he
    have h1 := (mem_entAt hA hk (levels e.2.1) e).2 ⟨he, rfl⟩
    unfold entAt at h1
    cases hp : mget N (levels e.2.1) with
    | none => rw [hp] at h1; simp at h1
    | some nd =>
      rw [hp] at h1
      exact ⟨(levels e.2.1, nd), mget_mem hp, h1⟩

theorem asc_sorted {ys L : List Ent} {c : Ent → Bool} (ha : Asc L) (hp : ys.Perm (L.filter c)) (hs : ys.Pairwise fun a b => ¬ ltK (keyE b) (keyE a)) : ys = L.filter c := asc_perm hp (ha.filter _) hs

theorem row_nil : ∀ {h' : Heap}, RowAt eS 1 h' ⟨none, 0, 0⟩ [] := fun {h'} => ⟨rfl, Nat.le_refl _, fun i x hx => by simp at hx⟩

theorem tMatch_spec {t : Nat} {L : List Ent} (ht : TP h0) {n : ByteArray} (hsz : n.size ≤ 9223372036854775807) (hl : L.length ≤ 10000) (hs : sat h (trieA t L :: old h0 :: R)) {Q : Value → Heap → Prop}
    (hq : ∀ (s : Slc) h', sat h' (ownS encE 3 s (L.filter fun x => matchB x.2.1 n) :: trieA t L :: old h0 :: R) → Q (.slice s.a s.len s.cap) h') :
    HCalls Tryz.prog 12 #[at9 t, .string n] h Q := by
  refine trie_Trie_Match_calls (some ⟨t, 0, none⟩) n h Q ?_
  unfold trie_Trie_Match
  refine bind_cut (fun x h' => sat h' (old h0 :: trieA t L :: R) ∧ x.1 = !(nameOK n)) ?_ ?_
  · rw [HM.ite_apply, if_neg (by simp)]
    refine bind_call1 (CheckName_spec hs.p1 ht hsz fun h1 hs1 => ⟨nameC n, rfl, hs1, ?_⟩)
    unfold nameC
    cases nameOK n <;> rfl
  clear hs
  rintro ⟨x, ⟨⟩⟩ h1 ⟨hs1, hx⟩
  simp only at hx
  subst hx
  rw [HM.ite_apply]
  by_cases hn : nameOK n = true
  case neg =>
    rw [if_pos (by simpa using hn)]
    have e : (L.filter fun x => matchB x.2.1 n) = [] := by
      rw [List.filter_eq_nil_iff]
      intro x _ hx
      unfold matchB at hx
      simp only [Bool.and_eq_true] at hx
      exact hn hx.1.1.2
    rw [e] at hq
    exact hq ⟨none, 0, 0⟩ h1 (ownS_nil hs1.p1)
  rw [if_neg (by simp [hn])]
  obtain ⟨N, C, hA, hC, hs2⟩ := trieA_iff.1 hs1.p1
  obtain ⟨hcn, hkk⟩ := trM_cnt hs2
  have hk : QOK N := fun p nd hp => (hkk p nd hp).1
  obtain ⟨rb, cm, hT, hs3'⟩ := trM_iff.1 hs2
  have hs3 : sat h1 (cells t (trC rb cm) :: old h0 :: ndsA N :: mapA eKI9 eVI9 cm C :: R) := hs3'.re [0, 3, 1, 2]
  clear hs3' hs2 hs1
  have hn2 := sizedT_iff.1 (nameOK_sized hn)
  refine ⟨_, rfl, some ⟨rb, 0, none⟩, by rw [add_own]; exact hs3.cell 0, ?_⟩
  (try dsimp only); rw [HM.bind_apply]
  refine ⟨n.get! 0, Int.le_refl _, get_bang (by omega), ?_⟩
  refine bind_call1 (Levels_spec hs3.p1 ht hn2.2.2.1 fun sl h2 hs4' => ⟨sl, rfl, ?_⟩)
  have hs4 : sat h2 (cells t (trC rb cm) :: ndsA N :: ownS eS 1 sl (levels n) :: old h0 :: mapA eKI9 eVI9 cm C :: R) := hs4'.re [2, 3, 0, 1, 4]
  clear hs4' hs3
  refine ⟨some ⟨rb, 0, none⟩, by rw [add_own]; exact hs4.cell 0, rfl, ?_⟩
  obtain ⟨r, hr1, hr2⟩ := hT.root
  have ep : (some ⟨rb, 0, none⟩ : Option Addr) = (mget N []).bind fun nd => ptrOf nd := by rw [hr1]; show _ = ptrOf r; unfold ptrOf; rw [hr2]
  have eb : (((n.get! 0).toNat : Int) == 36) = decide (n.get! 0 = 36) := byte_is _ 36
  have hperm := matchE_perm hT hA hk hn
  have hlen : (matchE N [] (levels n) (decide (n.get! 0 = 36))).length ≤ 10000 := by
    rw [hperm.length_eq]
    exact Nat.le_trans (List.length_filter_le _ _) hl
  rw [ep, eb]
  refine bind_call1 (match_spec hT (hA.goodN hk) _ (levels n) [] rfl (A := ownS eS 1 sl (levels n)) (s1 := ⟨none, 0, 0⟩) (out := ⟨none, 0, 0⟩) (es := []) (by simp only [List.length_nil]; omega) (fun _ => row_nil) (fun hs' => hs'.own_row eS_len) ((ownS_nil (hs4.re [1, 2, 0, 3, 4])).p1) (by simp only [List.length_nil]; omega) fun o l h3 hp hs5 => ⟨o, rfl, ?_⟩)
  rw [List.nil_append] at hs5
  refine bind_callN (Sort9_spec hs5.p1 (by have := hp.length_eq; omega) fun ys h4 hy1 hy2 hs6 => ⟨(), rfl, ?_⟩)
  have e := asc_sorted hA.asc (hy1.trans (hp.trans hperm)) hy2
  subst e
  refine hq o h4 ?_
  have hs7 : sat h4 (cells t (trC rb cm) :: ndsA N :: mapA eKI9 eVI9 cm C :: ownS encE 3 o (L.filter fun x => matchB x.2.1 n) :: old h0 :: R) := (hs6.re [2, 3, 1, 5, 0, 4]).drop
  exact (trieA_iff.2 ⟨N, C, hA, hC, trM_iff.2 ⟨rb, cm, hT, hs7⟩⟩).p1

/-! ### For -/

abbrev ofL9 (id : Int) (L : List Ent) : List Ent := L.filter fun x => decide (x.1 = id)

def forJ (x1 x2 : Nat) (id : Int) (l : List Ent) : Asn := star (cells x1 #[.int .i64 id]) (exA fun s : Slc => star (cells x2 #[.slice s.a s.len s.cap]) (ownS encE 3 s (ofL9 id l)))

theorem forJ_iff {x1 x2 : Nat} {id : Int} {l : List Ent} : sat h (forJ x1 x2 id l :: R) ↔ ∃ s : Slc, sat h (cells x2 #[.slice s.a s.len s.cap] :: ownS encE 3 s (ofL9 id l) :: cells x1 #[.int .i64 id] :: R) := by
  unfold forJ
  rw [sat.star_iff]
  constructor
  · intro hs
    obtain ⟨s, hs1⟩ := sat.ex_iff.1 hs.p1
    exact ⟨s, sat.star_iff.1 hs1⟩
  · rintro ⟨s, hs⟩
    exact (sat.ex_iff.2 ⟨s, sat.star_iff.2 hs⟩).p1

theorem For1_spec {x1 x2 : Nat} {id : Int} {l : List Ent} {e : Ent} (hl : l.length ≤ 100000) (hs : sat h (forJ x1 x2 id l :: R)) {Q : Value → Heap → Prop} (hq : ∀ h', sat h' (forJ x1 x2 id (l ++ [e]) :: R) → Q (.tuple #[]) h') :
    HCalls Tryz.prog 21 #[.agg #[.int .i64 e.1, .string e.2.1, .int .i64 e.2.2], .pointer (some ⟨x1, 0, none⟩), .pointer (some ⟨x2, 0, none⟩)] h Q := by
  refine trie_Trie_For_f1_calls (e.1, e.2.1, e.2.2, ()) ⟨x1, 0, none⟩ ⟨x2, 0, none⟩ h Q ?_
  unfold trie_Trie_For_f1
  obtain ⟨s, hs1⟩ := forJ_iff.1 hs
  refine new_cells hs1 fun x h1 hs2 => ?_
  refine ⟨e.1, by rw [add_own]; exact hs2.cell 0, id, hs2.p3.cell 0, ?_⟩
  have hfl : (ofL9 id l).length ≤ 100000 := Nat.le_trans (List.length_filter_le _ _) hl
  refine bind_cut (fun _ h' => sat h' (forJ x1 x2 id (l ++ [e]) :: R)) ?_ ?_
  · (try dsimp only); rw [HM.ite_apply]
    by_cases hid : e.1 = id
    · rw [if_pos (by simpa using hid)]
      refine ⟨s, hs2.p1.cell 0, ?_⟩
      refine loadN_cells (ts := [.int .i64, .str, .int .i64]) (e.1, e.2.1, e.2.2, ()) hs2 rfl ?_
      refine new_cells hs2 fun y h2 hs3 => ?_
      (try dsimp only); rw [HM.bind_apply]
      refine append_own (enc := encE) (ys := [e]) eE_len eE_cell rfl hs3.p3 rfl ?_ (by decide) (by decide) (by omega) fun s' h3 hs4 => ?_
      · simp only [srcSlc, Nat.one_mul, List.flatMap_cons, List.flatMap_nil, List.append_nil]
        exact hs3.reads rfl
      (try dsimp only); rw [HM.bind_apply]
      refine store1_cells hs4.p3 (by simp) rfl fun h4 hs5 => ?_
      have e1 : ofL9 id (l ++ [e]) = ofL9 id l ++ [e] := by simp [ofL9, List.filter_append, hid]
      refine forJ_iff.2 ⟨s', ?_⟩
      rw [e1]
      exact (hs5.re [2, 3, 0, 1, 4]).drop.drop
    · rw [if_neg (by simpa using hid)]
      have e1 : ofL9 id (l ++ [e]) = ofL9 id l := by simp [ofL9, List.filter_append, hid]
      refine forJ_iff.2 ⟨s, ?_⟩
      rw [e1]
      exact hs2.drop
  rintro ⟨⟩ h2 hs2
  exact hq h2 hs2

theorem tFor_spec {t : Nat} {L : List Ent} {id : Int} (hl : L.length ≤ 10000) (hs : sat h (trieA t L :: R)) {Q : Value → Heap → Prop}
    (hq : ∀ (s : Slc) h', sat h' (ownS encE 3 s (ofL9 id L) :: trieA t L :: R) → Q (.slice s.a s.len s.cap) h') :
    HCalls Tryz.prog 8 #[at9 t, .int .i64 id] h Q := by
  refine trie_Trie_For_calls (some ⟨t, 0, none⟩) id h Q ?_
  unfold trie_Trie_For
  refine new_cells hs fun x1 h1 hs1 => ?_
  (try dsimp only); rw [HM.ite_apply, if_neg (by simp)]
  refine new_cells hs1 fun x2 h2 hs2 => ?_
  obtain ⟨N, C, hA, hC, hs3⟩ := trieA_iff.1 hs2.p2
  obtain ⟨hcn, hkk⟩ := trM_cnt hs3
  have hk : QOK N := fun p nd hp => (hkk p nd hp).1
  obtain ⟨rb, cm, hT, hs4'⟩ := trM_iff.1 hs3
  have hs4 : sat h2 (cells t (trC rb cm) :: ndsA N :: mapA eKI9 eVI9 cm C :: cells x2 #[.slice none 0 0] :: cells x1 #[.int .i64 id] :: R) := hs4'
  clear hs4' hs3 hs2 hs1 hs
  have hp := entsN_perm_L hT hA hk
  obtain ⟨r, hr1, hr2⟩ := hT.root
  refine ⟨_, rfl, some ⟨rb, 0, none⟩, by rw [add_own]; exact hs4.cell 0, ?_⟩
  have ep : (Value.pointer (some ⟨rb, 0, none⟩)) = .pointer (ptrOf r) := by unfold ptrOf; rw [hr2]
  (try dsimp only); rw [ep]
  have hJ : sat h2 (forJ x1 x2 id [] :: cells t (trC rb cm) :: ndsA N :: mapA eKI9 eVI9 cm C :: R) := by
    refine forJ_iff.2 ⟨⟨none, 0, 0⟩, ?_⟩
    have := ownS_nil (enc := encE) (size := 3) (hs4.re [3, 4, 0, 1, 2])
    exact this.p1
  refine bind_callN (all_spec hT (hA.goodN hk) (yv := .func (.func 21) #[] #[.pointer (some ⟨x1, 0, none⟩), .pointer (some ⟨x2, 0, none⟩)]) (J := forJ x1 x2 id)
    (fun l e h R Q hll hs' hq' => ⟨_, _, _, rfl, Tryz.call21, For1_spec hll hs' fun h' hs'' => ⟨(), rfl, hq' h' hs''⟩⟩)
    _ [] r rfl hr1 (A := cells t (trC rb cm)) (s := ⟨none, 0, 0⟩) (l := []) (fun _ => row_nil) (by rw [below_root]; exact hJ.re [2, 0, 1, 3]) (by rw [below_root, hp.length_eq]; simp; omega) fun l' h3 hl' hs5 => ⟨(), rfl, ?_⟩)
  rw [below_root] at hl' hs5
  rw [List.nil_append] at hs5
  obtain ⟨s, hs6⟩ := forJ_iff.1 hs5.p1
  clear hs5 hs4 hJ
  refine ⟨s, hs6.cell 0, ?_⟩
  have hl'l : l'.length ≤ 10000 := by rw [hl'.length_eq, hp.length_eq]; exact hl
  refine bind_callN (Sort9_spec hs6.p1 (Nat.le_trans (List.length_filter_le _ _) (by omega)) fun ys h4 hy1 hy2 hs7 => ⟨(), rfl, ?_⟩)
  have e := asc_sorted hA.asc (hy1.trans ((hl'.trans hp).filter _)) hy2
  subst e
  refine ⟨s, hs7.p1.cell 0, ?_⟩
  refine hq s h4 ?_
  have hs8 : sat h4 (cells t (trC rb cm) :: ndsA N :: mapA eKI9 eVI9 cm C :: ownS encE 3 s (ofL9 id L) :: R) := (hs7.re [1, 2, 4, 3, 5, 0]).drop.drop
  exact (trieA_iff.2 ⟨N, C, hA, hC, trM_iff.2 ⟨rb, cm, hT, hs8⟩⟩).p1

end Go.Proofs.YtnpgpijkofbknaaGreatDoor
