/-
  L09: laws TriePlays, TrieMatches, TrieNil, TrieFinds over heaps.
-/
import Derived.Test.YtnmighfcpeifeaaDoorC09
import Derived.Test.YtnmighfcpeifeaaDoorHlp
namespace Go.Proofs.YtnmighfcpeifeaaDoor
open Go.H Go.Proofs
set_option linter.unusedSimpArgs false
set_option linter.unusedVariables false
set_option synthInstance.maxSize 100000
set_option synthInstance.maxHeartbeats 400000
set_option maxRecDepth 100000

variable {h h0 : Heap} {R : List Asn}

theorem TriePlays_spec (ht : TP h0) {s : Slc} {xs : List (Int × Int × ByteArray × Int)} (hr : RowAt encAct9 4 h0 s xs) (hsz : ∀ x ∈ xs, x.2.2.1.size ≤ 16777216) (hs : sat h (old h0 :: R)) {Q : Value → Heap → Prop}
    (hq : ∀ h' R', sat h' (old h0 :: R') → Q (.bool true) h') : HCalls Tryd.prog 6 #[.slice s.a s.len s.cap] h Q := by
  refine law09_TriePlays_calls s h Q ?_
  unfold law09_TriePlays
  refine bind_callN (run9_spec ht hr hsz hs fun t r L h1 hl hids hs1 => ⟨(some ⟨t, 0, none⟩, some ⟨r, 0, none⟩, true, ()), rfl, ?_⟩)
  refine bind_call1 (wakes9_spec ht (hs1.re [2, 0, 1]) fun h2 hs2 => ⟨true, rfl, ?_⟩)
  exact hq h2 _ hs2

theorem TrieMatches_spec (ht : TP h0) {s s2 : Slc} {xs : List (Int × Int × ByteArray × Int)} {ns : List ByteArray} (hr : RowAt encAct9 4 h0 s xs) (hsz : ∀ x ∈ xs, x.2.2.1.size ≤ 16777216) (hr2 : RowAt eS 1 h0 s2 ns) (hsz2 : ∀ x ∈ ns, x.size ≤ 9223372036854775800) (hs : sat h (old h0 :: R)) {Q : Value → Heap → Prop}
    (hq : ∀ h' R', sat h' (old h0 :: R') → Q (.bool true) h') : HCalls Tryd.prog 7 #[.slice s.a s.len s.cap, .slice s2.a s2.len s2.cap] h Q := by
  refine law09_TrieMatches_calls s s2 h Q ?_
  have he : (if 20 < ((s2.len : Nat) : Int) then (20 : Int) else ((s2.len : Nat) : Int)) = ((min 20 ns.length : Nat) : Int) := by
    rw [hr2.1]; split <;> omega
  unfold law09_TrieMatches
  rw [he]
  refine bind_callN (run9_spec ht hr hsz hs fun t r L h1 hl hids hs1 => ⟨(some ⟨t, 0, none⟩, some ⟨r, 0, none⟩, true, ()), rfl, ?_⟩)
  refine bind_cut (fun z h' => z.1 = false ∧ sat h' (trieA t L :: refA9 r L :: old h0 :: R)) ?_ ?_
  · refine bind_call1 (wakes9_spec ht (hs1.re [2, 0, 1]) fun h2 hs2 => ⟨true, rfl, ?_⟩)
    (try dsimp only); rw [HM.ite_apply, if_neg (by simp)]
    exact ⟨rfl, hs2.re [1, 2, 0]⟩
  clear hs1
  rintro ⟨z, ⟨⟩⟩ h2 ⟨hz, hs2⟩
  simp only at hz
  subst hz
  rw [HM.ite_apply, if_neg (by simp)]
  refine slice_row hr2 (Nat.min_le_right _ _) fun s' hr' => ?_
  have hsz' : ∀ x ∈ ns.take (min 20 ns.length), x.size ≤ 9223372036854775800 := fun x hx => hsz2 x (List.mem_of_mem_take hx)
  have hys1 : (ns.take (min 20 ns.length)).length ≤ 20 := by simp; omega
  generalize ns.take (min 20 ns.length) = ys at hr' hsz' hys1
  have hlen := hr'.1
  have hgs : ∀ x ∈ L, x.2.1.size ≤ 9223372036854775800 := fun x hx => Nat.le_trans (sizedT_le (filterOK_sized ((trie_good hs2).1 x hx))) (by decide)
  (try dsimp only); rw [HM.bind_apply]
  refine loop_for ys.length (fun i x h' => x.1 = (i : Int) ∧ sat h' (trieA t L :: refA9 r L :: old h0 :: R)) ⟨rfl, hs2⟩ (fun i x h hi hJ => by rw [hJ.1, hlen]; exact decide_eq_decide.2 (by omega)) (fun x h hJ K2 hd => ?_) (fun i x h hlt hJ K2 hnx hd => ?_)
  · obtain ⟨hx, hs3⟩ := hJ
    refine hd _ _ ?_
    simp only [Sum.elim_inl, HM.pure_apply]
    exact hq _ _ hs3.p2
  obtain ⟨ci, ⟨⟩⟩ := x
  obtain ⟨hci, hs3⟩ := hJ
  simp only at hci
  subst hci
  have hx := List.getElem?_eq_getElem hlt
  have hxs := hsz' ys[i] (List.getElem_mem hlt)
  generalize ys[i] = n at hx hxs
  (try dsimp only); rw [HM.bind_apply]
  refine idx_row hr' hx fun a ha => ?_
  refine ⟨n, hs3.p2.old_cell (ha 0 _ rfl), ?_⟩
  refine bind_call1 (tMatch_spec ht (by omega) (by omega) (hs3.re [0, 2, 1]) fun o1 h4 hs4 => ⟨o1, rfl, ?_⟩)
  have hs4' : sat h4 (refA9 r L :: ownS encE 3 o1 (L.filter fun x => matchB x.2.1 n) :: trieA t L :: old h0 :: R) := hs4.re [3, 0, 1, 2]
  clear hs4
  have hll : L.length ≤ 10000 := by omega
  refine bind_call1 (rMatch9_spec (n := n) hgs hxs hll hs4' fun o2 h5 hs5 => ⟨o2, rfl, ?_⟩)
  have hs6 : sat h5 (ownS encE 3 o1 (L.filter fun x => matchB x.2.1 n) :: ownS encE 3 o2 (L.filter fun x => matchB x.2.1 n) :: trieA t L :: refA9 r L :: old h0 :: R) := hs5.re [2, 0, 3, 1, 4]
  clear hs5
  refine bind_call1 (same9_spec (Nat.le_trans (List.length_filter_le _ _) (by omega)) hs6 ⟨true, rfl, ?_⟩)
  (try dsimp only); rw [HM.ite_apply, if_neg (by simp)]
  exact hnx _ _ ⟨by rw [wrap_id (by omega) (by omega)]; rfl, hs6.drop.drop⟩

theorem TrieNil_spec (ht : TP h0) {e : Ent} (hs : sat h (old h0 :: R)) {Q : Value → Heap → Prop}
    (hq : ∀ h' R', sat h' (old h0 :: R') → Q (.bool true) h') : HCalls Tryd.prog 9 #[.agg #[.int .i64 e.1, .string e.2.1, .int .i64 e.2.2]] h Q := by
  refine law09_TrieNil_calls (e.1, e.2.1, e.2.2, ()) h Q ?_
  unfold law09_TrieNil
  refine new_cells hs fun x1 h1 hs1 => ?_
  have hE : ∀ {h' : Heap} {R' : List Asn}, sat h' (cells x1 #[.int .i64 e.1, .string e.2.1, .int .i64 e.2.2] :: R') → cellH h' ⟨x1, 0, none⟩ = some (.int .i64 e.1) ∧ cellH h' ⟨x1, 1, none⟩ = some (.string e.2.1) := fun hs' => ⟨hs'.cell 0, hs'.cell 1⟩
  refine bind_cut (fun z h' => z.1 = true ∧ ∃ R', sat h' (old h0 :: R')) ?_ ?_
  · refine bind_call1 (wakes9_spec ht hs1.p1 fun h2 hs2 => ⟨true, rfl, ?_⟩)
    (try dsimp only); rw [HM.ite_apply, if_pos rfl]
    refine loadN_cells (ts := [.int .i64, .str, .int .i64]) (e.1, e.2.1, e.2.2, ()) hs2.p1 rfl ?_
    -- Add
    refine bind_call1 (trie_Trie_Add_calls none (e.1, e.2.1, e.2.2, ()) _ _ ?_)
    unfold trie_Trie_Add
    refine new_cells hs2 fun y h3 hs3 => ?_
    (try dsimp only); rw [HM.ite_apply, if_pos (by rfl)]
    refine ⟨128, rfl, ?_⟩
    (try dsimp only); rw [HM.ite_apply, if_pos (by rfl)]
    refine ⟨e.1, by rw [add_own]; exact (hE hs3.p2).1, e.2.1, by rw [add_own]; exact (hE hs3.p2).2, ?_⟩
    -- Remove
    refine bind_call1 (trie_Trie_Remove_calls none e.1 e.2.1 _ _ ?_)
    unfold trie_Trie_Remove
    rw [HM.ite_apply, if_pos (by rfl)]
    refine ⟨false, rfl, ?_⟩
    (try dsimp only); rw [HM.ite_apply, if_pos (by rfl)]
    refine ⟨e.1, by rw [add_own]; exact (hE hs3.p2).1, ?_⟩
    -- Drop
    have forNil : ∀ {h' : Heap} {R' : List Asn} {id : Int} {Q' : Value → Heap → Prop}, sat h' R' → (∀ h'', sat h'' R' → Q' (.slice none 0 0) h'') → HCalls Tryd.prog 35 #[.pointer none, .int .i64 id] h' Q' := by
      intro h' R' id Q' hs' hq'
      refine trie_Trie_For_calls none id h' Q' ?_
      unfold trie_Trie_For
      refine new_cells hs' fun z h'' hs'' => ?_
      (try dsimp only); rw [HM.ite_apply, if_pos (by rfl)]
      exact hq' h'' hs''.drop
    refine bind_call1 (trie_Trie_Drop_calls none e.1 _ _ ?_)
    unfold trie_Trie_Drop
    refine bind_call1 (forNil hs3 fun h4 hs4 => ⟨⟨none, 0, 0⟩, rfl, ?_⟩)
    (try dsimp only); rw [HM.bind_apply]
    refine loop_of (fun s' h' => s' = (0, ()) ∧ h' = h4) (fun _ _ => 0) ⟨rfl, rfl⟩ ?_
    rintro _ h5 ⟨rfl, rfl⟩
    (try dsimp only); rw [HM.ite_apply, if_neg (by simp)]
    refine ⟨0, rfl, ?_⟩
    (try dsimp only); rw [HM.ite_apply, if_pos (by rfl)]
    refine ⟨e.2.1, by rw [add_own]; exact (hE hs4.p2).2, ?_⟩
    -- Match
    refine bind_call1 (trie_Trie_Match_calls none e.2.1 _ _ ?_)
    unfold trie_Trie_Match
    rw [HM.bind_apply, HM.ite_apply, if_pos (by rfl)]
    (try dsimp only); rw [HM.pure_apply, HM.ite_apply, if_pos (by rfl)]
    refine ⟨⟨none, 0, 0⟩, rfl, ?_⟩
    (try dsimp only); rw [HM.ite_apply, if_pos (by rfl)]
    refine ⟨e.1, by rw [add_own]; exact (hE hs4.p2).1, ?_⟩
    refine bind_call1 (forNil hs4 fun h6 hs6 => ⟨⟨none, 0, 0⟩, rfl, ?_⟩)
    (try dsimp only); rw [HM.ite_apply, if_pos (by rfl)]
    refine bind_call1 (trie_Trie_Filters_calls none _ _ ?_)
    unfold trie_Trie_Filters
    rw [HM.ite_apply, if_pos (by rfl)]
    exact ⟨⟨none, 0, 0⟩, rfl, rfl, _, hs6.p1⟩
  rintro ⟨z, ⟨⟩⟩ h2 ⟨hz, R', hs2⟩
  simp only at hz
  subst hz
  exact hq h2 R' hs2

abbrev eVB9 : Bool → Value := Kind.val (.one .bool)

theorem keys_mset9 (l : List (Int × Bool)) (k a : Int) (v : Bool) (h : a = k ∨ a ∈ l.map (·.1)) : a ∈ (mset l k v).map (·.1) := by
  cases hk : mget l k with
  | none =>
    rw [mset_none l k v hk]
    rcases h with rfl | h
    · simp
    · rw [List.map_append]; exact List.mem_append_left _ h
  | some w =>
    rw [keys_mset hk]
    rcases h with rfl | h
    · exact List.mem_map_of_mem (mget_mem hk)
    · exact h

def cntD (L : List Ent) (n : ByteArray) (done : List (Int × Bool)) : Nat := (done.flatMap fun p => (ofL9 p.1 L).filter fun x => matchB x.2.1 n).length

theorem cntD_snoc (L : List Ent) (n : ByteArray) (done : List (Int × Bool)) (p : Int × Bool) : cntD L n (done ++ [p]) = cntD L n done + ((ofL9 p.1 L).filter fun x => matchB x.2.1 n).length := by
  unfold cntD; simp

theorem cntD_all {L : List Ent} {n : ByteArray} {done : List (Int × Bool)} (hnd : (done.map (·.1)).Nodup) (hall : ∀ x ∈ L, x.1 ∈ done.map (·.1)) : cntD L n done = (L.filter fun x => matchB x.2.1 n).length := by
  have h1 := perm_part (g := fun x : Ent => x.1) (L.filter fun x => matchB x.2.1 n) (done.map (·.1)) hnd (fun a ha => hall a (List.mem_filter.1 ha).1)
  have h2 := h1.length_eq
  rw [h2, List.flatMap_map]
  unfold cntD
  congr 1
  refine flatMap_congr9 fun p _ => ?_
  unfold ofL9
  rw [List.filter_filter, List.filter_filter]
  refine List.filter_congr fun x _ => ?_
  rw [Bool.and_comm]

set_option maxHeartbeats 2000000 in
theorem TrieFinds_spec (ht : TP h0) {s : Slc} {xs : List (Int × Int × ByteArray × Int)} (hr : RowAt encAct9 4 h0 s xs) (hsz : ∀ x ∈ xs, x.2.2.1.size ≤ 16777216) {n : ByteArray} (hn : n.size ≤ 9223372036854775800) (hs : sat h (old h0 :: R)) {Q : Value → Heap → Prop}
    (hq : ∀ h' R', sat h' (old h0 :: R') → Q (.bool true) h') : HCalls Tryd.prog 8 #[.slice s.a s.len s.cap, .string n] h Q := by
  refine law09_TrieFinds_calls s n h Q ?_
  have he : (if 100 < ((s.len : Nat) : Int) then (100 : Int) else ((s.len : Nat) : Int)) = ((min 100 xs.length : Nat) : Int) := by
    rw [hr.1]; split <;> omega
  unfold law09_TrieFinds
  rw [he]
  refine bind_callN (run9_spec ht hr hsz hs fun t r L h1 hl hids hs1 => ⟨(some ⟨t, 0, none⟩, some ⟨r, 0, none⟩, true, ()), rfl, ?_⟩)
  refine bind_call1 (wakes9_spec ht (hs1.re [2, 0, 1]) fun h2 hs2 => ⟨true, rfl, ?_⟩)
  (try dsimp only); rw [HM.ite_apply, if_neg (by simp)]
  refine new_map (ek := eKI9) (ev := eVB9) hs2 fun m h3 hs3 => ?_
  refine slice_row hr (Nat.min_le_right _ _) fun s' hr' => ?_
  have hys1 : (xs.take (min 100 xs.length)).length ≤ 100 := by simp; omega
  generalize xs.take (min 100 xs.length) = ys at hr' hys1 hids
  have hlen := hr'.1
  have hfz : ∀ x ∈ L, x.2.1.size ≤ 9223372036854775800 := fun x hx => Nat.le_trans (sizedT_le (filterOK_sized ((trie_good (hs2.re [1, 0, 2])).1 x hx))) (by decide)
  clear hs1 hs2 hs
  refine cut (fun _ h' => ∃ l : List (Int × Bool), (∀ a ∈ ys, a.2.1 ∈ l.map (·.1)) ∧ sat h' (mapA eKI9 eVB9 m l :: old h0 :: trieA t L :: refA9 r L :: R)) ?_ ?_
  · intro K hK
    refine loop_for ys.length (fun i x h' => x.1 = (i : Int) ∧ ∃ l : List (Int × Bool), (∀ a ∈ ys.take i, a.2.1 ∈ l.map (·.1)) ∧ sat h' (mapA eKI9 eVB9 m l :: old h0 :: trieA t L :: refA9 r L :: R)) ⟨rfl, [], by simp, hs3⟩
      (fun i x h hi hJ => by rw [hJ.1, hlen]; exact decide_eq_decide.2 (by omega)) (fun x h hJ K2 hd => ?_) (fun i x h hlt hJ K2 hnx hd => ?_)
    · obtain ⟨hx, l, hk, hs4⟩ := hJ
      exact hd _ _ (hK _ _ ⟨l, by simpa using hk, hs4⟩)
    · obtain ⟨ci, ⟨⟩⟩ := x
      obtain ⟨hx, l, hk, hs4⟩ := hJ
      simp only at hx
      subst hx
      have hy := List.getElem?_eq_getElem hlt
      generalize ys[i] = y at hy
      (try dsimp only); rw [HM.bind_apply]
      refine idx_row hr' hy fun a ha => ?_
      refine loadN_of (ts := [.int .i64, .int .i64, .str, .int .i64]) (y.1, y.2.1, y.2.2.1, y.2.2.2, ()) (fun j v hv => hs4.p1.old_cell (ha j v hv)) ?_
      refine new_cells hs4 fun b h5 hs5 => ?_
      (try dsimp only); rw [HM.bind_apply]
      refine storeN_all' hs5 rfl rfl fun h6 hs6 => ?_
      refine ⟨y.2.1, by simp only [Addr.add_at]; exact hs6.cell 1, ?_⟩
      (try dsimp only); rw [HM.bind_apply]
      refine set_map kI9 (inj_int .i64) (ev := eVB9) (x := true) hs6.p1 fun h7 hs7 => ?_
      refine hnx _ _ ⟨by rw [wrap_id (by omega) (by omega)]; rfl, mset l y.2.1 true, fun a ha' => ?_, (hs7.re [0, 2, 3, 4, 1]).re [0, 1, 2, 3] |> fun hh => (hh.p4).drop⟩
      rw [List.take_add_one, hy] at ha'
      refine keys_mset9 _ _ _ _ ?_
      rcases List.mem_append.1 ha' with h8 | h8
      · exact .inr (hk a h8)
      · left
        have : a = y := by simpa using h8
        rw [this]
  rintro x h4 ⟨l, hkl, hs4⟩
  have hnd := hs4.map_nodup
  have hall : ∀ x ∈ L, x.1 ∈ l.map (·.1) := fun x hx => by
    obtain ⟨a, ha, e⟩ := hids x hx
    rw [← e]; exact hkl a ha
  clear hkl hs3
  (try dsimp only); rw [HM.bind_apply]
  refine range_map hs4 fun it h5 hs5 => ?_
  refine cut (fun x h' => x.1 = ((L.filter fun x => matchB x.2.1 n).length : Int) ∧ sat h' (trieA t L :: old h0 :: refA9 r L :: R)) ?_ ?_
  · intro K hK
    refine loop_map (ek := eKI9) (ev := eVB9) (m := m) (l := l) (fun done x => pr (x.1 = (cntD L n done : Int)) :: old h0 :: trieA t L :: refA9 r L :: R) (hs5.tail fun mm hmm => ?_) (fun done x h hp hs6 K2 hd => ?_) (fun done p rest x h hp hs6 K2 hnx hd => ?_)
    · exact star_pr_intro rfl hmm
    · obtain ⟨hx, hs7⟩ := sat.pr_iff.1 hs6.p1
      rw [HM.ite_apply, if_neg (by simp)]
      refine hd _ _ (hK _ _ ⟨?_, (hs7.re [2, 1, 3, 0]).re [0, 1, 2] |> fun hh => hh.p3.drop⟩)
      rw [hx, cntD_all ((hp.map _).nodup_iff.2 hnd) (fun x hx => (hp.map _).mem_iff.2 (hall x hx))]
    · obtain ⟨cx, ⟨⟩⟩ := x
      obtain ⟨hx, hs7⟩ := sat.pr_iff.1 hs6.p1
      simp only at hx
      subst hx
      rw [HM.ite_apply, if_pos rfl]
      (try dsimp only); rw [HM.bind_apply]
      refine entry_map (kk := .one (.int .i64)) (kv := .one .any) (x := p.1) (y := .bool p.2) rfl rfl hs7 ?_
      have hcn : cntD L n done ≤ 100 := by
        have h8 : cntD L n done ≤ cntD L n (done ++ p :: rest) := by unfold cntD; rw [List.flatMap_append, List.length_append]; omega
        rw [cntD_all (L := L) (n := n) ((hp.map _).nodup_iff.2 hnd) (fun x hx => (hp.map _).mem_iff.2 (hall x hx))] at h8
        exact Nat.le_trans h8 (Nat.le_trans (List.length_filter_le _ _) hl)
      refine bind_call1 (tFor_spec (id := p.1) (by omega) (hs7.re [2, 0, 1]) fun sF h8 hs8 => ⟨sF, rfl, ?_⟩)
      refine cut (fun x h' => x.1 = (cntD L n (done ++ [p]) : Int) ∧ sat h' (itA eKI9 eVB9 m l it (done ++ [p]) rest :: old h0 :: trieA t L :: refA9 r L :: R)) ?_ ?_
      · intro K3 hK3
        have hfl := hs8.own_len
        have hfl2 : (ofL9 p.1 L).length ≤ 100 := Nat.le_trans (List.length_filter_le _ _) hl
        refine loop_for (ofL9 p.1 L).length (fun i x h' => x.1 = ((cntD L n done + (((ofL9 p.1 L).take i).filter fun x => matchB x.2.1 n).length : Nat) : Int) ∧ x.2.1 = (i : Int) ∧ sat h' (ownS encE 3 sF (ofL9 p.1 L) :: trieA t L :: itA eKI9 eVB9 m l it (done ++ [p]) rest :: old h0 :: refA9 r L :: R))
          ⟨by simp, rfl, hs8⟩ (fun i x h hi hJ => by rw [hJ.2.1, hfl]; exact decide_eq_decide.2 (by omega)) (fun x h hJ K4 hd4 => ?_) (fun i x h hlt hJ K4 hnx4 hd4 => ?_)
        · obtain ⟨hx1, hx2, hs9⟩ := hJ
          refine hd4 _ _ (hK3 _ _ ⟨?_, hs9.drop.re [1, 2, 0]⟩)
          rw [cntD_snoc, hx1, List.take_length]
        · obtain ⟨c1, c2, ⟨⟩⟩ := x
          obtain ⟨hx1, hx2, hs9⟩ := hJ
          simp only at hx1 hx2
          subst hx1 hx2
          have hy := List.getElem?_eq_getElem hlt
          have hyL : (ofL9 p.1 L)[i] ∈ L := (List.mem_filter.1 (List.getElem_mem hlt)).1
          have htk := take_filter_snoc hy (fun x => matchB x.2.1 n)
          generalize (ofL9 p.1 L)[i] = y at hy hyL htk
          have hln : (((ofL9 p.1 L).take i).filter fun x => matchB x.2.1 n).length ≤ 100 := Nat.le_trans (List.length_filter_le _ _) (by simp; omega)
          (try dsimp only); rw [HM.bind_apply]
          refine idx_row (hs9.own_row eE_len) hy fun a ha => ?_
          refine loadN_of (ts := [.int .i64, .str, .int .i64]) (y.1, y.2.1, y.2.2, ()) ha ?_
          refine new_cells hs9 fun b h10 hs10 => ?_
          (try dsimp only); rw [HM.bind_apply]
          refine storeN_all' hs10 rfl rfl fun h11 hs11 => ?_
          refine ⟨y.2.1, by rw [add_own]; exact hs11.cell 1, ?_⟩
          refine bind_call1 (Match_spec (hs11.re [4, 0, 1, 2, 3]) ht (by have := hfz y hyL; omega) (by omega) fun h12 hs12 => ⟨matchB y.2.1 n, rfl, ?_⟩)
          refine cut (fun z h' => z.1 = ((cntD L n done + (((ofL9 p.1 L).take (i + 1)).filter fun x => matchB x.2.1 n).length : Nat) : Int) ∧ h' = h12) ?_ ?_
          · intro K5 hK5
            rw [HM.ite_apply]
            by_cases hb : matchB y.2.1 n = true
            · rw [if_pos hb] at htk ⊢
              refine hK5 _ _ ⟨?_, rfl⟩
              rw [htk, wrap_id (by omega) (by omega)]
              simp; omega
            · rw [if_neg hb] at htk ⊢
              exact hK5 _ _ ⟨by rw [htk]; simp, rfl⟩
          rintro ⟨z, ⟨⟩⟩ h13 ⟨hz, rfl⟩
          simp only at hz
          subst hz
          refine hnx4 _ _ ⟨rfl, by rw [wrap_id (by omega) (by omega)]; rfl, ?_⟩
          exact (hs12.re [2, 3, 4, 0, 5, 1]).re [0, 1, 2, 3, 4] |> fun hh => hh.p5.drop
      rintro ⟨z, ⟨⟩⟩ h9 ⟨hz, hs9⟩
      simp only at hz
      subst hz
      refine hnx _ _ (hs9.tail fun mm hmm => star_pr_intro rfl hmm)
  clear hs5 hs4
  rintro ⟨x, ⟨⟩⟩ h6 ⟨hx, hs6⟩
  simp only at hx
  subst hx
  have hasc := ((trie_good hs6).2).filter (fun x => matchB x.2.1 n)
  have hLl := List.length_filter_le (fun x => matchB x.2.1 n) L
  refine bind_call1 (tMatch_spec ht (by omega) (by omega) hs6 fun sM h7 hs7 => ⟨sM, rfl, ?_⟩)
  have hM : ∀ x ∈ L.filter (fun x => matchB x.2.1 n), matchB x.2.1 n = true ∧ x.2.1.size ≤ 9223372036854775800 := fun x hx => ⟨(List.mem_filter.1 hx).2, hfz x (List.mem_filter.1 hx).1⟩
  generalize hMe : (L.filter fun x => matchB x.2.1 n) = M at hs7 hasc hLl hM
  have hml := hs7.own_len
  (try dsimp only); rw [HM.bind_apply]
  refine loop_for M.length (fun i x h' => x.1 = (i : Int) ∧ sat h' (ownS encE 3 sM M :: trieA t L :: old h0 :: refA9 r L :: R)) ⟨rfl, hs7⟩ (fun i x h hi hJ => by rw [hJ.1, hml]; exact decide_eq_decide.2 (by omega)) (fun x h hJ K2 hd => ?_) (fun i x h hlt hJ K2 hnx hd => ?_)
  · obtain ⟨hx, hs8⟩ := hJ
    refine hd _ _ ?_
    simp only [Sum.elim_inl, HM.pure_apply]
    rw [hml, beq_self_eq_true]
    exact hq _ _ hs8.p2
  · obtain ⟨ci, ⟨⟩⟩ := x
    obtain ⟨hx, hs8⟩ := hJ
    simp only at hx
    subst hx
    have hy := List.getElem?_eq_getElem hlt
    have hyM := hM _ (List.getElem_mem hlt)
    have hpw := fun (j : Nat) (hj : j < i) => List.pairwise_iff_getElem.1 hasc j i (by omega) hlt hj
    generalize M[i] = y at hy hyM hpw
    (try dsimp only); rw [HM.bind_apply]
    refine idx_row (hs8.own_row eE_len) hy fun a ha => ?_
    refine loadN_of (ts := [.int .i64, .str, .int .i64]) (y.1, y.2.1, y.2.2, ()) ha ?_
    refine new_cells hs8 fun b h10 hs10 => ?_
    (try dsimp only); rw [HM.bind_apply]
    refine storeN_all' hs10 rfl rfl fun h11 hs11 => ?_
    refine cut (fun z h' => z.1 = false ∧ sat h' (ownS encE 3 sM M :: trieA t L :: old h0 :: refA9 r L :: R)) ?_ ?_
    · intro K5 hK5
      refine ⟨y.2.1, by rw [add_own]; exact hs11.cell 1, ?_⟩
      refine bind_call1 (Match_spec (hs11.re [3, 0, 1, 2]) ht (by have := hyM.2; omega) (by omega) fun h12 hs12 => ⟨matchB y.2.1 n, rfl, ?_⟩)
      have hs13 : sat h12 (cells b #[.int .i64 y.1, .string y.2.1, .int .i64 y.2.2] :: ownS encE 3 sM M :: trieA t L :: old h0 :: refA9 r L :: R) := hs12.re [1, 2, 3, 0]
      clear hs12
      (try dsimp only); rw [HM.ite_apply, if_neg (by simp [hyM.1])]
      (try dsimp only); rw [HM.ite_apply]
      by_cases h0i : 0 < i
      · rw [if_pos (by simpa using h0i)]
        have ew : IntKind.wrap .i64 ((i : Int) - 1) = ((i - 1 : Nat) : Int) := by rw [wrap_id (by omega) (by omega)]; omega
        have hz : M[i - 1]? = some (M[i - 1]'(by omega)) := List.getElem?_eq_getElem _
        have hlt2 := hpw (i - 1) (by omega)
        generalize M[i - 1]'(by omega) = z at hz hlt2
        have hrow := hs13.p1.own_row eE_len
        (try dsimp only); rw [ew, HM.bind_apply]
        refine idx_row hrow hz fun a2 ha2 => ?_
        refine ⟨z.1, ha2 0 _ rfl, y.1, by rw [add_own]; exact hs13.cell 0, ?_⟩
        have hnl : ¬ (y.1 < z.1) := by rcases hlt2 with h | ⟨h, _⟩ <;> simp only [keyE] at h <;> omega
        (try dsimp only); rw [HM.ite_apply, if_neg (by simpa using hnl)]
        (try dsimp only); rw [HM.bind_apply]
        refine idx_row hrow hz fun a3 ha3 => ?_
        refine ⟨z.1, ha3 0 _ rfl, y.1, by rw [add_own]; exact hs13.cell 0, ?_⟩
        (try dsimp only); rw [HM.ite_apply]
        by_cases hzy : z.1 = y.1
        · rw [if_pos (by simpa using hzy)]
          (try dsimp only); rw [HM.bind_apply]
          refine idx_row hrow hz fun a4 ha4 => ?_
          refine ⟨z.2.1, ha4 1 _ rfl, y.2.1, by rw [add_own]; exact hs13.cell 1, ?_⟩
          refine hK5 _ _ ⟨?_, hs13.drop⟩
          simp only
          rw [less_ltS]
          have : ltS z.2.1 y.2.1 := by rcases hlt2 with h | ⟨_, h⟩ <;> simp only [keyE] at h <;> first | omega | exact h
          simp [this]
        · rw [if_neg (by simpa using hzy)]
          exact hK5 _ _ ⟨rfl, hs13.drop⟩
      · rw [if_neg (by simpa using h0i)]
        exact hK5 _ _ ⟨rfl, hs13.drop⟩
    rintro ⟨z, ⟨⟩⟩ h13 ⟨hz, hs13⟩
    simp only at hz
    subst hz
    rw [HM.ite_apply, if_neg (by simp)]
    exact hnx _ _ ⟨by rw [wrap_id (by omega) (by omega)]; rfl, hs13⟩

end Go.Proofs.YtnmighfcpeifeaaDoor
