/-
  L09b: laws TrieLists, TrieForgets over heaps.
-/
import Derived.Test.YtnpgpijkofbknaaGreatDoorC09
import Derived.Test.YtnpgpijkofbknaaGreatDoorCtrk
namespace Go.Proofs.YtnpgpijkofbknaaGreatDoor
open Go.H Go.Proofs
set_option linter.unusedSimpArgs false
set_option linter.unusedVariables false
set_option maxRecDepth 100000

variable {h h0 : Heap} {R : List Asn}

theorem both_for {t r : Nat} {L : List Ent} {id : Int} (hl : L.length ≤ 100) (hs : sat h (trieA t L :: refA9 r L :: old h0 :: R)) {β : Type} {f : Bool → HM β} {g : Slc → HM Slc} {Q : β → Heap → Prop}
    (hq : ∀ h', sat h' (trieA t L :: refA9 r L :: old h0 :: R) → f true h' Q) :
    (HM.bind (HM.call1 Tryz.prog (.one .slc) 8 #[at9 t, .int .i64 id]) fun x3 => HM.bind (HM.call1 Tryz.prog (.one .slc) 9 #[at9 r, .int .i64 id]) fun x4 =>
      HM.bind (HM.call1 Tryz.prog (.one .bool) 7 #[.slice x3.a x3.len x3.cap, .slice x4.a x4.len x4.cap]) f) h Q := by
  refine bind_call1 (tFor_spec (id := id) (by omega) hs fun o1 h1 hs1 => ⟨o1, rfl, ?_⟩)
  refine bind_call1 (rFor_spec (id := id) (by omega) (hs1.re [2, 0, 1, 3]) fun o2 h2 hs2 => ⟨o2, rfl, ?_⟩)
  have hs3 : sat h2 (ownS encE 3 o1 (ofL9 id L) :: ownS encE 3 o2 (ofL9 id L) :: trieA t L :: refA9 r L :: old h0 :: R) := hs2.re [2, 0, 3, 1, 4]
  refine bind_call1 (same9_spec (Nat.le_trans (List.length_filter_le _ _) (by omega)) hs3 ⟨true, rfl, ?_⟩)
  exact hq _ hs3.drop.drop

theorem TrieLists_spec (ht : TP h0) {s : Slc} {xs : List (Int × Int × ByteArray × Int)} (hr : RowAt encAct9 4 h0 s xs) (hsz : ∀ x ∈ xs, x.2.2.1.size ≤ 16777216) {id : Int} (hs : sat h (old h0 :: R)) {Q : Value → Heap → Prop}
    (hq : ∀ h' R', sat h' (old h0 :: R') → Q (.bool true) h') : HCalls Tryz.prog 3 #[.slice s.a s.len s.cap, .int .i64 id] h Q := by
  refine law09_TrieLists_calls s id h Q ?_
  have he : (if 20 < ((s.len : Nat) : Int) then (20 : Int) else ((s.len : Nat) : Int)) = ((min 20 xs.length : Nat) : Int) := by
    rw [hr.1]; split <;> omega
  unfold law09_TrieLists
  rw [he]
  refine bind_callN (run9_spec ht hr hsz hs fun t r L h1 hl hids hs1 => ⟨(some ⟨t, 0, none⟩, some ⟨r, 0, none⟩, true, ()), rfl, ?_⟩)
  refine cut (fun z h' => z.1 = false ∧ sat h' (trieA t L :: refA9 r L :: old h0 :: R)) ?_ ?_
  · intro K hK
    refine bind_call1 (wakes9_spec ht (hs1.re [2, 0, 1]) fun h2 hs2 => ⟨true, rfl, ?_⟩)
    (try dsimp only); rw [HM.ite_apply, if_neg (by simp)]
    (try dsimp only); rw [HM.ite_apply, if_neg (by simp)]
    exact both_for (g := HM.pure) hl (hs2.re [1, 2, 0]) fun h3 hs3 => hK _ _ ⟨rfl, hs3⟩
  clear hs1
  rintro ⟨z, ⟨⟩⟩ h2 ⟨hz, hs2⟩
  simp only at hz
  subst hz
  (try dsimp only); rw [HM.ite_apply, if_neg (by simp)]
  refine slice_row hr (Nat.min_le_right _ _) fun s' hr' => ?_
  have hys1 : (xs.take (min 20 xs.length)).length ≤ 20 := by simp; omega
  generalize xs.take (min 20 xs.length) = ys at hr' hys1
  have hlen := hr'.1
  (try dsimp only); rw [HM.bind_apply]
  refine loop_for ys.length (fun i x h' => x.1 = (i : Int) ∧ sat h' (trieA t L :: refA9 r L :: old h0 :: R)) ⟨rfl, hs2⟩ (fun i x h hi hJ => by rw [hJ.1, hlen]; exact decide_eq_decide.2 (by omega)) (fun x h hJ K2 hd => ?_) (fun i x h hlt hJ K2 hnx hd => ?_)
  · obtain ⟨hx, hs3⟩ := hJ
    refine hd _ _ ?_
    simp only [Sum.elim_inl]
    refine bind_call1 (tFilters_spec (by omega) hs3 fun o1 h4 hs4 => ⟨o1, rfl, ?_⟩)
    refine bind_call1 (rFilters_spec (by omega) (hs4.re [2, 0, 1, 3]) fun o2 h5 hs5 => ⟨o2, rfl, ?_⟩)
    have hFl : (filtL L).length ≤ 100 := Nat.le_trans (filtL_spec _ L rfl).2.1 hl
    generalize filtL L = F at hs5 hFl
    have hl2 := hs5.own_len
    have hl1 := hs5.p2.own_len
    (try dsimp only); rw [HM.ite_apply, if_neg (by rw [hl1, hl2]; simp)]
    (try dsimp only); rw [HM.bind_apply]
    refine loop_for F.length (fun i x h' => x.1 = (i : Int) ∧ sat h' (ownS eS 1 o2 F :: refA9 r L :: ownS eS 1 o1 F :: trieA t L :: old h0 :: R)) ⟨rfl, hs5⟩ (fun i x h hi hJ => by rw [hJ.1, hl1]; exact decide_eq_decide.2 (by omega)) (fun x h hJ K2 hd => ?_) (fun i x h hlt hJ K2 hnx hd => ?_)
    · obtain ⟨hx, hs6⟩ := hJ
      refine hd _ _ ?_
      simp only [Sum.elim_inl, HM.pure_apply]
      exact hq _ _ hs6.p4
    · obtain ⟨ci, ⟨⟩⟩ := x
      obtain ⟨hx, hs6⟩ := hJ
      simp only at hx
      subst hx
      have hy := List.getElem?_eq_getElem hlt
      generalize F[i] = y at hy
      (try dsimp only); rw [HM.bind_apply]
      refine idx_row (hs6.p2.own_row eS_len) hy fun a ha => ?_
      refine ⟨y, ha 0 _ rfl, ?_⟩
      (try dsimp only); rw [HM.bind_apply]
      refine idx_row (hs6.own_row eS_len) hy fun a2 ha2 => ?_
      refine ⟨y, ha2 0 _ rfl, ?_⟩
      (try dsimp only); rw [HM.ite_apply, if_neg (by simp)]
      exact hnx _ _ ⟨by rw [wrap_id (by omega) (by omega)]; rfl, hs6⟩
  · obtain ⟨ci, ⟨⟩⟩ := x
    obtain ⟨hx, hs3⟩ := hJ
    simp only at hx
    subst hx
    have hy := List.getElem?_eq_getElem hlt
    generalize ys[i] = y at hy
    (try dsimp only); rw [HM.bind_apply]
    refine idx_row hr' hy fun a ha => ?_
    refine loadN_of (ts := [.int .i64, .int .i64, .str, .int .i64]) (y.1, y.2.1, y.2.2.1, y.2.2.2, ()) (fun j v hv => hs3.p2.old_cell (ha j v hv)) ?_
    refine new_cells hs3 fun b h5 hs5 => ?_
    (try dsimp only); rw [HM.bind_apply]
    refine storeN_all' hs5 rfl rfl fun h6 hs6 => ?_
    refine ⟨y.2.1, by simp only [Addr.add_at]; exact hs6.cell 1, y.2.1, by simp only [Addr.add_at]; exact hs6.cell 1, ?_⟩
    refine bind_call1 (tFor_spec (id := y.2.1) (by omega) hs6.p1 fun o1 h7 hs7 => ⟨o1, rfl, ?_⟩)
    refine ⟨y.2.1, by simp only [Addr.add_at]; exact hs7.p2.cell 1, rfl, ?_⟩
    refine bind_call1 (rFor_spec (id := y.2.1) (by omega) (hs7.re [3, 0, 1, 2, 4]) fun o2 h8 hs8 => ⟨o2, rfl, ?_⟩)
    have hs9 : sat h8 (ownS encE 3 o1 (ofL9 y.2.1 L) :: ownS encE 3 o2 (ofL9 y.2.1 L) :: trieA t L :: refA9 r L :: old h0 :: R) := (hs8.re [4, 2, 0, 3, 1, 5]).drop
    refine bind_call1 (same9_spec (Nat.le_trans (List.length_filter_le _ _) (by omega)) hs9 ⟨true, rfl, ?_⟩)
    (try dsimp only); rw [HM.ite_apply, if_neg (by simp)]
    exact hnx _ _ ⟨by rw [wrap_id (by omega) (by omega)]; rfl, hs9.drop.drop⟩

theorem forgets {L L' : List Ent} {id q c : Int} {f : ByteArray} (hno : ∀ x ∈ L, keyE x ≠ (id, f)) (h : AddOut L id q f c L') : delL L' id f = L ∧ (decide ((delL L' id f).length < L'.length) = (c == 0)) := by
  have hd : delL L id f = L := delL_none hno
  cases h with
  | bad => rw [hd]; simp
  | qos => rw [hd]; simp
  | set i x _ _ _ hi hk => exact absurd hk (hno x (List.mem_of_getElem? hi))
  | full => rw [hd]; simp
  | ins =>
    have e : delL (insS ltK keyE (id, f, q) L) id f = L := by
      have key : ∀ l : List Ent, (∀ x ∈ l, keyE x ≠ (id, f)) → delL (insS ltK keyE (id, f, q) l) id f = l := by
        intro l
        induction l with
        | nil => intro _; simp [insS, delL, keyE]
        | cons x l ih =>
          intro hl
          have h1 : keyE x ≠ (id, f) := hl x (List.mem_cons_self ..)
          have h2 := ih fun y hy => hl y (List.mem_cons_of_mem _ hy)
          have h3 : delL l id f = l := delL_none fun y hy => hl y (List.mem_cons_of_mem _ hy)
          unfold insS
          split
          · unfold delL at h3 ⊢
            rw [List.filter_cons, if_neg (by simp [keyE]), List.filter_cons, if_pos (decide_eq_true h1), h3]
          · unfold delL at h2 ⊢
            rw [List.filter_cons, if_pos (decide_eq_true h1), h2]
      exact key L hno
    rw [e]
    have := (insS_perm ltK keyE (id, f, q) L).length_eq
    refine ⟨rfl, ?_⟩
    rw [this]
    simp

abbrev encSl (x : Slc) : List Value := [.slice x.a x.len x.cap]
theorem eSl_len (x : Slc) : (encSl x).length = 1 := rfl
theorem eSl_cell (x : Slc) : ∀ v ∈ encSl x, v.oneCell' = true := by intro v hv; rw [List.mem_singleton.1 hv]; rfl

theorem bigA_one {α : Type} {f : α → Asn} {x : α} : sat h (bigA f [x] :: R) ↔ sat h (f x :: R) := by
  rw [bigA_cons]
  exact ⟨fun hs => bigA_nil.1 hs.p1, fun hs => (bigA_nil.2 hs).p1⟩

def mats (L : List Ent) (ps : List (Slc × ByteArray)) : Asn := bigA (fun p : Slc × ByteArray => ownS encE 3 p.1 (L.filter fun x => matchB x.2.1 p.2)) ps

set_option maxHeartbeats 1000000 in
theorem TrieForgets_spec (ht : TP h0) {s s2 : Slc} {xs : List (Int × Int × ByteArray × Int)} {ns : List ByteArray} (hr : RowAt encAct9 4 h0 s xs) (hsz : ∀ x ∈ xs, x.2.2.1.size ≤ 16777216) {e : Ent} (hez : e.2.1.size ≤ 16777216)
    (hr2 : RowAt (fun x : ByteArray => [.string x]) 1 h0 s2 ns) (hsz2 : ∀ x ∈ ns, x.size ≤ 9223372036854775800) (hs : sat h (old h0 :: R)) {Q : Value → Heap → Prop}
    (hq : ∀ h' R', sat h' (old h0 :: R') → Q (.bool true) h') : HCalls Tryz.prog 4 #[.slice s.a s.len s.cap, .agg #[.int .i64 e.1, .string e.2.1, .int .i64 e.2.2], .slice s2.a s2.len s2.cap] h Q := by
  refine law09_TrieForgets_calls s (e.1, e.2.1, e.2.2, ()) s2 h Q ?_
  have he : (if 10 < ((s2.len : Nat) : Int) then (10 : Int) else ((s2.len : Nat) : Int)) = ((min 10 ns.length : Nat) : Int) := by
    rw [hr2.1]; split <;> omega
  unfold law09_TrieForgets
  rw [he]
  refine new_cells hs fun x1 h1 hs1 => ?_
  have cE : ∀ {h' : Heap} {R' : List Asn}, sat h' (cells x1 #[.int .i64 e.1, .string e.2.1, .int .i64 e.2.2] :: R') → cellH h' ⟨x1, 0, none⟩ = some (.int .i64 e.1) ∧ cellH h' ⟨x1, 1, none⟩ = some (.string e.2.1) := fun hs' => ⟨hs'.cell 0, hs'.cell 1⟩
  refine bind_callN (run9_spec ht hr hsz hs1.p1 fun t r L h2 hl hids hs2 => ⟨(some ⟨t, 0, none⟩, some ⟨r, 0, none⟩, true, ()), rfl, ?_⟩)
  have hs3 : sat h2 (trieA t L :: cells x1 #[.int .i64 e.1, .string e.2.1, .int .i64 e.2.2] :: old h0 :: refA9 r L :: R) := hs2.re [0, 3, 2, 1]
  clear hs2 hs1 hs
  refine ⟨e.1, by rw [add_own]; exact (cE hs3.p1).1, ?_⟩
  refine bind_call1 (tFor_spec (id := e.1) (by omega) hs3 fun o h3 hs4 => ⟨o, rfl, ?_⟩)
  have hol := hs4.own_len
  have hofl : (ofL9 e.1 L).length ≤ 100 := Nat.le_trans (List.length_filter_le _ _) hl
  (try dsimp only); rw [HM.bind_apply]
  refine loop_for (ofL9 e.1 L).length (fun i x h' => x.1 = (i : Int) ∧ (∀ y ∈ (ofL9 e.1 L).take i, y.2.1 ≠ e.2.1) ∧ sat h' (ownS encE 3 o (ofL9 e.1 L) :: trieA t L :: cells x1 #[.int .i64 e.1, .string e.2.1, .int .i64 e.2.2] :: old h0 :: refA9 r L :: R))
    ⟨rfl, by simp, hs4⟩ (fun i x h hi hJ => by rw [hJ.1, hol]; exact decide_eq_decide.2 (by omega)) (fun x h hJ K2 hd => ?_) (fun i x h hlt hJ K2 hnx hd => ?_)
  case refine_2 =>
    obtain ⟨ci, ⟨⟩⟩ := x
    obtain ⟨hx, hall, hs5⟩ := hJ
    simp only at hx
    subst hx
    have hy := List.getElem?_eq_getElem hlt
    generalize (ofL9 e.1 L)[i] = y at hy
    (try dsimp only); rw [HM.bind_apply]
    refine idx_row (hs5.own_row eE_len) hy fun a ha => ?_
    refine loadN_of (ts := [.int .i64, .str, .int .i64]) (y.1, y.2.1, y.2.2, ()) ha ?_
    refine new_cells hs5 fun b h6 hs6 => ?_
    (try dsimp only); rw [HM.bind_apply]
    refine storeN_all' hs6 rfl rfl fun h7 hs7 => ?_
    refine ⟨y.2.1, by rw [add_own]; exact hs7.cell 1, e.2.1, by rw [add_own]; exact (cE hs7.p3).2, ?_⟩
    (try dsimp only); rw [HM.ite_apply]
    by_cases hye : y.2.1 = e.2.1
    · rw [if_pos (by simpa using hye)]
      refine bind_call1 (wakes9_spec ht hs7.p4 fun h8 hs8 => ⟨true, rfl, ?_⟩)
      refine hd _ _ ?_
      simp only [Sum.elim_inr, HM.pure_apply]
      exact hq _ _ hs8
    · rw [if_neg (by simpa using hye)]
      refine hnx _ _ ⟨by rw [wrap_id (by omega) (by omega)]; rfl, fun z hz => ?_, hs7.drop⟩
      rw [List.take_add_one, hy] at hz
      rcases List.mem_append.1 hz with h8 | h8
      · exact hall z h8
      · have : z = y := by simpa using h8
        rw [this]; exact hye
  -- the entry isn't there
  obtain ⟨hx, hall, hs5⟩ := hJ
  rw [List.take_length] at hall
  have hno : ∀ x ∈ L, keyE x ≠ (e.1, e.2.1) := fun x hx hk => by
    obtain ⟨h1, h2⟩ := Prod.mk.inj (show (x.1, x.2.1) = (e.1, e.2.1) from hk)
    exact hall x (List.mem_filter.2 ⟨hx, by simpa using h1⟩) h2
  refine hd _ _ ?_
  clear hs3 hs4
  simp only [Sum.elim_inl]
  refine bind_call1 (tFilters_spec (by omega) (hs5.drop) fun o1 h4 hs6 => ⟨o1, rfl, ?_⟩)
  have hF1 := hs6.own_len
  refine slice_row hr2 (Nat.min_le_right _ _) fun s' hr' => ?_
  have hys1 : (ns.take (min 10 ns.length)).length ≤ 10 := by simp; omega
  have hysz : ∀ x ∈ ns.take (min 10 ns.length), x.size ≤ 9223372036854775800 := fun x hx => hsz2 x (List.mem_of_mem_take hx)
  generalize ns.take (min 10 ns.length) = ys at hr' hys1 hysz
  have hlen := hr'.1
  have hs7 : sat h4 (trieA t L :: cells x1 #[.int .i64 e.1, .string e.2.1, .int .i64 e.2.2] :: old h0 :: R) := (hs6.re [1, 2, 3, 0, 4]).re [0, 1, 2, 3, 4] |> fun hh => (hh.re [3, 4, 0, 1, 2]).drop.drop
  clear hs6 hs5
  refine cut (fun z h' => ∃ ps : List (Slc × ByteArray), ps.map (·.2) = ys ∧ sat h' (trieA t L :: cells x1 #[.int .i64 e.1, .string e.2.1, .int .i64 e.2.2] :: old h0 :: ownS encSl 1 z.1 (ps.map (·.1)) :: mats L ps :: R)) ?_ ?_
  · intro K hK
    refine loop_for ys.length (fun i x h' => x.2.1 = (i : Int) ∧ ∃ ps : List (Slc × ByteArray), ps.map (·.2) = ys.take i ∧ sat h' (trieA t L :: cells x1 #[.int .i64 e.1, .string e.2.1, .int .i64 e.2.2] :: old h0 :: ownS encSl 1 x.1 (ps.map (·.1)) :: mats L ps :: R))
      ⟨rfl, [], by simp, by
        have h8 := ownS_nil (enc := encSl) (size := 1) (bigA_nil (f := fun p : Slc × ByteArray => ownS encE 3 p.1 (L.filter fun x => matchB x.2.1 p.2)) |>.2 hs7)
        exact h8.re [2, 3, 4, 0, 1]⟩ (fun i x h hi hJ => by rw [hJ.1, hlen]; exact decide_eq_decide.2 (by omega)) (fun x h hJ K2 hd => ?_) (fun i x h hlt hJ K2 hnx hd => ?_)
    · obtain ⟨hx, ps, hps, hs8⟩ := hJ
      rw [List.take_length] at hps
      exact hd _ _ (hK _ _ ⟨ps, hps, hs8⟩)
    · obtain ⟨z, ci, ⟨⟩⟩ := x
      obtain ⟨hx, ps, hps, hs8⟩ := hJ
      simp only at hx hs8
      subst hx
      have hy := List.getElem?_eq_getElem hlt
      have hyz := hysz _ (List.getElem_mem hlt)
      generalize ys[i] = y at hy hyz
      have hpl : ps.length = i := by
        have := congrArg List.length hps
        simp only [List.length_map, List.length_take] at this
        omega
      (try dsimp only); rw [HM.bind_apply]
      refine idx_row hr' hy fun a ha => ?_
      refine ⟨y, hs8.p2.old_cell (ha 0 _ rfl), ?_⟩
      refine bind_call1 (tMatch_spec (n := y) ht (by omega) (by omega) (hs8.re [0, 2, 1, 3, 4]) fun om h9 hs9 => ⟨om, rfl, ?_⟩)
      refine app_new (enc := encSl) (x := om) eSl_len eSl_cell rfl (hs9.re [4, 0, 1, 2, 3, 5]) (by decide) (by decide) (by simp; omega) fun zs h10 hs10 => ?_
      refine hnx _ _ ⟨by rw [wrap_id (by omega) (by omega)]; rfl, ps ++ [(om, y)], ?_, ?_⟩
      · rw [List.map_append, hps, List.take_add_one, hy]; rfl
      · have h11 : sat h10 (mats L (ps ++ [(om, y)]) :: ownS encSl 1 zs (ps.map (·.1) ++ [om]) :: trieA t L :: old h0 :: cells x1 #[.int .i64 e.1, .string e.2.1, .int .i64 e.2.2] :: R) := by
          unfold mats
          refine bigA_app.2 ?_
          have h12 := hs10.re [5, 1, 0, 2, 3, 4]
          exact (bigA_one.2 h12.p1).p1
        rw [List.map_append]
        exact h11.re [2, 4, 3, 1, 0]
  clear hs7
  rintro ⟨z, zi, ⟨⟩⟩ h5 ⟨ps, hps, hs8⟩
  simp only at hs8
  have hpl : ps.length = ys.length := by rw [← hps, List.length_map]
  have hpm : ∀ p ∈ ps, ∀ {h' : Heap} {R' : List Asn}, sat h' (mats L ps :: R') → RowAt encE 3 h' p.1 (L.filter fun x => matchB x.2.1 p.2) := fun p hp h' R' hs' => by
    obtain ⟨R2, h9⟩ := bigA_mem hp hs'
    exact h9.own_row eE_len
  refine loadN_cells (ts := [.int .i64, .str, .int .i64]) (e.1, e.2.1, e.2.2, ()) hs8.p1 rfl ?_
  have hasc := (trie_good hs8).2
  refine bind_call1 (tAdd9 (id := e.1) (q := e.2.2) (f := e.2.1) ht (by omega) (by omega) (hs8.re [0, 2, 1, 3, 4]) fun c L' h6 ho hs9 => ⟨c, rfl, ?_⟩)
  obtain ⟨hfo1, hfo2⟩ := forgets hno ho
  have hLl := ho.len
  refine cut (fun w h' => w.1 = false ∧ sat h' (trieA t L :: old h0 :: ownS encSl 1 z (ps.map (·.1)) :: mats L ps :: R)) ?_ ?_
  · intro K hK
    refine bind_call1 (wakes9_spec ht hs9.p1 fun h7 hs10 => ⟨true, rfl, ?_⟩)
    (try dsimp only); rw [HM.ite_apply, if_neg (by simp)]
    refine ⟨e.1, by rw [add_own]; exact (cE hs10.p2).1, e.2.1, by rw [add_own]; exact (cE hs10.p2).2, ?_⟩
    refine bind_call1 (tRemove_spec (id := e.1) (f := e.2.1) ht hez (by omega) hs10.p1 fun h8 hs11 => ⟨_, rfl, ?_⟩)
    rw [hfo1] at hs11
    rw [hfo2]
    (try dsimp only); rw [HM.ite_apply, if_neg (by simp)]
    refine bind_call1 (tFilters_spec (by omega) hs11 fun o2 h9 hs12 => ⟨o2, rfl, ?_⟩)
    have hF2 := hs12.own_len
    refine hK _ _ ⟨by simp only; rw [hF1, hF2]; simp, (hs12.re [1, 2, 4, 5, 0, 3]).re [0, 1, 2, 3, 4, 5] |> fun hh => (hh.re [4, 5, 0, 1, 2, 3]).drop.drop⟩
  clear hs8 hs9
  rintro ⟨w, ⟨⟩⟩ h7 ⟨hw, hs9⟩
  simp only at hw
  subst hw
  (try dsimp only); rw [HM.ite_apply, if_neg (by simp)]
  (try dsimp only); rw [HM.bind_apply]
  refine loop_for ys.length (fun i x h' => x.1 = (i : Int) ∧ sat h' (trieA t L :: old h0 :: ownS encSl 1 z (ps.map (·.1)) :: mats L ps :: R)) ⟨rfl, hs9⟩ (fun i x h hi hJ => by rw [hJ.1, hlen]; exact decide_eq_decide.2 (by omega)) (fun x h hJ K2 hd => ?_) (fun i x h hlt hJ K2 hnx hd => ?_)
  · obtain ⟨hx, hs10⟩ := hJ
    refine hd _ _ ?_
    simp only [Sum.elim_inl, Sum.elim_inr, HM.pure_apply]
    exact hq _ _ hs10.p1
  · obtain ⟨ci, ⟨⟩⟩ := x
    obtain ⟨hx, hs10⟩ := hJ
    simp only at hx
    subst hx
    have hp : ps[i]? = some (ps[i]'(by omega)) := List.getElem?_eq_getElem _
    have hpM : ps[i]'(by omega) ∈ ps := List.getElem_mem _
    generalize ps[i]'(by omega) = p at hp hpM
    have hy : ys[i]? = some p.2 := by rw [← hps, List.getElem?_map, hp]; rfl
    have hz : (ps.map (·.1))[i]? = some p.1 := by rw [List.getElem?_map, hp]; rfl
    have hyz := hysz _ (List.mem_of_getElem? hy)
    (try dsimp only); rw [HM.bind_apply]
    refine idx_row hr' hy fun a ha => ?_
    refine ⟨p.2, hs10.p1.old_cell (ha 0 _ rfl), ?_⟩
    refine bind_call1 (tMatch_spec (n := p.2) ht (by omega) (by omega) hs10 fun om h9 hs11 => ⟨om, rfl, ?_⟩)
    have hr3 := hpm p hpM (hs11.re [4, 0, 1, 2, 3])
    have hom := hs11.own_len
    have hML : (L.filter fun x => matchB x.2.1 p.2).length ≤ 100 := Nat.le_trans (List.length_filter_le _ _) hl
    have hs12 : sat h9 (ownS encE 3 om (L.filter fun x => matchB x.2.1 p.2) :: ownS encSl 1 z (ps.map (·.1)) :: trieA t L :: old h0 :: mats L ps :: R) := hs11.re [0, 3, 1, 2, 4]
    have hzr : RowAt encSl 1 h9 z (ps.map (·.1)) := hs12.p1.own_row eSl_len
    generalize (L.filter fun x => matchB x.2.1 p.2) = M at hs12 hr3 hom hML
    have hrm := hs12.own_row eE_len
    have hr3l := hr3.1
    (try dsimp only); rw [HM.bind_apply]
    refine idx_row hzr hz fun a2 ha2 => ?_
    refine ⟨p.1, ha2 0 _ rfl, ?_⟩
    (try dsimp only); rw [HM.ite_apply, if_neg (by rw [hom, hr3l]; simp)]
    (try dsimp only); rw [HM.bind_apply]
    refine loop_for M.length (fun k x h' => x.1 = (k : Int) ∧ h' = h9) ⟨rfl, rfl⟩ (fun k x h hi hJ => by rw [hJ.1, hom]; exact decide_eq_decide.2 (by omega)) (fun x h hJ K3 hd3 => ?_) (fun k x h hlt hJ K3 hnx3 hd3 => ?_)
    · obtain ⟨hx, rfl⟩ := hJ
      refine hd3 _ _ ?_
      simp only [Sum.elim_inl, Sum.elim_inr, HM.pure_apply]
      refine hnx _ _ ⟨by rw [wrap_id (by omega) (by omega)]; rfl, (hs12.re [2, 3, 1, 4, 0]).re [0, 1, 2, 3, 4] |> fun hh => (hh.re [4, 0, 1, 2, 3]).drop⟩
    · obtain ⟨ck, ⟨⟩⟩ := x
      obtain ⟨hx, rfl⟩ := hJ
      simp only at hx
      subst hx
      have hm := List.getElem?_eq_getElem hlt
      generalize M[k] = y at hm
      (try dsimp only); rw [HM.bind_apply]
      refine idx_row hrm hm fun a3 ha3 => ?_
      refine loadN_of (ts := [.int .i64, .str, .int .i64]) (y.1, y.2.1, y.2.2, ()) ha3 ?_
      (try dsimp only); rw [HM.bind_apply]
      refine idx_row hzr hz fun a4 ha4 => ?_
      refine ⟨p.1, ha4 0 _ rfl, ?_⟩
      (try dsimp only); rw [HM.bind_apply]
      refine idx_row hr3 hm fun a5 ha5 => ?_
      refine loadN_of (ts := [.int .i64, .str, .int .i64]) (y.1, y.2.1, y.2.2, ()) ha5 ?_
      (try dsimp only); rw [HM.ite_apply, if_neg (by simp)]
      exact hnx3 _ _ ⟨by rw [wrap_id (by omega) (by omega)]; rfl, rfl⟩

end Go.Proofs.YtnpgpijkofbknaaGreatDoor
