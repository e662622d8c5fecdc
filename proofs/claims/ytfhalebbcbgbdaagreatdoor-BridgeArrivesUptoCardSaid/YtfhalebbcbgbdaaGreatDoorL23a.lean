/-
  L23a: law BridgeArrives over heaps.
-/
import Derived.Test.YtfhalebbcbgbdaaGreatDoorCarv
import Derived.Test.YtfhalebbcbgbdaaGreatDoorCbrg
namespace Go.Proofs.YtfhalebbcbgbdaaGreatDoor
open Go.H Go.Proofs
set_option linter.unusedSimpArgs false
set_option linter.unusedVariables false
set_option maxRecDepth 100000

variable {h h0 : Heap} {R : List Asn}

abbrev encU2 (x : ByteArray × ByteArray) : List Value := [.string x.1, .string x.2]
abbrev prU2 (x : ByteArray × ByteArray) : PropT := (38, 0, x.1, x.2)

set_option maxHeartbeats 1000000 in
theorem BridgeArrives_spec (ht : TX h0) (hp : TP h0) {k : Int} {m : MsT} {s : Slc} {us : List (ByteArray × ByteArray)} (hr : RowAt encU2 2 h0 s us) (hz : ∀ u ∈ us, u.2.size ≤ 1048576) (hs : sat h [old h0]) {Q : Value → Heap → Prop}
    (hq : ∀ h' R, sat h' (old h0 :: R) → Q (.bool true) h') : HCalls Tryz.prog 3 #[.int .i64 k, vMs m, .slice s.a s.len s.cap] h Q := by
  refine law23_BridgeArrives_calls k (toU m) s h Q ?_
  unfold law23_BridgeArrives
  refine new_cells hs fun x1 h1 hs1' => ?_
  have hs1 : sat h1 (cells x1 (encM m).toArray :: old h0 :: []) := hs1'
  refine ⟨m.1, by rw [add_own]; exact hs1.cell 0, m.2.1, by rw [add_own]; exact hs1.cell 1, m.2.2.1, by rw [add_own]; exact hs1.cell 2, m.2.2.2.1, by rw [add_own]; exact hs1.cell 3, ?_⟩
  refine new_cells hs1 fun x6 h2 hs2 => ?_
  (try dsimp only); rw [HM.bind_apply]
  refine storeN_all' hs2 rfl rfl fun h3 hs3' => ?_
  have o : ∀ L : List PropT, PkO := fun L => ⟨k, false, m.2.2.2.1, m.2.2.1, 0, m.1, m.2.1, 0, L, [], false⟩
  clear o
  have hs3 : sat h3 (cells x1 (encM m).toArray :: cells x6 (encPkK .u8 (pkT ⟨k, false, m.2.2.2.1, m.2.2.1, 0, m.1, m.2.1, 0, [], [], false⟩ ⟨none, 0, 0⟩ ⟨none, 0, 0⟩)).toArray :: old h0 :: []) := hs3'.re [1, 0]
  refine ⟨m.1, by rw [add_own]; exact hs3.cell 0, m.2.1, by rw [add_own]; exact hs3.cell 1, m.2.2.1, by rw [add_own]; exact hs3.cell 2, m.2.2.2.1, by rw [add_own]; exact hs3.cell 3, ?_⟩
  refine new_cells hs3 fun x11 h4 hs4 => ?_
  (try dsimp only); rw [HM.bind_apply]
  refine storeN_all' hs4 rfl rfl fun h5 hs5' => ?_
  have hs5 : sat h5 (cells x6 (encPkK .u8 (pkT ⟨k, false, m.2.2.2.1, m.2.2.1, 0, m.1, m.2.1, 0, [], [], false⟩ ⟨none, 0, 0⟩ ⟨none, 0, 0⟩)).toArray :: cells x11 (encPkK .i64 (pkT ⟨k, false, m.2.2.2.1, m.2.2.1, 0, m.1, m.2.1, 0, [], [], false⟩ ⟨none, 0, 0⟩ ⟨none, 0, 0⟩)).toArray :: old h0 :: cells x1 (encM m).toArray :: []) := hs5'.re [2, 0, 3, 1]
  clear hs5' hs4 hs3 hs3' hs2 hs1 hs1' hs
  have hrs : s.len = us.length := hr.1
  have hmn : (if 20 < ((s.len : Nat) : Int) then (20 : Int) else ((s.len : Nat) : Int)) = ((min 20 us.length : Nat) : Int) := by rw [hrs]; split <;> omega
  rw [hmn]
  (try dsimp only); rw [HM.bind_apply]
  refine slice_row hr (Nat.min_le_right _ _) fun s' hr' => ?_
  have hzt : ∀ u ∈ us.take (min 20 us.length), u.2.size ≤ 1048576 := fun u hu => hz u (List.mem_of_mem_take hu)
  have hxl : (us.take (min 20 us.length)).length ≤ 20 := by rw [List.length_take]; omega
  generalize us.take (min 20 us.length) = xs at hr' hzt hxl
  have hsl : s'.len = xs.length := hr'.1
  refine cut (fun z h' => ∃ p q : Slc, sat h' (cells x6 (encPkK .u8 (pkT ⟨k, false, m.2.2.2.1, m.2.2.1, 0, m.1, m.2.1, 0, xs.map prU2, [], false⟩ ⟨none, 0, 0⟩ p)).toArray :: cells x11 (encPkK .i64 (pkT ⟨k, false, m.2.2.2.1, m.2.2.1, 0, m.1, m.2.1, 0, xs.map prU2, [], false⟩ ⟨none, 0, 0⟩ q)).toArray :: ownS encPr 4 p (xs.map prU2) :: ownS encPr 4 q (xs.map prU2) :: old h0 :: cells x1 (encM m).toArray :: [])) ?_ ?_
  · intro K hK
    refine loop_for xs.length (fun i x h' => x.1 = (i : Int) ∧ ∃ p q : Slc, sat h' (cells x6 (encPkK .u8 (pkT ⟨k, false, m.2.2.2.1, m.2.2.1, 0, m.1, m.2.1, 0, (xs.take i).map prU2, [], false⟩ ⟨none, 0, 0⟩ p)).toArray :: cells x11 (encPkK .i64 (pkT ⟨k, false, m.2.2.2.1, m.2.2.1, 0, m.1, m.2.1, 0, (xs.take i).map prU2, [], false⟩ ⟨none, 0, 0⟩ q)).toArray :: ownS encPr 4 p ((xs.take i).map prU2) :: ownS encPr 4 q ((xs.take i).map prU2) :: old h0 :: cells x1 (encM m).toArray :: []))
      ⟨rfl, ⟨none, 0, 0⟩, ⟨none, 0, 0⟩, by simpa using (ownS_nil (enc := encPr) (size := 4) (ownS_nil (enc := encPr) (size := 4) hs5)).re [2, 3, 0, 1]⟩ (fun i x h hi hJ => by rw [hJ.1, hsl]; exact decide_eq_decide.2 (by omega)) (fun x h hJ K1 hd => ?_) (fun i x h hlt hJ K1 hnx hd => ?_)
    · obtain ⟨hx, p, q, hs6⟩ := hJ
      rw [List.take_length] at hs6
      exact hd _ _ (hK _ _ ⟨p, q, hs6⟩)
    · obtain ⟨ci, ⟨⟩⟩ := x
      obtain ⟨hx, p, q, hs6⟩ := hJ
      simp only at hx
      subst hx
      have hy := List.getElem?_eq_getElem hlt
      have htk : (xs.take (i + 1)).map prU2 = (xs.take i).map prU2 ++ [prU2 xs[i]] := by rw [List.take_add_one, hy, List.map_append]; rfl
      have hbl : ((xs.take i).map prU2).length ≤ 20 := by rw [List.length_map, List.length_take]; omega
      generalize xs[i] = u at hy htk
      rw [htk] at hnx
      generalize (xs.take i).map prU2 = L at hs6 hnx hbl
      (try dsimp only); rw [HM.bind_apply]
      refine idx_row (hr'.old hs6.p4) hy fun a ha => ?_
      refine loadN_of (ts := [.str, .str]) ((u.1, u.2, ()) : ByteArray × ByteArray × Unit) ha ?_
      refine new_cells hs6 fun x17 h6 hs7 => ?_
      (try dsimp only); rw [HM.bind_apply]
      refine storeN_all' hs7 rfl rfl fun h7 hs8' => ?_
      have hs8 : sat h7 (cells x6 (encPkK .u8 (pkT ⟨k, false, m.2.2.2.1, m.2.2.1, 0, m.1, m.2.1, 0, L, [], false⟩ ⟨none, 0, 0⟩ p)).toArray :: cells x17 (encU2 u).toArray :: cells x11 (encPkK .i64 (pkT ⟨k, false, m.2.2.2.1, m.2.2.1, 0, m.1, m.2.1, 0, L, [], false⟩ ⟨none, 0, 0⟩ q)).toArray :: ownS encPr 4 p L :: ownS encPr 4 q L :: old h0 :: cells x1 (encM m).toArray :: []) := hs8'.p1
      clear hs8' hs7 hs6
      refine ⟨p, by rw [add_own]; exact hs8.cell 9, ?_⟩
      (try dsimp only); rw [HM.bind_apply]
      refine ⟨_, rfl, by decide, by decide, u.1, by (try simp only [add_own, Addr.add_at]); exact hs8.p1.cell 0, ?_⟩
      (try dsimp only); rw [HM.bind_apply]
      refine ⟨_, rfl, by decide, by decide, u.2, by (try simp only [add_own, Addr.add_at]); exact hs8.p1.cell 1, ?_⟩
      refine app_new (x := prU2 u) ePr_len ePr_cell rfl hs8.p3 (by decide) (by decide) (by omega) fun p' h8 hs9' => ?_
      have hs9 : sat h8 (cells x6 (encPkK .u8 (pkT ⟨k, false, m.2.2.2.1, m.2.2.1, 0, m.1, m.2.1, 0, L, [], false⟩ ⟨none, 0, 0⟩ p)).toArray :: ownS encPr 4 p' (L ++ [prU2 u]) :: cells x17 (encU2 u).toArray :: cells x11 (encPkK .i64 (pkT ⟨k, false, m.2.2.2.1, m.2.2.1, 0, m.1, m.2.1, 0, L, [], false⟩ ⟨none, 0, 0⟩ q)).toArray :: ownS encPr 4 q L :: old h0 :: cells x1 (encM m).toArray :: []) := hs9'.p1
      clear hs9' hs8
      (try dsimp only); rw [HM.bind_apply, add_own]
      refine store1_cells hs9 (by simp) rfl fun h9 hs10' => ?_
      have hs10 : sat h9 (cells x11 (encPkK .i64 (pkT ⟨k, false, m.2.2.2.1, m.2.2.1, 0, m.1, m.2.1, 0, L, [], false⟩ ⟨none, 0, 0⟩ q)).toArray :: cells x6 (encPkK .u8 (pkT ⟨k, false, m.2.2.2.1, m.2.2.1, 0, m.1, m.2.1, 0, L ++ [prU2 u], [], false⟩ ⟨none, 0, 0⟩ p')).toArray :: ownS encPr 4 p' (L ++ [prU2 u]) :: cells x17 (encU2 u).toArray :: ownS encPr 4 q L :: old h0 :: cells x1 (encM m).toArray :: []) := hs10'.p3
      clear hs10' hs9
      refine ⟨q, by rw [add_own]; exact hs10.cell 9, ?_⟩
      (try dsimp only); rw [HM.bind_apply]
      refine ⟨_, rfl, by decide, by decide, u.1, by (try simp only [add_own, Addr.add_at]); exact hs10.p3.cell 0, ?_⟩
      (try dsimp only); rw [HM.bind_apply]
      refine ⟨_, rfl, by decide, by decide, u.2, by (try simp only [add_own, Addr.add_at]); exact hs10.p3.cell 1, ?_⟩
      refine app_new (x := prU2 u) ePr_len ePr_cell rfl hs10.p4 (by decide) (by decide) (by omega) fun q' h10 hs11' => ?_
      have hs11 : sat h10 (cells x11 (encPkK .i64 (pkT ⟨k, false, m.2.2.2.1, m.2.2.1, 0, m.1, m.2.1, 0, L, [], false⟩ ⟨none, 0, 0⟩ q)).toArray :: ownS encPr 4 q' (L ++ [prU2 u]) :: cells x6 (encPkK .u8 (pkT ⟨k, false, m.2.2.2.1, m.2.2.1, 0, m.1, m.2.1, 0, L ++ [prU2 u], [], false⟩ ⟨none, 0, 0⟩ p')).toArray :: ownS encPr 4 p' (L ++ [prU2 u]) :: cells x17 (encU2 u).toArray :: old h0 :: cells x1 (encM m).toArray :: []) := hs11'.p1
      clear hs11' hs10
      (try dsimp only); rw [HM.bind_apply, add_own]
      refine store1_cells hs11 (by simp) rfl fun h11 hs12 => ?_
      exact hnx _ _ ⟨by (try dsimp only); rw [wrap_id (by omega) (by omega)]; rfl, p', q', (hs12.re [2, 0, 3, 1, 5, 6, 4]) |> fun hh => (hh.re [6, 0, 1, 2, 3, 4, 5]).drop⟩
  rintro ⟨z, ⟨⟩⟩ h6 ⟨p, q, hs6⟩
  have hL : (xs.map prU2).length ≤ 100000 := by rw [List.length_map]; omega
  have hLz : ∀ u ∈ xs.map prU2, u.2.2.2.size ≤ 1048576 := by
    intro u hu
    obtain ⟨v, hv, rfl⟩ := List.mem_map.1 hu
    exact hzt v hv
  generalize xs.map prU2 = L at hs6 hL hLz
  refine loadN_cells (ts := Pk_tK .u8) (pkT ⟨k, false, m.2.2.2.1, m.2.2.1, 0, m.1, m.2.1, 0, L, [], false⟩ ⟨none, 0, 0⟩ p) hs6 rfl ?_
  refine bind_callN (arrived_spec ht (o := ⟨k, false, m.2.2.2.1, m.2.2.1, 0, m.1, m.2.1, 0, L, [], false⟩) (c := ⟨none, 0, 0⟩) (p := p) (hs6.re [2, 4, 0, 1, 3, 5]) hL hLz fun h7 hs7 => ⟨((_, _, _, _, ()), (_, _, _, _, _, ()), _, ()), rfl, ?_⟩)
  generalize hA : arrF ⟨k, false, m.2.2.2.1, m.2.2.1, 0, m.1, m.2.1, 0, L, [], false⟩ = A
  refine new_cells hs7 fun x34 h8 hs8 => ?_
  refine new_cells hs8 fun x35 h9 hs9 => ?_
  (try dsimp only); rw [HM.bind_apply]
  refine storeN_all' hs9.p1 rfl rfl fun h10 hs10 => ?_
  (try dsimp only); rw [HM.bind_apply]
  refine storeN_all' hs10.p1 rfl rfl fun h11 hs11' => ?_
  have hs11 : sat h11 (cells x11 (encPkK .i64 (pkT ⟨k, false, m.2.2.2.1, m.2.2.1, 0, m.1, m.2.1, 0, L, [], false⟩ ⟨none, 0, 0⟩ q)).toArray :: ownS encPr 4 q L :: old h0 :: cells x35 (encM A.2.1).toArray :: cells x34 (cL A.1.1 A.1.2.1 A.1.2.2.1 A.1.2.2.2) :: []) := (hs11'.re [5, 6, 3, 0, 1, 2, 4]) |> fun hh => (hh.re [5, 6, 7, 0, 1, 2, 3, 4]).drop.drop.drop
  clear hs11' hs10 hs9 hs8 hs7 hs6
  refine loadN_cells (ts := Pk_tK .i64) (pkT ⟨k, false, m.2.2.2.1, m.2.2.1, 0, m.1, m.2.1, 0, L, [], false⟩ ⟨none, 0, 0⟩ q) hs11 rfl ?_
  refine bind_callN (rarrived_spec ht (o := ⟨k, false, m.2.2.2.1, m.2.2.1, 0, m.1, m.2.1, 0, L, [], false⟩) (c := ⟨none, 0, 0⟩) (p := q) (hs11.re [1, 2, 0, 3, 4]) hL hLz fun h12 hs12 => ⟨((_, _, _, _, ()), (_, _, _, _, _, ()), _, ()), rfl, ?_⟩)
  rw [hA]
  refine new_cells hs12 fun x38 h13 hs13 => ?_
  refine new_cells hs13 fun x39 h14 hs14 => ?_
  (try dsimp only); rw [HM.bind_apply]
  refine storeN_all' hs14.p1 rfl rfl fun h15 hs15 => ?_
  (try dsimp only); rw [HM.bind_apply]
  refine storeN_all' hs15.p1 rfl rfl fun h16 hs16' => ?_
  have hs16 : sat h16 (old h0 :: cells x35 (encM A.2.1).toArray :: cells x34 (cL A.1.1 A.1.2.1 A.1.2.2.1 A.1.2.2.2) :: cells x39 (encM A.2.1).toArray :: cells x38 (cL A.1.1 A.1.2.1 A.1.2.2.1 A.1.2.2.2) :: []) := (hs16'.re [3, 5, 6, 0, 1, 2, 4]) |> fun hh => (hh.re [5, 6, 0, 1, 2, 3, 4]).drop.drop
  clear hs16' hs15 hs14 hs13 hs12 hs11
  refine cut (fun z h' => z.1 = true ∧ sat h' (old h0 :: [])) ?_ ?_
  · intro K hK
    refine bind_call1 (wakes23_spec hs16 hp fun h17 hs17 => ⟨true, rfl, ?_⟩)
    (try dsimp only); rw [HM.ite_apply, if_pos rfl, HM.ite_apply, if_pos (by simp)]
    refine loadN_cells (ts := [.str, .str, .int .i64, .bool, .str]) (toU A.2.1) hs17.p1 rfl ?_
    refine loadN_cells (ts := [.str, .str, .int .i64, .bool, .str]) (toU A.2.1) hs17.p3 rfl ?_
    (try dsimp only); rw [HM.ite_apply, if_pos (by simp)]
    refine ⟨A.1.1, by simp only [add_own, Addr.add_at]; exact hs17.p2.cell 0, A.1.1, by simp only [add_own, Addr.add_at]; exact hs17.p4.cell 0, ?_⟩
    (try dsimp only); rw [HM.ite_apply, if_pos (by simp)]
    refine ⟨A.1.2.1, by simp only [add_own, Addr.add_at]; exact hs17.p2.cell 1, A.1.2.1, by simp only [add_own, Addr.add_at]; exact hs17.p4.cell 1, ?_⟩
    (try dsimp only); rw [HM.ite_apply, if_pos (by simp)]
    refine ⟨A.1.2.2.1, by simp only [add_own, Addr.add_at]; exact hs17.p2.cell 2, A.1.2.2.1, by simp only [add_own, Addr.add_at]; exact hs17.p4.cell 2, ?_⟩
    (try dsimp only); rw [HM.ite_apply, if_pos (by simp)]
    refine ⟨A.1.2.2.2, by simp only [add_own, Addr.add_at]; exact hs17.p2.cell 3, A.1.2.2.2, by simp only [add_own, Addr.add_at]; exact hs17.p4.cell 3, ?_⟩
    exact hK _ _ ⟨by simp, (hs17.re [1, 2, 3, 4, 0]).drop.drop.drop.drop⟩
  rintro ⟨z, ⟨⟩⟩ h17 ⟨hz, hs17⟩
  simp only at hz
  subst hz
  exact hq h17 _ hs17

end Go.Proofs.YtfhalebbcbgbdaaGreatDoor
