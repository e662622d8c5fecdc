/-
  L18q: the law SessionPlays over heaps.
-/
import Derived.Test.YtlgddhcbiioefaaDoorL18p
namespace Go.Proofs.YtlgddhcbiioefaaDoor
open Go.H Go.Proofs
set_option linter.unusedSimpArgs false
set_option linter.unusedVariables false
set_option synthInstance.maxSize 100000
set_option synthInstance.maxHeartbeats 400000

abbrev encT18p (x : Int × ByteArray × Bool × Bool × Int) : List Value := [.int .i64 x.1, .string x.2.1, .bool x.2.2.1, .bool x.2.2.2.1, .int .i64 x.2.2.2.2]

set_option maxRecDepth 100000 in
theorem SessionPlays_spec {h h0 : Heap} (ht : U8 h0) {s : Slc} {xs : List (Int × ByteArray × Bool × Bool × Int)} (hsz : ∀ x ∈ xs, x.2.1.size ≤ 9223372036854775800) (hr : RowAt encT18p 5 h0 s xs) {ask : Int × ByteArray × Bool × Bool × Int} (hs : sat h [old h0]) {Q : Value → Heap → Prop}
    (hq : ∀ h' R, sat h' (old h0 :: R) → Q (.bool true) h') : HCalls Tryd.prog 6 #[.slice s.a s.len s.cap, .agg #[.int .i64 ask.1, .string ask.2.1, .bool ask.2.2.1, .bool ask.2.2.2.1, .int .i64 ask.2.2.2.2]] h Q := by
  obtain ⟨k1, k2, k3, k4, k5⟩ := ask
  refine law18_SessionPlays_calls s (k1, k2, k3, k4, k5, ()) h Q ?_
  have he : (if 100 < ((s.len : Nat) : Int) then (100 : Int) else ((s.len : Nat) : Int)) = ((min 100 xs.length : Nat) : Int) := by
    rw [hr.1]; split <;> omega
  unfold law18_SessionPlays
  rw [he]
  refine new_cells hs fun kb h1 hs1 => ?_
  refine bind_call1 (pNew hs1 fun b h2 hs2 => ⟨some ⟨b, 0, none⟩, rfl, ?_⟩)
  refine new_cells hs2 fun rb h3 hs3 => ?_
  have hs4 : sat h3 [rtab rb 0 [], ptab b 0 [], cells kb #[.int .i64 k1, .string k2, .bool k3, .bool k4, .int .i64 k5], old h0] := rtab_nil hs3
  clear hs1 hs2 hs3
  refine bind_call1 (wakes18_spec (hs4.re [3, 0, 1, 2]) ht fun h4 hs5 => ⟨true, rfl, ?_⟩)
  (try dsimp only); rw [HM.ite_apply, if_neg (by simp)]
  refine slice_row hr (Nat.min_le_right _ _) fun s' hr' => ?_
  have hsz' : ∀ x ∈ xs.take (min 100 xs.length), x.2.1.size ≤ 9223372036854775800 := fun x hx => hsz x (List.mem_of_mem_take hx)
  have hys1 : (xs.take (min 100 xs.length)).length ≤ 100 := by simp; omega
  generalize xs.take (min 100 xs.length) = ys at hr' hsz' hys1
  refine loop_gx (γ := Nat × Int × List RS) (hb := fun s => by
    repeat' with_reducible first
      | refine @mono_bind _ _ _ _ ?_ (fun _ => ?_)
      | refine @mono_ite _ _ _ _ ?_ ?_
      | refine @mono_req _ _ _ ?_
      | refine @mono_loop _ _ _ _ (fun _ => ?_)
      | refine @mono_elim _ _ _ _ _ _ (fun _ => ?_) (fun _ => ?_)
    all_goals infer_instance)
    (fun g c h => g.1 ≤ ys.length ∧ c.1 = (g.1 : Int) ∧ OKA g.2.1 g.2.2 ∧ 0 ≤ g.2.1 ∧ g.2.1 ≤ g.1 ∧ sat h [ptab b g.2.1 g.2.2, rtab rb g.2.1 g.2.2, cells kb #[.int .i64 k1, .string k2, .bool k3, .bool k4, .int .i64 k5], old h0])
    (fun g => ys.length - g.1) (0, 0, []) ⟨Nat.zero_le _, rfl, ⟨by simp, by simp, by simp, by simp, by simp⟩, by simp, by simp, hs5.re [2, 1, 3, 0]⟩ ?_
  rintro ⟨i, last, A⟩ ⟨c, ⟨⟩⟩ h5 ⟨hi, hc, hok, hl0, hl1, hs6⟩
  simp only at hi hc hok hl0 hl1 hs6
  subst hc
  have hlen := hr'.1
  (try dsimp only); rw [HM.ite_apply]
  by_cases hlt : i < ys.length
  case neg =>
    rw [if_neg (by simp only [decide_eq_true_eq]; omega)]
    simp only [Sum.elim_inl, Sum.elim_inr, HM.pure_apply]
    exact hq h5 _ (hs6.re [3, 0, 1, 2])
  rw [if_pos (by simp only [decide_eq_true_eq]; omega)]
  have next : IntKind.wrap .i64 ((i : Int) + 1) = ((i + 1 : Nat) : Int) := by rw [wrap_id (by omega) (by omega)]; rfl
  rw [HM.bind_apply]
  have hxsz := hsz' ys[i] (List.getElem_mem hlt)
  refine idx_row hr' (List.getElem?_eq_getElem hlt) fun a ha => ?_
  generalize ys[i] = x at ha hxsz
  obtain ⟨x1, x2, x3, x4, x5⟩ := x
  simp only at hxsz
  refine loadN_of (ts := [.int .i64, .str, .bool, .bool, .int .i64]) (x1, x2, x3, x4, x5, ()) (fun j v hv => (hs6.re [3, 0, 1, 2]).old_cell (ha j v hv)) ?_
  refine new_cells hs6 fun ab h6 hs7 => ?_
  refine storeN_all' hs7 rfl rfl fun h7 hs8' => ?_
  have hs8 : sat h7 [cells ab #[.int .i64 x1, .string x2, .bool x3, .bool x4, .int .i64 x5], ptab b last A, rtab rb last A, cells kb #[.int .i64 k1, .string k2, .bool k3, .bool k4, .int .i64 k5], old h0] := hs8'
  clear hs8' hs7 hs6
  have hA : ∀ {h' : Heap} {R : List Asn}, sat h' (cells ab #[.int .i64 x1, .string x2, .bool x3, .bool x4, .int .i64 x5] :: R) →
      cellH h' ⟨ab, 0, none⟩ = some (.int .i64 x1) ∧ cellH h' ⟨ab, 1, none⟩ = some (.string x2) ∧ cellH h' ⟨ab, 2, none⟩ = some (.bool x3) ∧ cellH h' ⟨ab, 3, none⟩ = some (.bool x4) ∧ cellH h' ⟨ab, 4, none⟩ = some (.int .i64 x5) :=
    fun hs' => ⟨hs'.cell 0, hs'.cell 1, hs'.cell 2, hs'.cell 3, hs'.cell 4⟩
  refine ⟨x1, by rw [add_own]; exact (hA hs8).1, by decide, ?_⟩
  -- what is done
  refine bind_cut (hm := by
    repeat' with_reducible first
      | refine @mono_bind _ _ _ _ ?_ (fun _ => ?_)
      | refine @mono_ite _ _ _ _ ?_ ?_
      | refine @mono_req _ _ _ ?_
      | refine @mono_elim _ _ _ _ _ _ (fun _ => ?_) (fun _ => ?_)
    all_goals infer_instance)
    (fun z h' => z = .inl () ∧ ∃ last' A', OKA last' A' ∧ 0 ≤ last' ∧ last' ≤ ((i + 1 : Nat) : Int) ∧ sat h' [ptab b last' A', rtab rb last' A', cells kb #[.int .i64 k1, .string k2, .bool k3, .bool k4, .int .i64 k5], old h0]) ?_ ?_
  · refine bind_cut (fun x h' => h' = h7 ∧ x.1 = decide (x1.tmod 4 = 1 ∨ x1.tmod 4 = -1)) ?_ ?_
    · by_cases g : x1.tmod 4 = 1 <;> by_cases g' : x1.tmod 4 = -1 <;> simp [g, g']
    rintro ⟨y, ⟨⟩⟩ h8 ⟨rfl, hy⟩
    simp only at hy
    subst hy
    refine bind_cut (hm := by
      repeat' with_reducible first
        | refine @mono_bind _ _ _ _ ?_ (fun _ => ?_)
        | refine @mono_ite _ _ _ _ ?_ ?_
        | refine @mono_req _ _ _ ?_
        | refine @mono_elim _ _ _ _ _ _ (fun _ => ?_) (fun _ => ?_)
      all_goals infer_instance)
      (fun z h' => (z = .inl () ∨ z = .inr (.inl ())) ∧ ∃ last' A', OKA last' A' ∧ 0 ≤ last' ∧ last' ≤ ((i + 1 : Nat) : Int) ∧ sat h' [ptab b last' A', rtab rb last' A', cells kb #[.int .i64 k1, .string k2, .bool k3, .bool k4, .int .i64 k5], old h0]) ?_ ?_
    · (try dsimp only); rw [HM.ite_apply]
      by_cases g1 : x1.tmod 4 = 1 ∨ x1.tmod 4 = -1
      · rw [if_pos (by simp only [g1, decide_true])]
        refine ⟨x5, by rw [add_own]; exact (hA hs8).2.2.2.2, x5, by rw [add_own]; exact (hA hs8).2.2.2.2, ?_⟩
        refine bind_call1 (pEnd (hs8.re [1, 0, 2, 3, 4]) hok fun a1 X1 h9 hE1 hs9 => ⟨a1, rfl, ?_⟩)
        refine ⟨x5, by rw [add_own]; exact (hA (hs9.re [1, 0, 2, 3, 4])).2.2.2.2, rfl, ?_⟩
        refine bind_call1 (rEnd (hs9.re [2, 0, 1, 3, 4]) hok fun a2 X2 h10 hE2 hs10 => ⟨a2, rfl, ?_⟩)
        obtain ⟨rfl, rfl⟩ := hE1.uniq hok.rising hE2
        (try dsimp only); rw [HM.ite_apply, if_neg (by simp)]
        exact ⟨.inl rfl, last, X1, hE1.ok hok, hl0, by omega, (hs10.re [2, 1, 0, 3, 4]).drop⟩
      rw [if_neg (by simp only [g1, decide_false, Bool.false_eq_true, not_false_eq_true])]
      refine bind_cut (fun x h' => h' = h8 ∧ x.1 = decide (x1.tmod 4 = 3 ∨ x1.tmod 4 = -3)) ?_ ?_
      · by_cases g : x1.tmod 4 = 3 <;> by_cases g' : x1.tmod 4 = -3 <;> simp [g, g']
      rintro ⟨y, ⟨⟩⟩ h9 ⟨rfl, hy⟩
      simp only at hy
      subst hy
      refine bind_cut (hm := by
        repeat' with_reducible first
          | refine @mono_bind _ _ _ _ ?_ (fun _ => ?_)
          | refine @mono_ite _ _ _ _ ?_ ?_
          | refine @mono_req _ _ _ ?_
          | refine @mono_elim _ _ _ _ _ _ (fun _ => ?_) (fun _ => ?_)
        all_goals infer_instance)
        (fun z h' => (z = .inl () ∨ z = .inr (.inr (.inl ()))) ∧ ∃ last' A', OKA last' A' ∧ 0 ≤ last' ∧ last' ≤ ((i + 1 : Nat) : Int) ∧ sat h' [ptab b last' A', rtab rb last' A', cells kb #[.int .i64 k1, .string k2, .bool k3, .bool k4, .int .i64 k5], old h0]) ?_ ?_
      · (try dsimp only); rw [HM.ite_apply]
        by_cases g3 : x1.tmod 4 = 3 ∨ x1.tmod 4 = -3
        · rw [if_pos (by simp only [g3, decide_true])]
          refine new_cells hs8 fun mb h10 hs9 => ?_
          refine storeN_all' hs9 rfl rfl fun h11 hs10' => ?_
          have hs10 : sat h11 [cells mb (encM mT).toArray, cells ab #[.int .i64 x1, .string x2, .bool x3, .bool x4, .int .i64 x5], ptab b last A, rtab rb last A, cells kb #[.int .i64 k1, .string k2, .bool k3, .bool k4, .int .i64 k5], old h0] := hs10'
          clear hs10' hs9 hs8
          refine ⟨x5, by rw [add_own]; exact nth_cell hs10 1 rfl 4, ?_⟩
          obtain ⟨M, hM, hsM⟩ := rtab_iff.1 (hs10.re [3, 0, 1, 2, 4, 5])
          have hlM : M.length ≤ 32 := by have := hok.len; rw [← hM, List.length_map] at this; exact this
          refine bind_call1 (rGet_spec hsM (by omega) (fun hn => ⟨none, rfl, ?_⟩) (fun m1 q m2 hMq hk => ⟨some ⟨q.1, 0, none⟩, rfl, ?_⟩))
          · have hno : ∀ x ∈ A, x.id ≠ x5 := by
              intro x hx
              rw [← hM] at hx
              obtain ⟨p, hp, rfl⟩ := List.mem_map.1 hx
              exact hn p hp
            refine ⟨x5, by rw [add_own]; exact nth_cell hs10 1 rfl 4, ?_⟩
            refine loadN_cells (ts := [.str, .str, .int .i64, .bool, .str]) (ByteArray.mk #[116], ByteArray.mk #[], 1, false, ByteArray.mk #[], ()) hs10 rfl ?_
            refine bind_call1 (pOut_no (hs10.re [2, 0, 1, 3, 4, 5]) hno ⟨none, rfl, ?_⟩)
            refine loadN_cells (ts := [.str, .str, .int .i64, .bool, .str]) (ByteArray.mk #[116], ByteArray.mk #[], 1, false, ByteArray.mk #[], ()) hs10 rfl ⟨rfl, ?_⟩
            refine bind_callN (Send_nil hs10 fun h12 hs11 => ⟨(⟨none, 0, 0⟩, 128, ()), rfl, ?_⟩)
            (try dsimp only); rw [HM.ite_apply, if_pos (by rfl), HM.ite_apply, if_neg (by simp)]
            exact ⟨.inr rfl, last, A, hok, hl0, by omega, hs11.drop.drop⟩
          · subst hMq
            obtain ⟨n, y⟩ := q
            simp only at hk
            obtain ⟨rs, rob, rpb, rib, rqb, w, hsO⟩ := rtab_open hsM
            simp only at hsO
            have hyA : y ∈ A := by rw [← hM]; simp
            obtain ⟨l1, l2, p, m, ob, ib, hLA, hoff, hpx, hsP'⟩ := ptab_at hyA (hsO.re [11, 0, 1, 2, 3, 4, 5, 6, 7, 8, 9, 10, 12, 13])
            have hsP : sat h11 [outA ob p.2.out, flowA ib p.2.inn, cells p.1 (sesC p.2 ob ib), cells b #[.int .i64 last, .map (some m)], mapA eKI eVP m ((l1 ++ p :: l2).map sesE), bigA (fun p => sesA p.1 p.2) (l1 ++ l2),
              cells n (rsC y rob rib), cells rob (roC rpb w), ownS encM 5 w y.waiting, cells rpb rpC, cells rib #[at0 rqb], cells rqb rpC, cells rb #[.int .i64 last, .slice rs.a rs.len rs.cap], ownS eP 1 rs ((m1 ++ (n, y) :: m2).map (·.1)), bigA (fun p => rsesA p.1 p.2) (m1 ++ m2),
              cells mb (encM mT).toArray, cells ab #[.int .i64 x1, .string x2, .bool x3, .bool x4, .int .i64 x5], cells kb #[.int .i64 k1, .string k2, .bool k3, .bool k4, .int .i64 k5], old h0] := hsP'
            clear hsP' hsO hsM hs10
            have hpk : p.2.id = x5 := (congrArg RS.id hpx).trans hk
            have hpo := hoff p (List.mem_append_right _ (List.mem_cons_self ..))
            have hcode : (sendR p.2.out mT).1 = (rsendR y).1 := by rw [(abs_send p.2).2, hpx]
            have hwt : (sendR p.2.out mT).2.waiting = (rsendR y).2.waiting := by
              have := congrArg RS.waiting (abs_send p.2).1
              rw [hpx] at this
              exact this
            have hwl : (rsendR y).2.waiting.length ≤ 256 := by
              have := hok.wait y hyA
              unfold rsendR
              split
              · exact this
              · simp; omega
            refine ⟨x5, by rw [add_own]; exact nth_cell hsP 16 rfl 4, ?_⟩
            refine loadN_nth hsP 15 rfl (ts := [.str, .str, .int .i64, .bool, .str]) (ByteArray.mk #[116], ByteArray.mk #[], 1, false, ByteArray.mk #[], ()) rfl ?_
            refine bind_call1 (Out_open hpk hsP ⟨some ⟨ob, 0, none⟩, rfl, ?_⟩)
            refine loadN_nth hsP 15 rfl (ts := [.str, .str, .int .i64, .bool, .str]) (ByteArray.mk #[116], ByteArray.mk #[], 1, false, ByteArray.mk #[], ()) rfl ⟨rfl, ?_⟩
            refine bind_callN (Send_off hsP hpo.1 fun h12 hs13 => ⟨(⟨none, 0, 0⟩, (sendR p.2.out mT).1, ()), rfl, ?_⟩)
            clear hsP
            (try dsimp only); rw [HM.ite_apply, if_neg (by simp)]
            refine ⟨_, rfl, some ⟨rob, 0, none⟩, by rw [add_own]; exact nth_cell hs13 6 rfl 4, ?_⟩
            refine loadN_nth hs13 15 rfl (ts := [.str, .str, .int .i64, .bool, .str]) (ByteArray.mk #[116], ByteArray.mk #[], 1, false, ByteArray.mk #[], ()) rfl ?_
            refine bind_cut (fun (z : Slc × Int × Unit) h' => z.1 = ⟨none, 0, 0⟩ ∧ z.2.1 = (rsendR y).1 ∧ ∃ w', sat h' [outA ob (sendR p.2.out mT).2, flowA ib p.2.inn, cells p.1 (sesC p.2 ob ib), cells b #[.int .i64 last, .map (some m)], mapA eKI eVP m ((l1 ++ p :: l2).map sesE), bigA (fun p => sesA p.1 p.2) (l1 ++ l2),
              cells n (rsC y rob rib), cells rob (roC rpb w'), ownS encM 5 w' (rsendR y).2.waiting, cells rpb rpC, cells rib #[at0 rqb], cells rqb rpC, cells rb #[.int .i64 last, .slice rs.a rs.len rs.cap], ownS eP 1 rs ((m1 ++ (n, y) :: m2).map (·.1)), bigA (fun p => rsesA p.1 p.2) (m1 ++ m2),
              cells mb (encM mT).toArray, cells ab #[.int .i64 x1, .string x2, .bool x3, .bool x4, .int .i64 x5], cells kb #[.int .i64 k1, .string k2, .bool k3, .bool k4, .int .i64 k5], old h0]) ?_ ?_
            · refine rSend_spec (hs13.re [7, 8, 0, 1, 2, 3, 4, 5, 6, 9, 10, 11, 12, 13, 14, 15, 16, 17, 18]) (fun hf h' hs' => ⟨(⟨none, 0, 0⟩, 151, ()), rfl, rfl, ?_, w, ?_⟩) (fun hf w' h' hs' => ⟨(⟨none, 0, 0⟩, 0, ()), rfl, rfl, ?_, w', ?_⟩)
              · unfold rsendR; rw [if_pos hf]
              · have e : (rsendR y).2.waiting = y.waiting := by unfold rsendR; rw [if_pos hf]
                rw [e]
                exact hs'.re [2, 3, 4, 5, 6, 7, 8, 0, 1, 9, 10, 11, 12, 13, 14, 15, 16, 17, 18]
              · unfold rsendR; rw [if_neg (by omega)]
              · have e : (rsendR y).2.waiting = y.waiting ++ [mT] := by unfold rsendR; rw [if_neg (by omega)]
                rw [e]
                exact hs'.re [2, 3, 4, 5, 6, 7, 8, 0, 1, 9, 10, 11, 12, 13, 14, 15, 16, 17, 18]
            rintro ⟨z1, z2, ⟨⟩⟩ h13 ⟨hz1, hz2, w', hs14⟩
            simp only at hz1 hz2
            subst hz1 hz2
            clear hs13
            have hwc : IntKind.wrap .i64 (sendR p.2.out mT).1 = (rsendR y).1 := by
              rw [hcode]
              unfold rsendR
              split
              · show IntKind.wrap .i64 151 = 151; decide
              · show IntKind.wrap .i64 0 = 0; decide
            have hw'l : w'.len = (rsendR y).2.waiting.length := by
              obtain ⟨R', hs'⟩ := sat_nth hs14 8 rfl
              exact hs'.own_len
            refine bind_cut (hm := by
              repeat' with_reducible first
                | refine @mono_bind _ _ _ _ ?_ (fun _ => ?_)
                | refine @mono_ite _ _ _ _ ?_ ?_
                | refine @mono_req _ _ _ ?_
              all_goals infer_instance)
              (fun x h' => x.1 = false ∧ sat h' [outA ob (sendR p.2.out mT).2, flowA ib p.2.inn, cells p.1 (sesC p.2 ob ib), cells b #[.int .i64 last, .map (some m)], mapA eKI eVP m ((l1 ++ p :: l2).map sesE), bigA (fun p => sesA p.1 p.2) (l1 ++ l2),
              cells n (rsC y rob rib), cells rob (roC rpb w'), ownS encM 5 w' (rsendR y).2.waiting, cells rpb rpC, cells rib #[at0 rqb], cells rqb rpC, cells rb #[.int .i64 last, .slice rs.a rs.len rs.cap], ownS eP 1 rs ((m1 ++ (n, y) :: m2).map (·.1)), bigA (fun p => rsesA p.1 p.2) (m1 ++ m2),
              cells mb (encM mT).toArray, cells ab #[.int .i64 x1, .string x2, .bool x3, .bool x4, .int .i64 x5], cells kb #[.int .i64 k1, .string k2, .bool k3, .bool k4, .int .i64 k5], old h0]) ?_ ?_
            · (try dsimp only); rw [HM.ite_apply, if_neg (by simp [hwc]), HM.ite_apply, if_neg (by simp)]
              have fn4 := fun {h' : Heap} {L : List Asn} (hs' : sat h' L) (hn : L[6]? = some (cells n (rsC y rob rib))) => nth_cell hs' 6 hn 4
              refine ⟨x5, by rw [add_own]; exact nth_cell hs14 16 rfl 4, _, rfl, some ⟨rob, 0, none⟩, by rw [add_own]; exact nth_cell hs14 6 rfl 4, _, rfl, w', by rw [add_own]; exact nth_cell hs14 7 rfl 4, ?_⟩
              refine bind_call1 (Out_open hpk hs14 ⟨some ⟨ob, 0, none⟩, rfl, ?_⟩)
              refine ⟨rfl, w', by rw [add_own]; exact nth_cell hs14 7 rfl 4, rfl, some ⟨rob, 0, none⟩, by rw [add_own]; exact nth_cell hs14 6 rfl 4, rfl, ?_⟩
              refine bind_call1 (Waiting_spec hs14 (by rw [hwt]; omega) fun s2 h14 hl2 hs15 => ⟨s2, rfl, ?_⟩)
              refine ⟨rfl, w', by rw [add_own]; exact nth_cell hs15 7 rfl 4, rfl, some ⟨rob, 0, none⟩, by rw [add_own]; exact nth_cell hs15 6 rfl 4, rfl, ?_⟩
              (try dsimp only); rw [HM.ite_apply, if_neg (by rw [hl2, hwt, hw'l]; simp)]
              refine ⟨x5, by rw [add_own]; exact nth_cell hs15 16 rfl 4, _, rfl, some ⟨rib, 0, none⟩, by rw [add_own]; exact nth_cell hs15 6 rfl 5, _, rfl, some ⟨rqb, 0, none⟩, by rw [add_own]; exact nth_cell hs15 10 rfl 0, _, rfl, ⟨none, 0, 0⟩, by rw [add_own]; exact nth_cell hs15 11 rfl 2, ?_⟩
              refine bind_call1 (In_open hpk hs15 ⟨some ⟨ib, 0, none⟩, rfl, ?_⟩)
              refine ⟨rfl, ⟨none, 0, 0⟩, by rw [add_own]; exact nth_cell hs15 11 rfl 2, rfl, some ⟨rqb, 0, none⟩, by rw [add_own]; exact nth_cell hs15 10 rfl 0, rfl, some ⟨rib, 0, none⟩, by rw [add_own]; exact nth_cell hs15 6 rfl 5, rfl, ?_⟩
              refine bind_call1 (Open_spec hs15.p1 fun s3 h15 hl3 hs16 => ⟨s3, rfl, ?_⟩)
              refine ⟨rfl, ⟨none, 0, 0⟩, by rw [add_own]; exact nth_cell hs16 11 rfl 2, rfl, some ⟨rqb, 0, none⟩, by rw [add_own]; exact nth_cell hs16 10 rfl 0, rfl, some ⟨rib, 0, none⟩, by rw [add_own]; exact nth_cell hs16 6 rfl 5, rfl, ?_⟩
              refine ⟨?_, hs16.p1⟩
              dsimp only
              rw [hl3, hpo.2]
              rfl
            rintro ⟨x, ⟨⟩⟩ h16 ⟨hx, hs17⟩
            simp only at hx
            subst hx
            (try dsimp only); rw [HM.ite_apply, if_neg (by simp)]
            refine ⟨.inl rfl, last, sendA x5 A, sendA_ok hok, hl0, by omega, ?_⟩
            have hs18 : sat h16 [ptab b last (sendA x5 A), cells n (rsC y rob rib), cells rob (roC rpb w'), ownS encM 5 w' (rsendR y).2.waiting, cells rpb rpC, cells rib #[at0 rqb], cells rqb rpC, cells rb #[.int .i64 last, .slice rs.a rs.len rs.cap], ownS eP 1 rs ((m1 ++ (n, y) :: m2).map (·.1)), bigA (fun p => rsesA p.1 p.2) (m1 ++ m2),
              cells mb (encM mT).toArray, cells ab #[.int .i64 x1, .string x2, .bool x3, .bool x4, .int .i64 x5], cells kb #[.int .i64 k1, .string k2, .bool k3, .bool k4, .int .i64 k5], old h0] := ptab_back hok hpk hLA hoff hs17
            have hrsC : rsC y rob rib = rsC (rsendR y).2 rob rib := by unfold rsendR; split <;> rfl
            rw [hrsC] at hs18
            have hs19 : sat h16 [rtab rb last (sendA x5 A), ptab b last (sendA x5 A), cells mb (encM mT).toArray, cells ab #[.int .i64 x1, .string x2, .bool x3, .bool x4, .int .i64 x5], cells kb #[.int .i64 k1, .string k2, .bool k3, .bool k4, .int .i64 k5], old h0] := by
              refine rtab_iff.2 ⟨m1 ++ (n, (rsendR y).2) :: m2, ?_, rtab_shut (s := rs) (ob := rob) (pb := rpb) (ib := rib) (qb := rqb) (w := w') keys_same (hs18.re [1, 2, 3, 4, 5, 6, 7, 8, 9, 0, 10, 11, 12, 13])⟩
              have hr := hok.rising
              rw [← hM] at hr ⊢
              rw [snd_mid] at hr
              rw [snd_mid, snd_mid]
              unfold sendA
              rw [upd_mid hr hk]
            exact (hs19.re [2, 3, 1, 0, 4, 5]).drop.drop
        · rw [if_neg (by simp only [g3, decide_false, Bool.false_eq_true, not_false_eq_true])]
          refine ⟨x2, by rw [add_own]; exact (hA hs8).2.1, x3, by rw [add_own]; exact (hA hs8).2.2.1, x4, by rw [add_own]; exact (hA hs8).2.2.2.1, ?_⟩
          refine bind_callN (pBegin (hs8.re [1, 4, 0, 2, 3]) ht hok (by omega) hl0 (by omega) fun i1 q1 c1 d1 X1 h10 hB1 hs9 => ⟨(i1, q1, c1, ()), rfl, ?_⟩)
          have hs9' : sat h10 [cells ab #[.int .i64 x1, .string x2, .bool x3, .bool x4, .int .i64 x5], ptab b d1 X1, rtab rb last A, cells kb #[.int .i64 k1, .string k2, .bool k3, .bool k4, .int .i64 k5], old h0] := hs9.re [2, 0, 3, 4, 1]
          refine ⟨x2, by rw [add_own]; exact (hA hs9').2.1, x3, by rw [add_own]; exact (hA hs9').2.2.1, x4, by rw [add_own]; exact (hA hs9').2.2.2.1, ?_⟩
          refine bind_callN (rBegin (hs9'.re [2, 0, 1, 3, 4]) hok hxsz hl0 (by omega) fun i2 q2 c2 d2 X2 h11 hB2 hs10 => ⟨(i2, q2, c2, ()), rfl, ?_⟩)
          obtain ⟨rfl, rfl, rfl, rfl, rfl⟩ := hB1.uniq hok.clients hB2
          have hw : IntKind.wrap .i64 c1 = c1 := by cases hB1 <;> decide
          obtain ⟨ok', l0', l1'⟩ := hB1.ok hok hl0
          refine bind_cut (fun x h' => h' = h11 ∧ x.1 = false) ?_ ?_
          · (try dsimp only)
            simp [hw]
          rintro ⟨y, ⟨⟩⟩ h12 ⟨rfl, hy⟩
          simp only at hy
          subst hy
          (try dsimp only); rw [HM.ite_apply, if_neg (by simp)]
          exact ⟨.inl rfl, d1, X1, ok', l0', by omega, (hs10.re [1, 2, 0, 3, 4]).drop⟩
      rintro z h10 ⟨hz, hex⟩
      rcases hz with rfl | rfl
      · exact ⟨.inl rfl, hex⟩
      · exact ⟨.inr rfl, hex⟩
    rintro z h9 ⟨hz, hex⟩
    rcases hz with rfl | rfl
    · exact ⟨rfl, hex⟩
    · exact ⟨rfl, hex⟩
  rintro z h8 ⟨rfl, last', A', hok', hl0', hl1', hs9⟩
  simp only [Sum.elim_inl, Sum.elim_inr]
  -- what is there then
  refine bind_call1 (pList hs9 hok' (by omega) fun sl h9 hs10 => ⟨sl, rfl, ?_⟩)
  obtain ⟨M, hM, hsM⟩ := rtab_iff.1 (hs10.re [2, 0, 1, 3, 4])
  obtain ⟨rs, hsR⟩ := rtabA_iff.1 hsM
  have hs11 : sat h9 [cells rb #[.int .i64 last', .slice rs.a rs.len rs.cap], ownS eP 1 rs (M.map (·.1)), bigA (fun p => rsesA p.1 p.2) M, ownS encN 4 sl (A'.map infoR), ptab b last' A', cells kb #[.int .i64 k1, .string k2, .bool k3, .bool k4, .int .i64 k5], old h0] := hsR
  clear hsR hsM hs10 hs9
  have hML : M.length = A'.length := by rw [← hM, List.length_map]
  have hA32 := hok'.len
  have hsl : sl.len = A'.length := by
    obtain ⟨R', hs'⟩ := sat_nth hs11 3 rfl
    have := hs'.own_len
    rwa [List.length_map] at this
  have hrl : rs.len = A'.length := by
    have := hs11.p1.own_len
    rw [List.length_map] at this
    omega
  refine ⟨_, rfl, rs, by rw [add_own]; exact nth_cell hs11 0 rfl 1, ?_⟩
  (try dsimp only); rw [HM.ite_apply, if_neg (by rw [hsl, hrl]; simp)]
  rw [HM.bind_apply]
  refine loop_gx (γ := Nat) (hb := fun s => by
    repeat' with_reducible first
      | refine @mono_bind _ _ _ _ ?_ (fun _ => ?_)
      | refine @mono_ite _ _ _ _ ?_ ?_
      | refine @mono_req _ _ _ ?_
    all_goals infer_instance)
    (fun j c h' => c.1 = (j : Int) ∧ j ≤ A'.length ∧ sat h' [cells rb #[.int .i64 last', .slice rs.a rs.len rs.cap], ownS eP 1 rs (M.map (·.1)), bigA (fun p => rsesA p.1 p.2) M, ownS encN 4 sl (A'.map infoR), ptab b last' A', cells kb #[.int .i64 k1, .string k2, .bool k3, .bool k4, .int .i64 k5], old h0])
    (fun j => A'.length - j) 0 ⟨rfl, Nat.zero_le _, hs11⟩ ?_
  rintro j ⟨c, ⟨⟩⟩ h10 ⟨hcj, hj, hs12⟩
  simp only at hcj
  subst hcj
  (try dsimp only); rw [HM.ite_apply]
  by_cases hjl : j < A'.length
  · rw [if_pos (by simp only [decide_eq_true_eq]; omega)]
    have hrow1 := (hs12.re [3, 0, 1, 2, 4, 5, 6]).own_row eN_len
    have hrow2 := hs12.p1.own_row eP_len
    have hjM : j < M.length := by omega
    have hMj : M[j].2 = A'[j] := by
      have := List.getElem_of_eq hM (i := j) (by simpa using hjM)
      simpa using this
    rw [HM.bind_apply]
    refine idx_row hrow1 (x := infoR A'[j]) (by simp [List.getElem?_eq_getElem hjl]) fun ad had => ?_
    refine loadN_of (ts := [.int .i64, .str, .bool, .bool]) (A'[j].id, A'[j].client, A'[j].keep, A'[j].on, ()) (fun j v hv => had j v hv) ?_
    refine ⟨_, rfl, rs, by rw [add_own]; exact nth_cell hs12 0 rfl 1, ?_⟩
    (try dsimp only); rw [HM.bind_apply]
    refine idx_row hrow2 (x := M[j].1) (by simp [List.getElem?_eq_getElem hjM]) fun ad2 had2 => ?_
    refine ⟨some ⟨M[j].1, 0, none⟩, by simpa [Go.H.add_zero] using had2 0 _ rfl, ?_⟩
    obtain ⟨ob, ib, hcs⟩ := rses_cells (List.getElem_mem hjM) (hs12.re [2, 0, 1, 3, 4, 5, 6])
    rw [hMj] at hcs
    refine bind_call1 (same_at hs12 hcs fun h11 hs13 => ⟨true, rfl, ?_⟩)
    (try dsimp only); rw [HM.ite_apply, if_neg (by simp)]
    simp only [Sum.elim_inl, Sum.elim_inr, HM.pure_apply]
    refine .mk (j + 1) (by omega) ⟨?_, by omega, hs13⟩
    simp only []
    rw [wrap_id (by omega) (by omega)]; rfl
  rw [if_neg (by simp only [decide_eq_true_eq]; omega)]
  simp only [Sum.elim_inl, Sum.elim_inr, HM.pure_apply]
  have hs13 : sat h10 [ptab b last' A', rtab rb last' A', cells kb #[.int .i64 k1, .string k2, .bool k3, .bool k4, .int .i64 k5], old h0] := by
    have h1 : sat h10 (rtabA rb last' M :: [ownS encN 4 sl (A'.map infoR), ptab b last' A', cells kb #[.int .i64 k1, .string k2, .bool k3, .bool k4, .int .i64 k5], old h0]) := rtabA_iff.2 ⟨rs, hs12⟩
    exact ((rtab_iff.2 ⟨M, hM, h1⟩).re [1, 2, 0, 3, 4]).drop
  clear hs12 hs11
  -- the one that is asked for
  refine ⟨k2, by rw [add_own]; exact nth_cell hs13 2 rfl 1, ?_⟩
  refine bind_cut (fun z h' => ∃ o : Option RS, z = infoT (o.map infoR) ∧ ((o = none ∧ ∀ x ∈ A', x.client ≠ k2) ∨ ∃ x ∈ A', x.client = k2 ∧ o = some x) ∧ sat h' [ptab b last' A', rtab rb last' A', cells kb #[.int .i64 k1, .string k2, .bool k3, .bool k4, .int .i64 k5], old h0]) ?_ ?_
  · exact pFind hs13 hok' (fun hn h' hs' => ⟨infoT none, rfl, none, rfl, .inl ⟨rfl, hn⟩, hs'⟩) (fun x hx e h' hs' => ⟨infoT (some (infoR x)), rfl, some x, rfl, .inr ⟨x, hx, e, rfl⟩, hs'⟩)
  rintro z h11 ⟨o1, rfl, ho1, hs14⟩
  refine new_cells hs14 fun fb h12 hs15 => ?_
  refine storeN_all' hs15 rfl rfl fun h13 hs16' => ?_
  have hs16 : sat h13 [cells fb #[.int .i64 (infoT (o1.map infoR)).1.1, .string (infoT (o1.map infoR)).1.2.1, .bool (infoT (o1.map infoR)).1.2.2.1, .bool (infoT (o1.map infoR)).1.2.2.2.1], ptab b last' A', rtab rb last' A', cells kb #[.int .i64 k1, .string k2, .bool k3, .bool k4, .int .i64 k5], old h0] := hs16'
  clear hs16' hs15 hs14 hs13
  refine ⟨k5, by rw [add_own]; exact nth_cell hs16 3 rfl 4, ?_⟩
  refine bind_cut (fun z h' => ∃ o : Option RS, z = infoT (o.map infoR) ∧ ((o = none ∧ ∀ x ∈ A', x.id ≠ k5) ∨ ∃ x ∈ A', x.id = k5 ∧ o = some x) ∧ sat h' [ptab b last' A', cells fb #[.int .i64 (infoT (o1.map infoR)).1.1, .string (infoT (o1.map infoR)).1.2.1, .bool (infoT (o1.map infoR)).1.2.2.1, .bool (infoT (o1.map infoR)).1.2.2.2.1], rtab rb last' A', cells kb #[.int .i64 k1, .string k2, .bool k3, .bool k4, .int .i64 k5], old h0]) ?_ ?_
  · exact pGet (hs16.p1) hok' (fun hn h' hs' => ⟨infoT none, rfl, none, rfl, .inl ⟨rfl, hn⟩, hs'⟩) (fun x hx e h' hs' => ⟨infoT (some (infoR x)), rfl, some x, rfl, .inr ⟨x, hx, e, rfl⟩, hs'⟩)
  rintro z h14 ⟨o2, rfl, ho2, hs17⟩
  refine new_cells hs17 fun gb h15 hs18 => ?_
  refine storeN_all' hs18 rfl rfl fun h16 hs19' => ?_
  have hs19 : sat h16 [cells gb #[.int .i64 (infoT (o2.map infoR)).1.1, .string (infoT (o2.map infoR)).1.2.1, .bool (infoT (o2.map infoR)).1.2.2.1, .bool (infoT (o2.map infoR)).1.2.2.2.1], ptab b last' A', cells fb #[.int .i64 (infoT (o1.map infoR)).1.1, .string (infoT (o1.map infoR)).1.2.1, .bool (infoT (o1.map infoR)).1.2.2.1, .bool (infoT (o1.map infoR)).1.2.2.2.1], rtab rb last' A', cells kb #[.int .i64 k1, .string k2, .bool k3, .bool k4, .int .i64 k5], old h0] := hs19'
  clear hs19' hs18 hs17 hs16
  refine bind_cut (hm := by
    repeat' with_reducible first
      | refine @mono_bind _ _ _ _ ?_ (fun _ => ?_)
      | refine @mono_ite _ _ _ _ ?_ ?_
      | refine @mono_req _ _ _ ?_
    all_goals infer_instance)
    (fun x h' => x.1 = false ∧ sat h' [ptab b last' A', rtab rb last' A', cells kb #[.int .i64 k1, .string k2, .bool k3, .bool k4, .int .i64 k5], old h0]) ?_ ?_
  · refine loadN_nth hs19 2 rfl (ts := [.int .i64, .str, .bool, .bool]) (infoT (o1.map infoR)).1 rfl ?_
    refine ⟨k2, by rw [add_own]; exact nth_cell hs19 4 rfl 1, ?_⟩
    -- the second half
    have half : ∀ {h' : Heap}, sat h' [cells gb #[.int .i64 (infoT (o2.map infoR)).1.1, .string (infoT (o2.map infoR)).1.2.1, .bool (infoT (o2.map infoR)).1.2.2.1, .bool (infoT (o2.map infoR)).1.2.2.2.1], ptab b last' A', cells fb #[.int .i64 (infoT (o1.map infoR)).1.1, .string (infoT (o1.map infoR)).1.2.1, .bool (infoT (o1.map infoR)).1.2.2.1, .bool (infoT (o1.map infoR)).1.2.2.2.1], rtab rb last' A', cells kb #[.int .i64 k1, .string k2, .bool k3, .bool k4, .int .i64 k5], old h0] →
        (HM.bind (α := Int × ByteArray × Bool × Bool × Unit) (HM.loadN [.int .i64, .str, .bool, .bool] ⟨gb, 0, none⟩) fun (x93 : Int × ByteArray × Bool × Bool × Unit) =>
          HM.bind (α := Int) (HM.load1 (.int .i64) (Addr.add ⟨kb, 0, none⟩ 4)) fun (x94 : Int) =>
          HM.bind (α := Option Addr) (HM.call1 Tryd.prog (.one .ptr) 25 #[.pointer (some ⟨rb, 0, none⟩), .int .i64 x94]) fun (x95 : Option Addr) =>
          HM.bind (α := Int × ByteArray × Bool × Bool × Unit) (HM.loadN [.int .i64, .str, .bool, .bool] ⟨gb, 0, none⟩) fun (x96 : Int × ByteArray × Bool × Bool × Unit) =>
          HM.req ((.agg #[.int .i64 x96.1, .string x96.2.1, .bool x96.2.2.1, .bool x96.2.2.2.1] : Value) = .agg #[.int .i64 x93.1, .string x93.2.1, .bool x93.2.2.1, .bool x93.2.2.2.1]) <|
          HM.bind (α := Bool) (HM.call1 Tryd.prog (.one .bool) 29 #[.agg #[.int .i64 x93.1, .string x93.2.1, .bool x93.2.2.1, .bool x93.2.2.2.1], .bool (infoT (o2.map infoR)).2.1, .pointer x95]) fun (x97 : Bool) =>
          HM.pure ((!x97, ()) : Bool × Unit)) h' fun x h' => x.1 = false ∧ sat h' [ptab b last' A', rtab rb last' A', cells kb #[.int .i64 k1, .string k2, .bool k3, .bool k4, .int .i64 k5], old h0] := fun {h'} hs' => by
      refine loadN_nth hs' 0 rfl (ts := [.int .i64, .str, .bool, .bool]) (infoT (o2.map infoR)).1 rfl ?_
      refine ⟨k5, by rw [add_own]; exact nth_cell hs' 4 rfl 4, ?_⟩
      have out : ∀ {h' : Heap}, sat h' [cells gb #[.int .i64 (infoT (o2.map infoR)).1.1, .string (infoT (o2.map infoR)).1.2.1, .bool (infoT (o2.map infoR)).1.2.2.1, .bool (infoT (o2.map infoR)).1.2.2.2.1], ptab b last' A', cells fb #[.int .i64 (infoT (o1.map infoR)).1.1, .string (infoT (o1.map infoR)).1.2.1, .bool (infoT (o1.map infoR)).1.2.2.1, .bool (infoT (o1.map infoR)).1.2.2.2.1], rtab rb last' A', cells kb #[.int .i64 k1, .string k2, .bool k3, .bool k4, .int .i64 k5], old h0] →
          sat h' [ptab b last' A', rtab rb last' A', cells kb #[.int .i64 k1, .string k2, .bool k3, .bool k4, .int .i64 k5], old h0] := fun hh => (hh.re [0, 2, 1, 3, 4, 5]).drop.drop
      refine bind_call1 (rGet (hs'.re [3, 0, 1, 2, 4, 5]) hok' (fun hn => ⟨none, rfl, ?_⟩) (fun x hx e n ob ib hcs => ⟨some ⟨n, 0, none⟩, rfl, ?_⟩))
      · rcases ho2 with ⟨rfl, -⟩ | ⟨x, hx, e, rfl⟩
        · refine loadN_nth hs' 0 rfl (ts := [.int .i64, .str, .bool, .bool]) (0, ByteArray.mk #[], false, false, ()) rfl ⟨rfl, ?_⟩
          refine bind_call1 (same_none hs' fun h2 hs2 => ⟨true, rfl, ?_⟩)
          exact ⟨rfl, out hs2⟩
        · exact absurd e (hn x hx)
      · rcases ho2 with ⟨rfl, hn⟩ | ⟨x', hx', e', rfl⟩
        · exact absurd e (hn x hx)
        · have := id_uniq hok'.rising hx hx' (e.trans e'.symm)
          subst this
          refine loadN_nth hs' 0 rfl (ts := [.int .i64, .str, .bool, .bool]) (x.id, x.client, x.keep, x.on, ()) rfl ⟨rfl, ?_⟩
          refine bind_call1 (same_at (x := x) hs' hcs fun h2 hs2 => ⟨true, rfl, ?_⟩)
          exact ⟨rfl, out hs2⟩
    refine bind_call1 (rFind (hs19.re [3, 0, 1, 2, 4, 5]) hok' (fun hn => ⟨none, rfl, ?_⟩) (fun x hx e n ob ib hcs => ⟨some ⟨n, 0, none⟩, rfl, ?_⟩))
    · rcases ho1 with ⟨rfl, -⟩ | ⟨x, hx, e, rfl⟩
      · refine loadN_nth hs19 2 rfl (ts := [.int .i64, .str, .bool, .bool]) (0, ByteArray.mk #[], false, false, ()) rfl ⟨rfl, ?_⟩
        refine bind_call1 (same_none hs19 fun h2 hs2 => ⟨true, rfl, ?_⟩)
        (try dsimp only); rw [HM.ite_apply, if_neg (by simp)]
        exact half hs2
      · exact absurd e (hn x hx)
    · rcases ho1 with ⟨rfl, hn⟩ | ⟨x', hx', e', rfl⟩
      · exact absurd e (hn x hx)
      · have := client_uniq hok'.clients hx hx' (e.trans e'.symm)
        subst this
        refine loadN_nth hs19 2 rfl (ts := [.int .i64, .str, .bool, .bool]) (x.id, x.client, x.keep, x.on, ()) rfl ⟨rfl, ?_⟩
        refine bind_call1 (same_at (x := x) hs19 hcs fun h2 hs2 => ⟨true, rfl, ?_⟩)
        (try dsimp only); rw [HM.ite_apply, if_neg (by simp)]
        exact half hs2
  rintro ⟨x, ⟨⟩⟩ h17 ⟨hx, hs20⟩
  simp only at hx
  subst hx
  (try dsimp only); rw [HM.ite_apply, if_neg (by simp)]
  simp only [Sum.elim_inl, Sum.elim_inr, HM.pure_apply]
  exact .mk (i + 1, last', A') (by first | omega | (simp only []; omega)) ⟨by first | omega | (simp only []; omega), next, hok', hl0', hl1', hs20⟩

end Go.Proofs.YtlgddhcbiioefaaDoor
