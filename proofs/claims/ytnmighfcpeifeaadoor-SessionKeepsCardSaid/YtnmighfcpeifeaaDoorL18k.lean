/-
  L18k: the law SessionKeeps over heaps.
-/
import Derived.Test.YtnmighfcpeifeaaDoorCw18
import Derived.Test.YtnmighfcpeifeaaDoorCsnd
namespace Go.Proofs.YtnmighfcpeifeaaDoor
open Go.H Go.Proofs
set_option linter.unusedSimpArgs false
set_option linter.unusedVariables false
set_option synthInstance.maxSize 100000
set_option synthInstance.maxHeartbeats 400000
set_option maxRecDepth 100000

abbrev eB1 (x : Bool) : List Value := [.bool x]

/-- the message of a number -/
abbrev msgK (i : Nat) : MsT := (ByteArray.mk #[116], bytesOfInts [IntKind.wrap .u8 (i : Int)], 1, false, ByteArray.mk #[])
abbrev msgsK (n : Nat) : List MsT := (List.range n).map msgK

/-- what is so of the one session -/
structure KeptS (c : ByteArray) (n : Nat) (s : SesS) : Prop where
  client : s.client = c
  keep : s.keep = true
  on : s.on = true
  off : s.out.on = false
  flights : s.out.flights = []
  waiting : s.out.waiting = msgsK n

theorem KeptS.new (c : ByteArray) (id : Int) : KeptS c 0 (newS id c true) := ⟨rfl, rfl, rfl, rfl, rfl, rfl⟩

set_option maxHeartbeats 1000000 in
theorem SessionKeeps_spec {h h0 : Heap} (hs : sat h [old h0]) (ht : U8 h0) {c : ByteArray} (hsz : c.size ≤ 9223372036854775807) {n0 : Int} {s : Slc} {xs : List Bool} (hr : RowAt eB1 1 h0 s xs)
    {Q : Value → Heap → Prop} (hq : ∀ h' R, sat h' (old h0 :: R) → Q (.bool true) h') : HCalls Tryd.prog 3 #[.string c, .int .i64 n0, .slice s.a s.len s.cap] h Q := by
  refine law18_SessionKeeps_calls c n0 s h Q ?_
  have he : (if 20 < ((s.len : Nat) : Int) then (20 : Int) else ((s.len : Nat) : Int)) = ((min 20 xs.length : Nat) : Int) := by
    rw [hr.1]; split <;> omega
  obtain ⟨n, hn, hn50⟩ : ∃ n : Nat, Int.tmod (if 0 < n0 then n0 else 0) 50 = (n : Int) ∧ n < 50 := by
    have h1 : 0 ≤ (if 0 < n0 then n0 else 0) := by split <;> omega
    generalize (if 0 < n0 then n0 else 0) = z at h1
    refine ⟨(z.tmod 50).toNat, ?_, ?_⟩
    · rw [Int.toNat_of_nonneg]
      rw [Int.tmod_eq_emod_of_nonneg h1]; omega
    · rw [Int.tmod_eq_emod_of_nonneg h1]; omega
  unfold law18_SessionKeeps
  rw [he, hn]
  refine bind_call1 (sesNew_spec hs fun b h1 hs1 => ⟨some ⟨b, 0, none⟩, rfl, ?_⟩)
  refine bind_callN (Begin_spec hs1 ht hsz (by decide) (by decide) (by simp) (fun hb h2 hs2 => ⟨(0, false, 133, ()), rfl, ?_⟩) (fun _ _ hl => absurd hl (by simp)) (fun _ _ l1 p l2 he => absurd he.symm (by simp)) (fun hg L0 hL nb h2 hs2 => ⟨(1, false, 0, ()), rfl, ?_⟩))
  · -- a name that cannot be
    refine bind_cut (fun x h' => sat h' (old h0 :: [tabA b 0 []]) ∧ x.1 = true) ?_ ?_
    · exact bind_call1 (wakes18_spec (hs2.re [1, 0]) ht fun h3 hs3 => ⟨true, rfl, hs3, rfl⟩)
    rintro ⟨x, ⟨⟩⟩ h3 ⟨hs3, hx⟩
    simp only at hx
    subst hx
    rw [HM.ite_apply, if_pos rfl]
    refine bind_call1 (wakes18_spec hs3 ht fun h4 hs4 => ⟨true, rfl, ?_⟩)
    exact hq h4 _ hs4
  have hL0 : L0 = [] := by
    rcases hL with ⟨-, -, rfl⟩ | ⟨hc, -⟩
    · rfl
    · cases hc
  subst hL0
  clear hL hs1
  refine bind_cut (fun x h' => sat h' (old h0 :: [tabA b 1 [(nb, newS 1 c true)]]) ∧ x.1 = false) ?_ ?_
  · exact bind_call1 (wakes18_spec (show sat h2 (old h0 :: [tabA b 1 [(nb, newS 1 c true)]]) from hs2.re [1, 0]) ht fun h3 hs3 => ⟨true, rfl, hs3, rfl⟩)
  clear hs2
  rintro ⟨x, ⟨⟩⟩ h3 ⟨hs3, hx⟩
  simp only at hx
  subst hx
  rw [HM.ite_apply, if_neg (by simp), HM.req_apply]
  refine ⟨by decide, ?_⟩
  -- the messages are sent
  have hs4 : sat h3 (tabA b 1 [(nb, newS 1 c true)] :: [old h0]) := hs3.re [1, 0]
  clear hs3
  (try dsimp only); rw [HM.bind_apply]
  refine loop_gx (γ := Nat × SesS) (hb := fun s => by
      repeat' with_reducible first
        | refine @mono_bind _ _ _ _ ?_ (fun _ => ?_)
        | refine @mono_ite _ _ _ _ ?_ ?_
        | refine @mono_req _ _ _ ?_
        | refine @mono_both _ _ _ ?_ ?_
      all_goals infer_instance)
    (fun g x h' => g.1 ≤ n ∧ x.1 = (g.1 : Int) ∧ g.2.id = 1 ∧ KeptS c g.1 g.2 ∧ ∃ R, sat h' (tabA b 1 [(nb, g.2)] :: old h0 :: R)) (fun g => n - g.1) (0, newS 1 c true)
    ⟨Nat.zero_le _, rfl, rfl, KeptS.new c 1, [], hs4⟩ ?_
  clear hs4
  rintro ⟨i, S⟩ ⟨ci, ⟨⟩⟩ h4 ⟨hi, hci, hid, hK, R, hs5⟩
  simp only at hi hci hid hK hs5
  subst hci
  have next : IntKind.wrap .i64 ((i : Int) + 1) = ((i + 1 : Nat) : Int) := by rw [wrap_id (by omega) (by omega)]; rfl
  simp only [HM.ite_apply, decide_eq_true_eq]
  by_cases hlt : i < n
  · rw [if_pos (by omega)]
    have hlen : S.out.waiting.length < 256 := by rw [hK.waiting]; simp; omega
    obtain ⟨m, ob, ib, hs6⟩ := tab_open (l1 := []) (l2 := []) (p := (nb, S)) hs5
    have fin : ∀ (h' : Heap) (x10 : Nat) (cs : Array Value), sat h' (outA ob { S.out with waiting := S.out.waiting ++ [msgK i] } :: cells x10 cs :: flowA ib S.inn :: cells nb (sesC S ob ib) :: cells b #[.int .i64 1, .map (some m)] :: mapA eKI eVP m [sesE (nb, S)] :: bigA (fun p : Nat × SesS => sesA p.1 p.2) [] :: old h0 :: R) →
        Go.H.Next (fun (g : Nat × SesS) (x : Int × Unit) h' => g.1 ≤ n ∧ x.1 = (g.1 : Int) ∧ g.2.id = 1 ∧ KeptS c g.1 g.2 ∧ ∃ R, sat h' (tabA b 1 [(nb, g.2)] :: old h0 :: R)) (fun g => n - g.1) (i, S) (IntKind.wrap .i64 ((i : Int) + 1), ()) h' := by
      intro h' x10 cs hs'
      refine .mk (i + 1, { S with out := { S.out with waiting := S.out.waiting ++ [msgK i] } }) (by simp only []; omega) ⟨by simp only []; omega, next, hid, ⟨hK.client, hK.keep, hK.on, hK.off, hK.flights, ?_⟩, cells x10 cs :: R, ?_⟩
      · show S.out.waiting ++ [msgK i] = msgsK (i + 1)
        rw [hK.waiting]
        show (List.range i).map msgK ++ [msgK i] = (List.range (i + 1)).map msgK
        rw [List.range_succ, List.map_append]
        rfl
      · have h1 := hs'.re [0, 2, 3, 4, 5, 6, 7, 1]
        have h2 := tab_shut (l1 := []) (l2 := []) (p := (nb, S)) h1
        exact h2
    refine ⟨?_, ?_⟩
    · refine bind_call1 (Out_open (l1 := []) (l2 := []) (p := (nb, S)) hid hs6 ⟨some ⟨ob, 0, none⟩, rfl, ?_⟩)
      refine new_cells hs6 fun x10 h5 hs7 => ?_
      refine ⟨[IntKind.wrap .u8 (i : Int)], hs7.reads rfl, ?_⟩
      refine bind_callN (Send_wait (m := msgK i) hs7.p1 hK.off ⟨show (0 : Int) < 1 by decide, show (1 : Int) ≤ 2 by decide⟩ hlen fun h6 hs8 => ⟨(⟨none, 0, 0⟩, 0, ()), rfl, ?_⟩)
      simp only [Sum.elim_inl, Sum.elim_inr, HM.pure_apply]
      exact fin h6 x10 _ hs8
    · refine new_cells hs6 fun x10 h5 hs7 => ?_
      refine ⟨?_, ?_⟩
      · refine bind_call1 (Out_open (l1 := []) (l2 := []) (p := (nb, S)) hid (hs7.re [1, 2, 3, 4, 5, 6, 7, 0]) ⟨some ⟨ob, 0, none⟩, rfl, ?_⟩)
        refine ⟨[IntKind.wrap .u8 (i : Int)], hs7.reads rfl, ?_⟩
        refine bind_callN (Send_wait (m := msgK i) hs7.p1 hK.off ⟨show (0 : Int) < 1 by decide, show (1 : Int) ≤ 2 by decide⟩ hlen fun h6 hs8 => ⟨(⟨none, 0, 0⟩, 0, ()), rfl, ?_⟩)
        simp only [Sum.elim_inl, Sum.elim_inr, HM.pure_apply]
        exact fin h6 x10 _ hs8
      · refine ⟨[IntKind.wrap .u8 (i : Int)], hs7.reads rfl, ?_⟩
        refine bind_call1 (Out_open (l1 := []) (l2 := []) (p := (nb, S)) hid (hs7.re [1, 2, 3, 4, 5, 6, 7, 0]) ⟨some ⟨ob, 0, none⟩, rfl, ?_⟩)
        refine bind_callN (Send_wait (m := msgK i) hs7.p1 hK.off ⟨show (0 : Int) < 1 by decide, show (1 : Int) ≤ 2 by decide⟩ hlen fun h6 hs8 => ⟨(⟨none, 0, 0⟩, 0, ()), rfl, ?_⟩)
        simp only [Sum.elim_inl, Sum.elim_inr, HM.pure_apply]
        exact fin h6 x10 _ hs8
  rw [if_neg (by omega)]
  have : i = n := by omega
  subst this
  simp only [Sum.elim_inl, Sum.elim_inr, HM.pure_apply]
  clear next hlt hi
  refine slice_row hr (Nat.min_le_right _ _) fun s' hr' => ?_
  have hys1 : (xs.take (min 20 xs.length)).length ≤ 20 := by simp; omega
  generalize xs.take (min 20 xs.length) = ys at hr' hys1
  have hlen := hr'.1
  (try dsimp only); rw [HM.bind_apply]
  refine loop_gx (γ := Nat × Nat × Nat × SesS) (hb := fun s => by
      repeat' with_reducible first
        | refine @mono_bind _ _ _ _ ?_ (fun _ => ?_)
        | refine @mono_ite _ _ _ _ ?_ ?_
        | refine @mono_req _ _ _ ?_
      all_goals infer_instance)
    (fun g x h' => g.1 ≤ ys.length ∧ x.2.2.1 = (g.1 : Int) ∧ x.2.1 = (g.2.1 : Int) ∧ g.2.1 < 50 ∧ x.1 = g.2.2.2.id ∧ 1 ≤ g.2.2.2.id ∧ g.2.2.2.id ≤ 1 + (g.1 : Int) ∧ KeptS c g.2.1 g.2.2.2 ∧ ∃ R, sat h' (tabA b g.2.2.2.id [(g.2.2.1, g.2.2.2)] :: old h0 :: R)) (fun g => ys.length - g.1) (0, i, nb, S)
    ⟨Nat.zero_le _, rfl, rfl, hn50, hid.symm, by simp only [hid]; decide, by simp only [hid]; decide, hK, R, by rw [hid]; exact hs5⟩ ?_
  clear hs5 hK hid S R hn hn50
  clear i
  rintro ⟨i, n, nb, S⟩ ⟨k, cn, ci, ⟨⟩⟩ h5 ⟨hi, hci, hcn, hn50, hk, hid1, hid2, hK, R, hs5⟩
  simp only at hi hci hcn hn50 hk hid1 hid2 hK hs5
  subst hci
  subst hcn
  subst hk
  have next : IntKind.wrap .i64 ((i : Int) + 1) = ((i + 1 : Nat) : Int) := by rw [wrap_id (by omega) (by omega)]; rfl
  simp only [HM.ite_apply, decide_eq_true_eq]
  by_cases hlt : i < ys.length
  · rw [if_pos (by omega), HM.bind_apply]
    refine idx_row hr' (List.getElem?_eq_getElem hlt) fun a ha => ?_
    generalize ys[i] = cl at ha
    refine ⟨cl, hs5.p1.old_cell (ha 0 _ rfl), ?_⟩
    refine bind_call1 (End_spec hs5 (fun hn => absurd rfl (hn _ (List.mem_cons_self ..))) (fun p hp _ hoff => ?_) (fun l1 p l2 he hi' hon hk h6 hs6 => ⟨false, rfl, ?_⟩) (fun l1 p l2 he hi' hon hk h6 hs6 => ?_))
    · have := List.mem_singleton.1 hp
      subst this
      rw [hK.on] at hoff
      cases hoff
    · obtain ⟨rfl, rfl, rfl⟩ := one_split he
      have hs6' : sat h6 (tabA b S.id [(nb, { S with on := false, out := { S.out with on := false } })] :: old h0 :: R) := hs6
      clear hs6 hs5 he hi' hon hk
      rw [HM.ite_apply, if_neg (by simp)]
      obtain ⟨P, hP1, hP2⟩ : ∃ P : (Int × Bool × Int × Unit) → Heap → Prop,
          (∀ k nb' S' h', S'.id = k → (k = if cl = true then S.id + 1 else S.id) → KeptS c (if cl = true then 0 else n) S' → sat h' (tabA b k [(nb', S')] :: old h0 :: R) → P (k, !cl, 0, ()) h') ∧
          (∀ z h', P z h' → ∃ k nb' S', z = (k, !cl, 0, ()) ∧ S'.id = k ∧ (k = if cl = true then S.id + 1 else S.id) ∧ KeptS c (if cl = true then 0 else n) S' ∧ sat h' (tabA b k [(nb', S')] :: old h0 :: R)) :=
        ⟨fun z h' => ∃ k nb' S', z = (k, !cl, 0, ()) ∧ S'.id = k ∧ (k = if cl = true then S.id + 1 else S.id) ∧ KeptS c (if cl = true then 0 else n) S' ∧ sat h' (tabA b k [(nb', S')] :: old h0 :: R),
          fun k nb' S' h' a1 a2 a3 a4 => ⟨k, nb', S', rfl, a1, a2, a3, a4⟩, fun z h' hz => hz⟩
      refine bind_cut P ?_ ?_
      · refine Begin_spec hs6' ht hsz (by omega) (by omega) (fun p hp => ?_) (fun hb => absurd hg hb) (fun _ hn _ => absurd hK.client (hn _ (List.mem_cons_self ..))) (fun _ hcl l1 p l2 he hc h7 hs7 => ?_) (fun _ L0 hL nb' h7 hs7 => ?_)
        · have := List.mem_singleton.1 hp
          subst this
          exact Int.le_refl _
        · obtain ⟨rfl, rfl, rfl⟩ := one_split he
          subst hcl
          exact ⟨(S.id, true, 0, ()), rfl, hP1 S.id nb { S with on := true, keep := true, out := { S.out with on := false } } h7 rfl rfl ⟨hK.client, rfl, rfl, rfl, hK.flights, hK.waiting⟩ hs7⟩
        · rcases hL with ⟨hn, -, -⟩ | ⟨hcl, l1, p, l2, he, hc, hL0⟩
          · exact absurd hK.client (hn _ (List.mem_cons_self ..))
          · obtain ⟨rfl, rfl, rfl⟩ := one_split he
            subst hL0
            subst hcl
            exact ⟨(S.id + 1, false, 0, ()), rfl, hP1 (S.id + 1) nb' (newS (S.id + 1) c true) h7 rfl rfl (KeptS.new c _) hs7⟩
      clear hs6'
      intro z h7 hz
      obtain ⟨k, nb', S', rfl, hSk, hkk, hK', hs7⟩ := hP2 z h7 hz
      clear hz hP1 hP2
      refine bind_cut (fun x h' => h' = h7 ∧ x.1 = false) ?_ ?_
      · rw [HM.ite_apply, if_neg (by simp)]
        rw [HM.ite_apply, if_neg (by cases cl <;> simp)]
        refine ⟨rfl, ?_⟩
        cases cl
        · simp at hkk; simp [hkk]
        · simp at hkk; simp [hkk]; omega
      rintro ⟨x, ⟨⟩⟩ h8 ⟨rfl, hx⟩
      simp only at hx
      subst hx
      rw [HM.ite_apply, if_neg (by simp)]
      refine bind_cut (fun x h' => h' = h8 ∧ x.1 = (((if cl = true then 0 else n) : Nat) : Int)) ?_ ?_
      · cases cl <;> simp
      rintro ⟨x, ⟨⟩⟩ h9 ⟨rfl, hx⟩
      simp only at hx
      subst hx
      have hn' : (if cl = true then 0 else n) < 50 := by split <;> omega
      have hid' : 1 ≤ S'.id ∧ S'.id ≤ 1 + ((i + 1 : Nat) : Int) := by rw [hSk, hkk]; split <;> omega
      clear hkk
      generalize (if cl = true then 0 else n) = n' at hn' hK'
      obtain ⟨m, ob, ib, hs8⟩ := tab_open (l1 := []) (l2 := []) (p := (nb', S')) hs7
      have hwl : S'.out.waiting.length = n' := by rw [hK'.waiting]; simp
      refine bind_call1 (Out_open (l1 := []) (l2 := []) (p := (nb', S')) hSk hs8 ⟨some ⟨ob, 0, none⟩, rfl, ?_⟩)
      refine bind_call1 (Waiting_ms hs8 (by rw [hwl]; omega) fun sl h10 hsl hs9 => ⟨sl, rfl, ?_⟩)
      (try dsimp only); rw [HM.ite_apply, if_neg (by simp [hsl, hwl])]
      simp only [Sum.elim_inl, Sum.elim_inr, HM.pure_apply]
      refine .mk (i + 1, n', nb', S') (by simp only []; omega) ⟨by simp only []; omega, next, rfl, hn', hSk.symm, hid'.1, hid'.2, hK', R, ?_⟩
      have h2 := tab_shut (l1 := []) (l2 := []) (p := (nb', S')) hs9
      rw [hSk]
      exact h2
    · obtain ⟨rfl, rfl, rfl⟩ := one_split he
      rw [hK.keep] at hk
      cases hk
  rw [if_neg (by omega)]
  simp only [Sum.elim_inl, Sum.elim_inr, HM.pure_apply]
  clear next hlt hi hr' hlen hys1
  -- all that waits is sent
  obtain ⟨m, ob, ib, hs6⟩ := tab_open (l1 := []) (l2 := []) (p := (nb, S)) hs5
  have hwl : S.out.waiting.length = n := by rw [hK.waiting]; simp
  refine bind_call1 (Out_open (l1 := []) (l2 := []) (p := (nb, S)) rfl hs6 ⟨some ⟨ob, 0, none⟩, rfl, ?_⟩)
  refine bind_call1 (OutBegin_all hs6 hK.flights (fun m hm => ?_) (by rw [hwl]; omega) fun h7 sl qs o' hqs hs7 => ⟨sl, rfl, ?_⟩)
  · rw [hK.waiting] at hm
    obtain ⟨j, -, rfl⟩ := List.mem_map.1 hm
    exact ⟨rfl, rfl⟩
  have hql : qs.length = n := by
    have := congrArg List.length hqs
    simpa [hwl] using this
  have hsl : sl.len = qs.length := hs7.p1.own_len
  have hget : ∀ j (hj : j < qs.length), seeP qs[j] = (3, bytesOfInts [IntKind.wrap .u8 (j : Int)]) := by
    intro j hj
    have h1 : (qs.map seeP)[j]? = some (seeP qs[j]) := by rw [List.getElem?_map, List.getElem?_eq_getElem hj]; rfl
    rw [hqs, hK.waiting] at h1
    have hj' : j < n := by omega
    simp [List.getElem?_map, List.getElem?_range hj'] at h1
    exact Prod.ext h1.1.symm h1.2.symm
  obtain ⟨R2, hs8⟩ : ∃ R2, sat h7 (ownS encPk 26 sl qs :: old h0 :: R2) := ⟨_, hs7.re [1, 7, 0, 2, 3, 4, 5, 6]⟩
  clear hs7 hs6 hs5 hqs
  (try dsimp only); rw [HM.bind_apply]
  refine loop_gx (γ := Nat) (hb := fun s => by
      repeat' with_reducible first
        | refine @mono_bind _ _ _ _ ?_ (fun _ => ?_)
        | refine @mono_ite _ _ _ _ ?_ ?_
        | refine @mono_req _ _ _ ?_
      all_goals infer_instance)
    (fun g x h' => g ≤ qs.length ∧ x.1 = (g : Int) ∧ sat h' (ownS encPk 26 sl qs :: old h0 :: R2)) (fun g => qs.length - g) 0
    ⟨Nat.zero_le _, rfl, hs8⟩ ?_
  clear hs8
  rintro i ⟨ci, ⟨⟩⟩ h8 ⟨hi, hci, hs8⟩
  simp only at hi hci hs8
  subst hci
  have next : IntKind.wrap .i64 ((i : Int) + 1) = ((i + 1 : Nat) : Int) := by rw [wrap_id (by omega) (by omega)]; rfl
  simp only [HM.ite_apply, decide_eq_true_eq]
  by_cases hlt : i < qs.length
  · rw [if_pos (by omega), HM.bind_apply]
    refine idx_row (hs8.own_row ePk_len) (List.getElem?_eq_getElem hlt) fun a ha => ?_
    have hg1 := hget i hlt
    generalize qs[i] = p at ha hg1
    refine loadN_of (ts := Pk_t) p (fun j v hv => ha j v hv) ?_
    refine new_cells hs8 fun x37 h9 hs9 => ?_
    (try dsimp only); rw [HM.bind_apply]
    refine storeN_all' hs9 rfl rfl fun h10 hs10 => ?_
    have hs10' : sat h10 (cells x37 (Pk_c p) :: ownS encPk 26 sl qs :: old h0 :: R2) := hs10
    clear hs10 hs9
    have e1 : p.1 = 3 := congrArg Prod.fst hg1
    have e2 : p.2.2.2.2.2.2.1 = bytesOfInts [IntKind.wrap .u8 (i : Int)] := congrArg Prod.snd hg1
    refine bind_cut (fun x h' => sat h' (ownS encPk 26 sl qs :: old h0 :: R2) ∧ x.1 = false) ?_ ?_
    · refine ⟨p.1, by rw [add_own]; exact hs10'.cell 0, ?_⟩
      (try dsimp only); rw [HM.ite_apply, if_neg (by rw [e1]; decide)]
      refine ⟨p.2.2.2.2.2.2.1, by rw [add_own]; exact hs10'.cell 6, ?_⟩
      refine new_cells hs10' fun x40 h11 hs11 => ?_
      refine ⟨[IntKind.wrap .u8 (i : Int)], hs11.reads rfl, ?_⟩
      exact ⟨hs11.drop.drop, by simp [e2]⟩
    rintro ⟨x, ⟨⟩⟩ h11 ⟨hs11, hx⟩
    simp only at hx
    subst hx
    rw [HM.ite_apply, if_neg (by simp)]
    simp only [Sum.elim_inl, Sum.elim_inr, HM.pure_apply]
    exact .mk (i + 1) (by omega) ⟨by omega, next, hs11⟩
  · rw [if_neg (by omega)]
    simp only [Sum.elim_inl, Sum.elim_inr, HM.pure_apply]
    have : (((sl.len : Nat) : Int) == (n : Int)) = true := by simp [hsl, hql]
    rw [this]
    exact hq h8 _ hs8.p1

end Go.Proofs.YtnmighfcpeifeaaDoor
