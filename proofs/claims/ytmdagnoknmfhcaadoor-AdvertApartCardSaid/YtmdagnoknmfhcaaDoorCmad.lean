/-
  Cmad: contracts: the adverts that law 21 makes of plain data, and compares (written by tools/gen_mad.py).
-/
import Derived.Test.YtmdagnoknmfhcaaDoorCget
namespace Go.Proofs.YtmdagnoknmfhcaaDoor
open Go.H Go.Proofs Go.Lib
set_option linter.unusedSimpArgs false
set_option linter.unusedVariables false
set_option synthInstance.maxSize 100000
set_option synthInstance.maxHeartbeats 400000
set_option maxRecDepth 100000

variable {h h0 : Heap} {R : List Asn}

theorem loadN_part {b o : Nat} {cs : Array Value} {ts : List Tag} (x : Tup ts) {Q : Tup ts → Heap → Prop} (hs : sat h (cells b cs :: R)) (he : Tup.vals ts x = (cs.toList.drop o).take (Tup.vals ts x).length) (hq : Q x h) : HM.loadN ts ⟨b, o, none⟩ h Q := by
  refine loadN_of x (fun i v hv => ?_) hq
  have hv' : ((cs.toList.drop o).take (Tup.vals ts x).length)[i]? = some v := he ▸ hv
  rw [List.getElem?_take, List.getElem?_drop] at hv'
  split at hv'
  · rw [Addr.add_at, hs.cell]
    simpa using hv'
  · cases hv'

theorem rule_spec {r : RuleT} (hs : sat h R) {Q : Value → Heap → Prop} (hq : ∀ h', sat h' R → Q (.tuple #[vR r, vR r]) h') : HCalls Tryd.prog 48 #[vR r] h Q := by
  refine law21_rule_calls r h Q ?_
  unfold law21_rule
  refine new_cells hs fun x1 h1001 hs1001 => ?_
  refine new_cells hs1001 fun x2 h1002 hs1002 => ?_
  refine new_cells hs1002 fun x3 h1003 hs1003 => ?_
  refine ⟨r.1, by rw [add_own]; exact hs1003.p2.cell 0, ?_⟩
  refine ⟨r.2.1, by rw [add_own]; exact hs1003.p2.cell 1, ?_⟩
  refine ⟨r.2.2.1, by rw [add_own]; exact hs1003.p2.cell 2, ?_⟩
  refine ⟨r.2.2.2.1, by rw [add_own]; exact hs1003.p2.cell 3, ?_⟩
  refine ⟨r.2.2.2.2.1, by rw [add_own]; exact hs1003.p2.cell 4, ?_⟩
  refine loadN_cells (ts := [.str, .int .i64, .int .i64, .str, .str]) (r.1, r.2.1, r.2.2.1, r.2.2.2.1, r.2.2.2.2.1, ()) hs1003.p2 rfl ?_
  (try dsimp only); rw [HM.bind_apply]
  refine storeN_all' hs1003.p1 rfl rfl fun h1004 hs1004 => ?_
  refine loadN_cells (ts := [.str, .int .i64, .int .i64, .str, .str]) (r.1, r.2.1, r.2.2.1, r.2.2.2.1, r.2.2.2.2.1, ()) hs1004.p2 rfl ?_
  refine ⟨rfl, ?_⟩
  (try dsimp only); rw [HM.bind_apply]
  refine storeN_all' hs1004.p1 rfl rfl fun h1005 hs1005 => ?_
  refine loadN_cells (ts := [.str, .int .i64, .int .i64, .str, .str]) (r.1, r.2.1, r.2.2.1, r.2.2.2.1, r.2.2.2.2.1, ()) hs1005.p1 rfl ?_
  refine loadN_cells (ts := [.str, .int .i64, .int .i64, .str, .str]) (r.1, r.2.1, r.2.2.1, r.2.2.2.1, r.2.2.2.2.1, ()) hs1005 rfl ?_
  exact hq _ hs1005.drop.drop.drop

/-- the part of an advert that the law takes -/
def cutA (o v : Int) (fs : List ByteArray) (ls : List LinkT) : AdvT := ⟨o, v, fs.take 70, ls.take 20⟩
theorem take_cut {α : Type} (l : List α) (n : Nat) : l.take (min n l.length) = l.take n := by
  by_cases hn : n ≤ l.length
  · rw [Nat.min_eq_left hn]
  · rw [Nat.min_eq_right (by omega), List.take_length, List.take_of_length_le (by omega)]

set_option maxHeartbeats 4000000 in
theorem made_spec {o v : Int} {sf sl : Slc} {fs : List ByteArray} {ls : List LinkT} (hs : sat h (old h0 :: R)) (hf : RowAt eS 1 h0 sf fs) (hl : RowAt encK 6 h0 sl ls) {Q : Value → Heap → Prop}
    (hq : ∀ h' s1 k1 s2 k2, sat h' (ownS eS 1 s1 (fs.take 70) :: ownS encK 6 k1 (ls.take 20) :: ownS eS 1 s2 (fs.take 70) :: ownS encK 6 k2 (ls.take 20) :: old h0 :: R) → Q (.tuple #[vA (cutA o v fs ls) s1 k1, vA (cutA o v fs ls) s2 k2]) h') :
    HCalls Tryd.prog 22 #[.agg #[.int .i64 o, .int .i64 v, .slice sf.a sf.len sf.cap, .slice sl.a sl.len sl.cap]] h Q := by
  refine law21_made_calls (o, v, sf, sl, ()) h Q ?_
  unfold law21_made
  have hlf := hf.1
  have hll := hl.1
  refine new_cells hs fun x1 h1001 hs1001 => ?_
  refine new_cells hs1001 fun x2 h1002 hs1002 => ?_
  refine new_cells hs1002 fun x3 h1003 hs1003 => ?_
  refine ⟨o, by rw [add_own]; exact hs1003.p2.cell 0, ?_⟩
  refine ⟨v, by rw [add_own]; exact hs1003.p2.cell 1, ?_⟩
  refine new_cells hs1003 fun x6 h1004 hs1004 => ?_
  (try dsimp only); rw [HM.bind_apply]
  refine storeN_all' hs1004 rfl rfl fun h1005 hs1005 => ?_
  refine ⟨o, by rw [add_own]; exact hs1005.p3.cell 0, ?_⟩
  refine ⟨v, by rw [add_own]; exact hs1005.p3.cell 1, ?_⟩
  refine new_cells hs1005 fun x9 h1006 hs1006 => ?_
  (try dsimp only); rw [HM.bind_apply]
  refine storeN_all' hs1006 rfl rfl fun h1007 hs1007 => ?_
  refine ⟨sf, by rw [add_own]; exact hs1007.p4.cell 2, ?_⟩
  refine ⟨sf, by rw [add_own]; exact hs1007.p4.cell 2, ?_⟩
  (try dsimp only); rw [HM.bind_apply]
  rw [show (if (70 : Int) < ((sf.len : Nat) : Int) then (70 : Int) else ((sf.len : Nat) : Int)) = ((min 70 fs.length : Nat) : Int) by rw [hlf]; split <;> omega]
  refine slice_row hf (n := min 70 fs.length) (Nat.min_le_right ..) fun c1 hr1 => ?_
  rw [take_cut] at hr1
  obtain ⟨ff, hff⟩ : ∃ l, fs.take 70 = l := ⟨_, rfl⟩
  rw [hff] at hr1 hq
  have hn1 : ff.length ≤ 70 := by rw [← hff, List.length_take]; omega
  have hl1 : c1.len = ff.length := hr1.1
  have hz0 := (hs1007.re [1, 0, 4, 3, 2, 5])
  have hz1 := (ownS_nil (enc := eS) (size := 1) (ownS_nil (enc := eS) (size := 1) hz0)).re [2, 3, 0, 1]
  (try dsimp only); rw [HM.bind_apply]
  refine loop_gx (γ := Nat × Slc × Slc) (hb := fun s => by
      repeat' with_reducible first
        | refine @mono_bind _ _ _ _ ?_ (fun _ => ?_)
        | refine @mono_ite _ _ _ _ ?_ ?_
        | refine @mono_both _ _ _ ?_ ?_
        | refine @mono_req _ _ _ ?_
      all_goals infer_instance)
    (fun g c h' => c.1 = (((ff.length - g.1 : Nat)) : Int) ∧ g.1 ≤ ff.length ∧
      sat h' (cells x6 #[.int .i64 o, .int .i64 v, .slice g.2.1.a g.2.1.len g.2.1.cap, .slice none 0 0] :: cells x9 #[.int .i64 o, .int .i64 v, .slice g.2.2.a g.2.2.len g.2.2.cap, .slice none 0 0] :: ownS eS 1 g.2.1 (ff.take (ff.length - g.1)) :: ownS eS 1 g.2.2 (ff.take (ff.length - g.1)) :: cells x1 #[.int .i64 o, .int .i64 v, .slice sf.a sf.len sf.cap, .slice sl.a sl.len sl.cap] :: cells x2 zA :: cells x3 zA :: old h0 :: R)) (fun g => g.1) (ff.length, ⟨none, 0, 0⟩, ⟨none, 0, 0⟩)
    ⟨by simp, Nat.le_refl _, by simp only [Nat.sub_self, List.take_zero]; exact hz1⟩ ?_
  clear hz1 hz0
  rintro ⟨g, sa, sb⟩ ⟨c, ⟨⟩⟩ hh ⟨hc, hg, hw⟩
  simp only at hc hg hw
  subst hc
  (try dsimp only); rw [HM.ite_apply]
  by_cases hi : ff.length - g < ff.length
  · rw [if_pos (by simp only [decide_eq_true_eq, hl1]; omega)]
    obtain ⟨f, hfx⟩ : ∃ f, ff[ff.length - g]? = some f := ⟨_, List.getElem?_eq_getElem hi⟩
    have htake : ff.take (ff.length - (g - 1)) = ff.take (ff.length - g) ++ [f] := by
      rw [show ff.length - (g - 1) = ff.length - g + 1 by omega, List.take_add_one, hfx]; rfl
    have hlen : (ff.take (ff.length - g)).length = ff.length - g := by rw [List.length_take]; omega
    obtain ⟨done, hdone⟩ : ∃ l, ff.take (ff.length - g) = l := ⟨_, rfl⟩
    rw [hdone] at hw htake hlen
    (try dsimp only); rw [HM.bind_apply]
    refine idx_row hr1 hfx fun p hp => ?_
    refine ⟨f, by have := hp 0 (.string f) rfl; rw [Go.H.add_zero] at this; exact (hw.re [7, 0, 1, 2, 3, 4, 5, 6]).old_cell this, ?_⟩
    refine ⟨sa, by rw [add_own]; exact hw.cell 2, ?_⟩
    refine ⟨sb, by rw [add_own]; exact hw.p1.cell 2, ?_⟩
    refine ⟨?_, ?_⟩
    · refine new_cells hw fun x19 h2001 hs2001 => ?_
      refine ⟨sb, by rw [add_own]; exact hs2001.p2.cell 2, ?_⟩
      refine ⟨rfl, ?_⟩
      refine ⟨sa, by rw [add_own]; exact hs2001.p1.cell 2, ?_⟩
      refine ⟨rfl, ?_⟩
      refine ⟨?_, ?_⟩
      · (try dsimp only); rw [HM.bind_apply]
        refine app_one (enc := eS) (x := f) eS_len eS_cell rfl (hs2001.re [0, 3, 1, 2]) (by decide) (by decide) (by rw [hlen]; omega) fun s2002 h2002 hs2002 => ?_
        refine ⟨sb, by rw [add_own]; exact hs2002.p2.cell 2, ?_⟩
        refine ⟨rfl, ?_⟩
        refine new_cells hs2002 fun x24 h2003 hs2003 => ?_
        refine ⟨sb, by rw [add_own]; exact hs2003.p3.cell 2, ?_⟩
        refine ⟨rfl, ?_⟩
        refine ⟨sa, by rw [add_own]; exact hs2003.p2.cell 2, ?_⟩
        refine ⟨rfl, ?_⟩
        (try dsimp only); rw [HM.bind_apply]
        refine app_one (enc := eS) (x := f) eS_len eS_cell rfl (hs2003.re [0, 4, 1, 2, 3]) (by decide) (by decide) (by rw [hlen]; omega) fun s2004 h2004 hs2004 => ?_
        (try dsimp only); rw [HM.bind_apply, add_own]
        refine store1_cells hs2004.p2 (by simp) rfl fun h2005 hs2005 => ?_
        (try dsimp only); rw [HM.bind_apply, add_own]
        refine store1_cells hs2005.p3 (by simp) rfl fun h2006 hs2006 => ?_
        simp only [Sum.elim_inl, Sum.elim_inr, HM.pure_apply]
        refine .mk (g - 1, s2002, s2004) (by simp only; omega) ⟨by simp only; rw [wrap_id (by omega) (by omega)]; omega, by simp only; omega, ?_⟩
        simp only [htake]
        exact (hs2006.re [1, 0, 3, 2, 4, 5, 6, 7])
      · refine new_cells hs2001 fun x28 h2502 hs2502 => ?_
        refine ⟨sb, by rw [add_own]; exact hs2502.p3.cell 2, ?_⟩
        refine ⟨rfl, ?_⟩
        refine ⟨sa, by rw [add_own]; exact hs2502.p2.cell 2, ?_⟩
        refine ⟨rfl, ?_⟩
        (try dsimp only); rw [HM.bind_apply]
        refine app_one (enc := eS) (x := f) eS_len eS_cell rfl (hs2502.re [1, 4, 0, 2, 3]) (by decide) (by decide) (by rw [hlen]; omega) fun s2503 h2503 hs2503 => ?_
        refine ⟨sb, by rw [add_own]; exact hs2503.p3.cell 2, ?_⟩
        refine ⟨rfl, ?_⟩
        (try dsimp only); rw [HM.bind_apply]
        refine app_one (enc := eS) (x := f) eS_len eS_cell rfl (hs2503.re [1, 4, 0, 2, 3]) (by decide) (by decide) (by rw [hlen]; omega) fun s2504 h2504 hs2504 => ?_
        (try dsimp only); rw [HM.bind_apply, add_own]
        refine store1_cells hs2504.p2 (by simp) rfl fun h2505 hs2505 => ?_
        (try dsimp only); rw [HM.bind_apply, add_own]
        refine store1_cells hs2505.p3 (by simp) rfl fun h2506 hs2506 => ?_
        simp only [Sum.elim_inl, Sum.elim_inr, HM.pure_apply]
        refine .mk (g - 1, s2503, s2504) (by simp only; omega) ⟨by simp only; rw [wrap_id (by omega) (by omega)]; omega, by simp only; omega, ?_⟩
        simp only [htake]
        exact (hs2506.re [1, 0, 3, 2, 4, 5, 6, 7])
    · refine new_cells hw fun x34 h2501 hs2501 => ?_
      refine ⟨sb, by rw [add_own]; exact hs2501.p2.cell 2, ?_⟩
      refine ⟨rfl, ?_⟩
      refine ⟨sa, by rw [add_own]; exact hs2501.p1.cell 2, ?_⟩
      refine ⟨rfl, ?_⟩
      refine new_cells hs2501 fun x37 h2502 hs2502 => ?_
      refine ⟨sb, by rw [add_own]; exact hs2502.p3.cell 2, ?_⟩
      refine ⟨rfl, ?_⟩
      refine ⟨sa, by rw [add_own]; exact hs2502.p2.cell 2, ?_⟩
      refine ⟨rfl, ?_⟩
      (try dsimp only); rw [HM.bind_apply]
      refine app_one (enc := eS) (x := f) eS_len eS_cell rfl (hs2502.re [0, 4, 1, 2, 3]) (by decide) (by decide) (by rw [hlen]; omega) fun s2503 h2503 hs2503 => ?_
      refine ⟨sb, by rw [add_own]; exact hs2503.p3.cell 2, ?_⟩
      refine ⟨rfl, ?_⟩
      (try dsimp only); rw [HM.bind_apply]
      refine app_one (enc := eS) (x := f) eS_len eS_cell rfl (hs2503.re [1, 4, 0, 2, 3]) (by decide) (by decide) (by rw [hlen]; omega) fun s2504 h2504 hs2504 => ?_
      (try dsimp only); rw [HM.bind_apply, add_own]
      refine store1_cells hs2504.p2 (by simp) rfl fun h2505 hs2505 => ?_
      (try dsimp only); rw [HM.bind_apply, add_own]
      refine store1_cells hs2505.p3 (by simp) rfl fun h2506 hs2506 => ?_
      simp only [Sum.elim_inl, Sum.elim_inr, HM.pure_apply]
      refine .mk (g - 1, s2503, s2504) (by simp only; omega) ⟨by simp only; rw [wrap_id (by omega) (by omega)]; omega, by simp only; omega, ?_⟩
      simp only [htake]
      exact (hs2506.re [1, 0, 3, 2, 4, 5, 6, 7])
  rw [if_neg (by simp only [decide_eq_true_eq, hl1]; omega)]
  simp only [Sum.elim_inl, Sum.elim_inr, HM.pure_apply]
  rw [List.take_of_length_le (by omega)] at hw
  clear hi hg
  refine ⟨sl, by rw [add_own]; exact hw.p4.cell 3, ?_⟩
  refine ⟨sl, by rw [add_own]; exact hw.p4.cell 3, ?_⟩
  (try dsimp only); rw [HM.bind_apply]
  rw [show (if (20 : Int) < ((sl.len : Nat) : Int) then (20 : Int) else ((sl.len : Nat) : Int)) = ((min 20 ls.length : Nat) : Int) by rw [hll]; split <;> omega]
  refine slice_row hl (n := min 20 ls.length) (Nat.min_le_right ..) fun c2 hr2 => ?_
  rw [take_cut] at hr2
  obtain ⟨kk, hkk⟩ : ∃ l, ls.take 20 = l := ⟨_, rfl⟩
  rw [hkk] at hr2 hq
  have hn2 : kk.length ≤ 20 := by rw [← hkk, List.length_take]; omega
  have hl2 : c2.len = kk.length := hr2.1
  have hz1 := (ownS_nil (enc := encK) (size := 6) (ownS_nil (enc := encK) (size := 6) hw)).re [2, 3, 0, 1]
  (try dsimp only); rw [HM.bind_apply]
  refine loop_gx (γ := Nat × Slc × Slc) (hb := fun s => by
      repeat' with_reducible first
        | refine @mono_bind _ _ _ _ ?_ (fun _ => ?_)
        | refine @mono_ite _ _ _ _ ?_ ?_
        | refine @mono_both _ _ _ ?_ ?_
        | refine @mono_req _ _ _ ?_
      all_goals infer_instance)
    (fun g c h' => c.1 = (((kk.length - g.1 : Nat)) : Int) ∧ g.1 ≤ kk.length ∧
      sat h' (cells x6 #[.int .i64 o, .int .i64 v, .slice sa.a sa.len sa.cap, .slice g.2.1.a g.2.1.len g.2.1.cap] :: cells x9 #[.int .i64 o, .int .i64 v, .slice sb.a sb.len sb.cap, .slice g.2.2.a g.2.2.len g.2.2.cap] :: ownS encK 6 g.2.1 (kk.take (kk.length - g.1)) :: ownS encK 6 g.2.2 (kk.take (kk.length - g.1)) :: ownS eS 1 sa ff :: ownS eS 1 sb ff :: cells x1 #[.int .i64 o, .int .i64 v, .slice sf.a sf.len sf.cap, .slice sl.a sl.len sl.cap] :: cells x2 zA :: cells x3 zA :: old h0 :: R)) (fun g => g.1) (kk.length, ⟨none, 0, 0⟩, ⟨none, 0, 0⟩)
    ⟨by simp, Nat.le_refl _, by simp only [Nat.sub_self, List.take_zero]; exact hz1⟩ ?_
  clear hz1 hw
  rintro ⟨g, ka, kb⟩ ⟨c, ⟨⟩⟩ hh ⟨hc, hg, hw⟩
  simp only at hc hg hw
  subst hc
  (try dsimp only); rw [HM.ite_apply]
  by_cases hi : kk.length - g < kk.length
  · rw [if_pos (by simp only [decide_eq_true_eq, hl2]; omega)]
    obtain ⟨l, hlx⟩ : ∃ l, kk[kk.length - g]? = some l := ⟨_, List.getElem?_eq_getElem hi⟩
    have htake : kk.take (kk.length - (g - 1)) = kk.take (kk.length - g) ++ [l] := by
      rw [show kk.length - (g - 1) = kk.length - g + 1 by omega, List.take_add_one, hlx]; rfl
    have hlen : (kk.take (kk.length - g)).length = kk.length - g := by rw [List.length_take]; omega
    obtain ⟨done, hdone⟩ : ∃ l, kk.take (kk.length - g) = l := ⟨_, rfl⟩
    rw [hdone] at hw htake hlen
    (try dsimp only); rw [HM.bind_apply]
    refine idx_row hr2 hlx fun p hp => ?_
    refine load_K (fun j v hv => (hw.re [9, 0, 1, 2, 3, 4, 5, 6, 7, 8]).old_cell (hp j v hv)) ?_
    refine new_cells hw fun x50 h4001 hs4001 => ?_
    (try dsimp only); rw [HM.bind_apply]
    refine storeN_all' hs4001 rfl rfl fun h4002 hs4002 => ?_
    (try dsimp only); rw [HM.bind_apply, add_own]
    refine loadN_part (ts := [.str, .int .i64, .int .i64, .str, .str]) (o := 1) (l.2.1, l.2.2.1, l.2.2.2.1, l.2.2.2.2.1, l.2.2.2.2.2.1, ()) hs4002 rfl ?_
    refine bind_callN (rule_spec (r := (l.2.1, l.2.2.1, l.2.2.2.1, l.2.2.2.2.1, l.2.2.2.2.2.1, ())) hs4002 fun h4003 hs4003 => ⟨((l.2.1, l.2.2.1, l.2.2.2.1, l.2.2.2.2.1, l.2.2.2.2.2.1, ()), (l.2.1, l.2.2.1, l.2.2.2.1, l.2.2.2.2.1, l.2.2.2.2.2.1, ()), ()), rfl, ?_⟩)
    refine new_cells hs4003 fun x53 h4004 hs4004 => ?_
    refine new_cells hs4004 fun x54 h4005 hs4005 => ?_
    (try dsimp only); rw [HM.bind_apply]
    refine storeN_all' hs4005.p1 rfl rfl fun h4006 hs4006 => ?_
    (try dsimp only); rw [HM.bind_apply]
    refine storeN_all' hs4006.p1 rfl rfl fun h4007 hs4007 => ?_
    refine ⟨ka, by rw [add_own]; exact hs4007.p3.cell 3, ?_⟩
    refine ⟨l.1, by rw [add_own]; exact hs4007.p2.cell 0, ?_⟩
    refine loadN_cells (ts := [.str, .int .i64, .int .i64, .str, .str]) (l.2.1, l.2.2.1, l.2.2.2.1, l.2.2.2.2.1, l.2.2.2.2.2.1, ()) hs4007.p1 rfl ?_
    refine ⟨kb, by rw [add_own]; exact hs4007.p4.cell 3, ?_⟩
    refine ⟨l.1, by rw [add_own]; exact hs4007.p2.cell 0, ?_⟩
    refine loadN_cells (ts := [.str, .int .i64, .int .i64, .str, .str]) (l.2.1, l.2.2.1, l.2.2.2.1, l.2.2.2.2.1, l.2.2.2.2.2.1, ()) hs4007 rfl ?_
    refine ⟨?_, ?_⟩
    · refine new_cells hs4007 fun x61 h4008 hs4008 => ?_
      refine loadN_cells (ts := [.str, .int .i64, .int .i64, .str, .str]) (l.2.1, l.2.2.1, l.2.2.2.1, l.2.2.2.2.1, l.2.2.2.2.2.1, ()) hs4008.p1 rfl ?_
      refine ⟨rfl, ?_⟩
      refine ⟨l.1, by rw [add_own]; exact hs4008.p3.cell 0, ?_⟩
      refine ⟨rfl, ?_⟩
      refine ⟨kb, by rw [add_own]; exact hs4008.p5.cell 3, ?_⟩
      refine ⟨rfl, ?_⟩
      refine ⟨ka, by rw [add_own]; exact hs4008.p4.cell 3, ?_⟩
      refine ⟨rfl, ?_⟩
      refine ⟨?_, ?_⟩
      · (try dsimp only); rw [HM.bind_apply]
        refine app_one (enc := encK) (x := (l.1, l.2.1, l.2.2.1, l.2.2.2.1, l.2.2.2.2.1, l.2.2.2.2.2.1, ())) eK_len eK_cell rfl (hs4008.re [0, 6, 1, 2, 3, 4, 5]) (by decide) (by decide) (by rw [hlen]; omega) fun s4009 h4009 hs4009 => ?_
        refine loadN_cells (ts := [.str, .int .i64, .int .i64, .str, .str]) (l.2.1, l.2.2.1, l.2.2.2.1, l.2.2.2.2.1, l.2.2.2.2.2.1, ()) hs4009.p1 rfl ?_
        refine ⟨rfl, ?_⟩
        refine ⟨l.1, by rw [add_own]; exact hs4009.p3.cell 0, ?_⟩
        refine ⟨rfl, ?_⟩
        refine ⟨kb, by rw [add_own]; exact hs4009.p5.cell 3, ?_⟩
        refine ⟨rfl, ?_⟩
        refine new_cells hs4009 fun x70 h4010 hs4010 => ?_
        refine ⟨kb, by rw [add_own]; exact (hs4010.re [6, 0, 1, 2, 3, 4, 5]).cell 3, ?_⟩
        refine ⟨rfl, ?_⟩
        refine loadN_cells (ts := [.str, .int .i64, .int .i64, .str, .str]) (l.2.1, l.2.2.1, l.2.2.2.1, l.2.2.2.2.1, l.2.2.2.2.2.1, ()) hs4010.p3 rfl ?_
        refine ⟨rfl, ?_⟩
        refine ⟨l.1, by rw [add_own]; exact hs4010.p4.cell 0, ?_⟩
        refine ⟨rfl, ?_⟩
        refine ⟨ka, by rw [add_own]; exact hs4010.p5.cell 3, ?_⟩
        refine ⟨rfl, ?_⟩
        (try dsimp only); rw [HM.bind_apply]
        refine app_one (enc := encK) (x := (l.1, l.2.1, l.2.2.1, l.2.2.2.1, l.2.2.2.2.1, l.2.2.2.2.2.1, ())) eK_len eK_cell rfl (hs4010.re [0, 7, 1, 2, 3, 4, 5, 6]) (by decide) (by decide) (by rw [hlen]; omega) fun s4011 h4011 hs4011 => ?_
        (try dsimp only); rw [HM.bind_apply, add_own]
        refine store1_cells hs4011.p5 (by simp) rfl fun h4012 hs4012 => ?_
        (try dsimp only); rw [HM.bind_apply, add_own]
        refine store1_cells (hs4012.re [6, 0, 1, 2, 3, 4, 5]) (by simp) rfl fun h4013 hs4013 => ?_
        simp only [Sum.elim_inl, Sum.elim_inr, HM.pure_apply]
        refine .mk (g - 1, s4009, s4011) (by simp only; omega) ⟨by simp only; rw [wrap_id (by omega) (by omega)]; omega, by simp only; omega, ?_⟩
        simp only [htake]
        exact (hs4013.re [4, 5, 6, 1, 0, 3, 2, 7, 8, 9, 10, 11, 12]).drop.drop.drop
      · refine new_cells hs4008 fun x76 h4509 hs4509 => ?_
        refine ⟨kb, by rw [add_own]; exact (hs4509.re [6, 0, 1, 2, 3, 4, 5]).cell 3, ?_⟩
        refine ⟨rfl, ?_⟩
        refine loadN_cells (ts := [.str, .int .i64, .int .i64, .str, .str]) (l.2.1, l.2.2.1, l.2.2.2.1, l.2.2.2.2.1, l.2.2.2.2.2.1, ()) hs4509.p3 rfl ?_
        refine ⟨rfl, ?_⟩
        refine ⟨l.1, by rw [add_own]; exact hs4509.p4.cell 0, ?_⟩
        refine ⟨rfl, ?_⟩
        refine ⟨ka, by rw [add_own]; exact hs4509.p5.cell 3, ?_⟩
        refine ⟨rfl, ?_⟩
        (try dsimp only); rw [HM.bind_apply]
        refine app_one (enc := encK) (x := (l.1, l.2.1, l.2.2.1, l.2.2.2.1, l.2.2.2.2.1, l.2.2.2.2.2.1, ())) eK_len eK_cell rfl (hs4509.re [1, 7, 0, 2, 3, 4, 5, 6]) (by decide) (by decide) (by rw [hlen]; omega) fun s4510 h4510 hs4510 => ?_
        refine loadN_cells (ts := [.str, .int .i64, .int .i64, .str, .str]) (l.2.1, l.2.2.1, l.2.2.2.1, l.2.2.2.2.1, l.2.2.2.2.2.1, ()) hs4510.p2 rfl ?_
        refine ⟨rfl, ?_⟩
        refine ⟨l.1, by rw [add_own]; exact hs4510.p4.cell 0, ?_⟩
        refine ⟨rfl, ?_⟩
        refine ⟨kb, by rw [add_own]; exact (hs4510.re [6, 0, 1, 2, 3, 4, 5]).cell 3, ?_⟩
        refine ⟨rfl, ?_⟩
        (try dsimp only); rw [HM.bind_apply]
        refine app_one (enc := encK) (x := (l.1, l.2.1, l.2.2.1, l.2.2.2.1, l.2.2.2.2.1, l.2.2.2.2.2.1, ())) eK_len eK_cell rfl (hs4510.re [1, 7, 0, 2, 3, 4, 5, 6]) (by decide) (by decide) (by rw [hlen]; omega) fun s4511 h4511 hs4511 => ?_
        (try dsimp only); rw [HM.bind_apply, add_own]
        refine store1_cells hs4511.p5 (by simp) rfl fun h4512 hs4512 => ?_
        (try dsimp only); rw [HM.bind_apply, add_own]
        refine store1_cells (hs4512.re [6, 0, 1, 2, 3, 4, 5]) (by simp) rfl fun h4513 hs4513 => ?_
        simp only [Sum.elim_inl, Sum.elim_inr, HM.pure_apply]
        refine .mk (g - 1, s4510, s4511) (by simp only; omega) ⟨by simp only; rw [wrap_id (by omega) (by omega)]; omega, by simp only; omega, ?_⟩
        simp only [htake]
        exact (hs4513.re [4, 5, 6, 1, 0, 3, 2, 7, 8, 9, 10, 11, 12]).drop.drop.drop
    · refine new_cells hs4007 fun x86 h4508 hs4508 => ?_
      refine ⟨kb, by rw [add_own]; exact hs4508.p5.cell 3, ?_⟩
      refine ⟨rfl, ?_⟩
      refine loadN_cells (ts := [.str, .int .i64, .int .i64, .str, .str]) (l.2.1, l.2.2.1, l.2.2.2.1, l.2.2.2.2.1, l.2.2.2.2.2.1, ()) hs4508.p2 rfl ?_
      refine ⟨rfl, ?_⟩
      refine ⟨l.1, by rw [add_own]; exact hs4508.p3.cell 0, ?_⟩
      refine ⟨rfl, ?_⟩
      refine ⟨ka, by rw [add_own]; exact hs4508.p4.cell 3, ?_⟩
      refine ⟨rfl, ?_⟩
      refine new_cells hs4508 fun x91 h4509 hs4509 => ?_
      refine loadN_cells (ts := [.str, .int .i64, .int .i64, .str, .str]) (l.2.1, l.2.2.1, l.2.2.2.1, l.2.2.2.2.1, l.2.2.2.2.2.1, ()) hs4509.p2 rfl ?_
      refine ⟨rfl, ?_⟩
      refine ⟨l.1, by rw [add_own]; exact hs4509.p4.cell 0, ?_⟩
      refine ⟨rfl, ?_⟩
      refine ⟨kb, by rw [add_own]; exact (hs4509.re [6, 0, 1, 2, 3, 4, 5]).cell 3, ?_⟩
      refine ⟨rfl, ?_⟩
      refine ⟨ka, by rw [add_own]; exact hs4509.p5.cell 3, ?_⟩
      refine ⟨rfl, ?_⟩
      (try dsimp only); rw [HM.bind_apply]
      refine app_one (enc := encK) (x := (l.1, l.2.1, l.2.2.1, l.2.2.2.1, l.2.2.2.2.1, l.2.2.2.2.2.1, ())) eK_len eK_cell rfl (hs4509.re [0, 7, 1, 2, 3, 4, 5, 6]) (by decide) (by decide) (by rw [hlen]; omega) fun s4510 h4510 hs4510 => ?_
      refine loadN_cells (ts := [.str, .int .i64, .int .i64, .str, .str]) (l.2.1, l.2.2.1, l.2.2.2.1, l.2.2.2.2.1, l.2.2.2.2.2.1, ()) hs4510.p2 rfl ?_
      refine ⟨rfl, ?_⟩
      refine ⟨l.1, by rw [add_own]; exact hs4510.p4.cell 0, ?_⟩
      refine ⟨rfl, ?_⟩
      refine ⟨kb, by rw [add_own]; exact (hs4510.re [6, 0, 1, 2, 3, 4, 5]).cell 3, ?_⟩
      refine ⟨rfl, ?_⟩
      (try dsimp only); rw [HM.bind_apply]
      refine app_one (enc := encK) (x := (l.1, l.2.1, l.2.2.1, l.2.2.2.1, l.2.2.2.2.1, l.2.2.2.2.2.1, ())) eK_len eK_cell rfl (hs4510.re [1, 7, 0, 2, 3, 4, 5, 6]) (by decide) (by decide) (by rw [hlen]; omega) fun s4511 h4511 hs4511 => ?_
      (try dsimp only); rw [HM.bind_apply, add_own]
      refine store1_cells hs4511.p5 (by simp) rfl fun h4512 hs4512 => ?_
      (try dsimp only); rw [HM.bind_apply, add_own]
      refine store1_cells (hs4512.re [6, 0, 1, 2, 3, 4, 5]) (by simp) rfl fun h4513 hs4513 => ?_
      simp only [Sum.elim_inl, Sum.elim_inr, HM.pure_apply]
      refine .mk (g - 1, s4510, s4511) (by simp only; omega) ⟨by simp only; rw [wrap_id (by omega) (by omega)]; omega, by simp only; omega, ?_⟩
      simp only [htake]
      exact (hs4513.re [4, 5, 6, 1, 0, 3, 2, 7, 8, 9, 10, 11, 12]).drop.drop.drop
  rw [if_neg (by simp only [decide_eq_true_eq, hl2]; omega)]
  simp only [Sum.elim_inl, Sum.elim_inr, HM.pure_apply]
  rw [List.take_of_length_le (by omega)] at hw
  refine loadN_cells (ts := [.int .i64, .int .i64, .slc, .slc]) (o, v, sa, ka, ()) hw rfl ?_
  refine loadN_cells (ts := [.int .i64, .int .i64, .slc, .slc]) (o, v, sb, kb, ()) hw.p1 rfl ?_
  (try dsimp only); rw [HM.bind_apply]
  refine storeN_all' (hw.re [7, 0, 1, 2, 3, 4, 5, 6]) rfl rfl fun h6001 hs6001 => ?_
  refine loadN_cells (ts := [.int .i64, .int .i64, .slc, .slc]) (o, v, sb, kb, ()) hs6001.p2 rfl ?_
  refine ⟨rfl, ?_⟩
  (try dsimp only); rw [HM.bind_apply]
  refine storeN_all' (hs6001.re [8, 0, 1, 2, 3, 4, 5, 6, 7]) rfl rfl fun h6002 hs6002 => ?_
  refine loadN_cells (ts := [.int .i64, .int .i64, .slc, .slc]) (o, v, sa, ka, ()) hs6002.p1 rfl ?_
  refine loadN_cells (ts := [.int .i64, .int .i64, .slc, .slc]) (o, v, sb, kb, ()) hs6002 rfl ?_
  have hfin := hq _ sa ka sb kb (hs6002.re [0, 1, 2, 3, 8, 6, 4, 7, 5, 9]).drop.drop.drop.drop.drop
  unfold cutA at hfin
  exact hfin

def sameA (a b : AdvT) : Bool := decide (a.o = b.o ∧ a.v = b.v ∧ a.fs = b.fs ∧ a.ls = b.ls)

theorem cmp_links {a b : Nat} {l m : LinkT} (ca : ∀ i v, (encK l)[i]? = some v → cellH h ⟨a, i, none⟩ = some v) (cb : ∀ i v, (encK m)[i]? = some v → cellH h ⟨b, i, none⟩ = some v) {Q : Bool × Unit → Heap → Prop} (hq : Q (decide (l ≠ m), ()) h) : (HM.bind (α := Int) (HM.load1 (.int .i64) (Addr.add ⟨a, 0, none⟩ 0)) fun (x42 : Int) =>
  HM.bind (α := Int) (HM.load1 (.int .i64) (Addr.add ⟨b, 0, none⟩ 0)) fun (x43 : Int) =>
  HM.ite (!(x42 == x43)) (
  HM.pure (true, ())) (
  HM.bind (α := ByteArray) (HM.load1 .str (Addr.add (Addr.add ⟨a, 0, none⟩ 1) 0)) fun (x44 : ByteArray) =>
  HM.bind (α := ByteArray) (HM.load1 .str (Addr.add (Addr.add ⟨b, 0, none⟩ 1) 0)) fun (x45 : ByteArray) =>
  HM.ite (!(decide (x44 = x45))) (
  HM.pure (true, ())) (
  HM.bind (α := Int) (HM.load1 (.int .i64) (Addr.add (Addr.add ⟨a, 0, none⟩ 1) 1)) fun (x46 : Int) =>
  HM.bind (α := Int) (HM.load1 (.int .i64) (Addr.add (Addr.add ⟨b, 0, none⟩ 1) 1)) fun (x47 : Int) =>
  HM.ite (!(x46 == x47)) (
  HM.pure (true, ())) (
  HM.bind (α := Int) (HM.load1 (.int .i64) (Addr.add (Addr.add ⟨a, 0, none⟩ 1) 2)) fun (x48 : Int) =>
  HM.bind (α := Int) (HM.load1 (.int .i64) (Addr.add (Addr.add ⟨b, 0, none⟩ 1) 2)) fun (x49 : Int) =>
  HM.ite (!(x48 == x49)) (
  HM.pure (true, ())) (
  HM.bind (α := ByteArray) (HM.load1 .str (Addr.add (Addr.add ⟨a, 0, none⟩ 1) 3)) fun (x50 : ByteArray) =>
  HM.bind (α := ByteArray) (HM.load1 .str (Addr.add (Addr.add ⟨b, 0, none⟩ 1) 3)) fun (x51 : ByteArray) =>
  HM.ite (!(decide (x50 = x51))) (
  HM.pure (true, ())) (
  HM.bind (α := ByteArray) (HM.load1 .str (Addr.add (Addr.add ⟨a, 0, none⟩ 1) 4)) fun (x52 : ByteArray) =>
  HM.bind (α := ByteArray) (HM.load1 .str (Addr.add (Addr.add ⟨b, 0, none⟩ 1) 4)) fun (x53 : ByteArray) =>
  HM.pure (!(decide (x52 = x53)), ()))))))) h Q := by
  obtain ⟨l1, l2, l3, l4, l5, l6, ⟨⟩⟩ := l
  obtain ⟨m1, m2, m3, m4, m5, m6, ⟨⟩⟩ := m
  have no : ∀ {P : Prop}, ((l1, l2, l3, l4, l5, l6, ()) : LinkT) ≠ (m1, m2, m3, m4, m5, m6, ()) → decide (((l1, l2, l3, l4, l5, l6, ()) : LinkT) ≠ (m1, m2, m3, m4, m5, m6, ())) = true := fun e => decide_eq_true e
  refine ⟨l1, by rw [add_own]; exact ca 0 _ rfl, m1, by rw [add_own]; exact cb 0 _ rfl, ?_⟩
  (try dsimp only); rw [HM.ite_apply]
  by_cases e0 : l1 = m1
  rotate_left
  · rw [if_pos (by simpa using e0)]
    have := no (P := True) fun e => e0 (by cases e; rfl)
    rw [this] at hq
    exact hq
  subst e0
  rw [if_neg (by simp)]
  refine ⟨l2, by rw [add_own, Addr.add_at]; exact ca 1 _ rfl, m2, by rw [add_own, Addr.add_at]; exact cb 1 _ rfl, ?_⟩
  (try dsimp only); rw [HM.ite_apply]
  by_cases e1 : l2 = m2
  rotate_left
  · rw [if_pos (by simpa using e1)]
    have := no (P := True) fun e => e1 (by cases e; rfl)
    rw [this] at hq
    exact hq
  subst e1
  rw [if_neg (by simp)]
  refine ⟨l3, by rw [add_own, Addr.add_at]; exact ca 2 _ rfl, m3, by rw [add_own, Addr.add_at]; exact cb 2 _ rfl, ?_⟩
  (try dsimp only); rw [HM.ite_apply]
  by_cases e2 : l3 = m3
  rotate_left
  · rw [if_pos (by simpa using e2)]
    have := no (P := True) fun e => e2 (by cases e; rfl)
    rw [this] at hq
    exact hq
  subst e2
  rw [if_neg (by simp)]
  refine ⟨l4, by rw [add_own, Addr.add_at]; exact ca 3 _ rfl, m4, by rw [add_own, Addr.add_at]; exact cb 3 _ rfl, ?_⟩
  (try dsimp only); rw [HM.ite_apply]
  by_cases e3 : l4 = m4
  rotate_left
  · rw [if_pos (by simpa using e3)]
    have := no (P := True) fun e => e3 (by cases e; rfl)
    rw [this] at hq
    exact hq
  subst e3
  rw [if_neg (by simp)]
  refine ⟨l5, by rw [add_own, Addr.add_at]; exact ca 4 _ rfl, m5, by rw [add_own, Addr.add_at]; exact cb 4 _ rfl, ?_⟩
  (try dsimp only); rw [HM.ite_apply]
  by_cases e4 : l5 = m5
  rotate_left
  · rw [if_pos (by simpa using e4)]
    have := no (P := True) fun e => e4 (by cases e; rfl)
    rw [this] at hq
    exact hq
  subst e4
  rw [if_neg (by simp)]
  refine ⟨l6, by rw [add_own, Addr.add_at]; exact ca 5 _ rfl, m6, by rw [add_own, Addr.add_at]; exact cb 5 _ rfl, ?_⟩
  have e : decide (((l1, l2, l3, l4, l5, l6, ()) : LinkT) ≠ (l1, l2, l3, l4, l5, m6, ())) = !decide (l6 = m6) := by
    by_cases e : l6 = m6 <;> simp [e]
  rw [e] at hq
  exact hq

set_option maxHeartbeats 4000000 in
theorem same_spec {a b : AdvT} {sa ka sb kb : Slc} (hs : sat h R) (ra : RowAt eS 1 h sa a.fs) (rka : RowAt encK 6 h ka a.ls) (rb : RowAt eS 1 h sb b.fs) (rkb : RowAt encK 6 h kb b.ls) (hla : a.fs.length ≤ 1000 ∧ a.ls.length ≤ 1000) {Q : Value → Heap → Prop}
    (hq : ∀ h', sat h' R → Q (.bool (sameA a b)) h') : HCalls Tryd.prog 28 #[vA a sa ka, vA b sb kb] h Q := by
  refine law21_same_calls (a.o, a.v, sa, ka, ()) (b.o, b.v, sb, kb, ()) h Q ?_
  have back : ∀ {h' : Heap}, sat h' (old h :: []) → sat h' R := fun ho => hs.grow fun k o hk => ho.old_get hk
  have hs0 : sat h (old h :: []) := sat_old h
  unfold law21_same
  refine new_cells hs0 fun x1 h1 hs1 => ?_
  refine new_cells hs1 fun x2 h2 hs2' => ?_
  have hs2 : sat h2 (cells x1 (cA a sa ka).toArray :: cells x2 (cA b sb kb).toArray :: old h :: []) := hs2'.p1
  clear hs2' hs1 hs0
  have l1 := ra.1
  have l2 := rka.1
  have l3 := rb.1
  have l4 := rkb.1
  refine bind_cut (fun z h' => h' = h2 ∧ (z.1 = false ↔ (a.o = b.o ∧ a.v = b.v ∧ a.fs.length = b.fs.length ∧ a.ls.length = b.ls.length))) ?_ ?_
  · refine ⟨a.o, by rw [add_own]; exact hs2.cell 0, b.o, by rw [add_own]; exact hs2.p1.cell 0, ?_⟩
    (try dsimp only); rw [HM.ite_apply]
    by_cases e0 : a.o = b.o
    rotate_left
    · rw [if_pos (by simpa using e0)]; exact ⟨rfl, by simp [e0]⟩
    rw [if_neg (by simpa using e0)]
    refine ⟨a.v, by rw [add_own]; exact hs2.cell 1, b.v, by rw [add_own]; exact hs2.p1.cell 1, ?_⟩
    (try dsimp only); rw [HM.ite_apply]
    by_cases e1 : a.v = b.v
    rotate_left
    · rw [if_pos (by simpa using e1)]; exact ⟨rfl, by simp [e1]⟩
    rw [if_neg (by simpa using e1)]
    refine ⟨sa, by rw [add_own]; exact hs2.cell 2, sb, by rw [add_own]; exact hs2.p1.cell 2, ?_⟩
    (try dsimp only); rw [HM.ite_apply, l1, l3]
    by_cases e2 : a.fs.length = b.fs.length
    rotate_left
    · rw [if_pos (by simp only [Bool.not_eq_true', beq_eq_false_iff_ne]; omega)]; exact ⟨rfl, by simp [e2]⟩
    rw [if_neg (by simp [e2])]
    refine ⟨ka, by rw [add_own]; exact hs2.cell 3, kb, by rw [add_own]; exact hs2.p1.cell 3, rfl, ?_⟩
    simp only [l2, l4, e0, e1, e2, true_and, Bool.not_eq_false', beq_iff_eq]
    omega
  rintro ⟨z, ⟨⟩⟩ h3 ⟨rfl, hz⟩
  simp only at hz
  (try dsimp only); rw [HM.ite_apply]
  cases z with
  | true =>
    rw [if_pos rfl]
    have e : sameA a b = false := by
      unfold sameA
      rw [decide_eq_false_iff_not]
      rintro ⟨e1, e2, e3, e4⟩
      have := hz.2 ⟨e1, e2, by rw [e3], by rw [e4]⟩
      cases this
    rw [e] at hq
    exact hq _ (back hs2.drop.drop)
  | false =>
  rw [if_neg (by simp)]
  obtain ⟨e1, e2, e3, e4⟩ := hz.1 rfl
  have eS0 : sameA a b = (decide (a.fs = b.fs) && decide (a.ls = b.ls)) := by
    unfold sameA
    simp only [e1, e2, true_and, Bool.decide_and]
  rw [eS0] at hq
  clear eS0 hz
  refine ⟨sa, by rw [add_own]; exact hs2.cell 2, ?_⟩
  (try dsimp only); rw [HM.bind_apply]
  refine loop_gx (γ := Nat) (hb := fun s => by
      repeat' with_reducible first
        | refine @mono_bind _ _ _ _ ?_ (fun _ => ?_)
        | refine @mono_ite _ _ _ _ ?_ ?_
      all_goals infer_instance)
    (fun g c h' => c.1 = (((a.fs.length - g : Nat)) : Int) ∧ g ≤ a.fs.length ∧ a.fs.take (a.fs.length - g) = b.fs.take (a.fs.length - g) ∧ sat h' (cells x1 (cA a sa ka).toArray :: cells x2 (cA b sb kb).toArray :: old h :: [])) (fun g => g) a.fs.length
    ⟨by simp, Nat.le_refl _, by simp, hs2⟩ ?_
  clear hs2
  rintro g ⟨c, ⟨⟩⟩ h4 ⟨hc, hg, hall, hs2⟩
  simp only at hc
  subst hc
  (try dsimp only); rw [HM.ite_apply]
  by_cases hi : a.fs.length - g < a.fs.length
  · rw [if_pos (by simp only [decide_eq_true_eq, l1]; omega)]
    obtain ⟨f, hf⟩ : ∃ f, a.fs[a.fs.length - g]? = some f := ⟨_, List.getElem?_eq_getElem hi⟩
    obtain ⟨f2, hf2⟩ : ∃ f, b.fs[a.fs.length - g]? = some f := ⟨_, List.getElem?_eq_getElem (by omega)⟩
    refine ⟨sa, by rw [add_own]; exact hs2.cell 2, ?_⟩
    (try dsimp only); rw [HM.bind_apply]
    refine idx_row ra hf fun p hp => ?_
    refine ⟨f, by have := hp 0 (.string f) rfl; rw [Go.H.add_zero] at this; exact hs2.p2.old_cell this, ?_⟩
    refine ⟨sb, by rw [add_own]; exact hs2.p1.cell 2, ?_⟩
    (try dsimp only); rw [HM.bind_apply]
    refine idx_row rb hf2 fun p2 hp2 => ?_
    refine ⟨f2, by have := hp2 0 (.string f2) rfl; rw [Go.H.add_zero] at this; exact hs2.p2.old_cell this, ?_⟩
    (try dsimp only); rw [HM.ite_apply]
    by_cases hff : f = f2
    · rw [if_neg (by simpa using hff)]
      simp only [Sum.elim_inl, Sum.elim_inr, HM.pure_apply]
      refine .mk (g - 1) (by omega) ⟨by simp only; rw [wrap_id (by omega) (by omega)]; omega, by omega, ?_, hs2⟩
      rw [show a.fs.length - (g - 1) = a.fs.length - g + 1 by omega, List.take_add_one, List.take_add_one, hf, hf2, hall, hff]
    · rw [if_pos (by simpa using hff)]
      simp only [Sum.elim_inl, Sum.elim_inr, HM.pure_apply]
      have e : decide (a.fs = b.fs) = false := by
        rw [decide_eq_false_iff_not]
        intro e
        have h9 : b.fs[a.fs.length - g]? = some f := by rw [← e]; exact hf
        rw [hf2] at h9
        cases h9
        exact hff rfl
      rw [e, Bool.false_and] at hq
      exact hq _ (back hs2.drop.drop)
  rw [if_neg (by simp only [decide_eq_true_eq, l1]; omega)]
  simp only [Sum.elim_inl, Sum.elim_inr, HM.pure_apply]
  have efs : a.fs = b.fs := by
    rw [List.take_of_length_le (by omega), List.take_of_length_le (by omega)] at hall
    exact hall
  rw [decide_eq_true efs, Bool.true_and] at hq
  clear hall hi hg efs
  refine ⟨ka, by rw [add_own]; exact hs2.cell 3, ?_⟩
  (try dsimp only); rw [HM.bind_apply]
  refine loop_gx (γ := Nat) (hb := fun s => by
      repeat' with_reducible first
        | refine @mono_bind _ _ _ _ ?_ (fun _ => ?_)
        | refine @mono_ite _ _ _ _ ?_ ?_
        | refine @mono_both _ _ _ ?_ ?_
        | refine @mono_req _ _ _ ?_
      all_goals infer_instance)
    (fun g c h' => c.1 = (((a.ls.length - g : Nat)) : Int) ∧ g ≤ a.ls.length ∧ a.ls.take (a.ls.length - g) = b.ls.take (a.ls.length - g) ∧ sat h' (cells x1 (cA a sa ka).toArray :: cells x2 (cA b sb kb).toArray :: old h :: [])) (fun g => g) a.ls.length
    ⟨by simp, Nat.le_refl _, by simp, hs2⟩ ?_
  clear hs2
  rintro g ⟨c, ⟨⟩⟩ h5 ⟨hc, hg, hall, hs2⟩
  simp only at hc
  subst hc
  (try dsimp only); rw [HM.ite_apply]
  by_cases hi : a.ls.length - g < a.ls.length
  rotate_left
  · rw [if_neg (by simp only [decide_eq_true_eq, l2]; omega)]
    simp only [Sum.elim_inl, Sum.elim_inr, HM.pure_apply]
    have els : a.ls = b.ls := by
      rw [List.take_of_length_le (by omega), List.take_of_length_le (by omega)] at hall
      exact hall
    rw [decide_eq_true els] at hq
    exact hq _ (back hs2.drop.drop)
  rw [if_pos (by simp only [decide_eq_true_eq, l2]; omega)]
  obtain ⟨l, hl⟩ : ∃ l, a.ls[a.ls.length - g]? = some l := ⟨_, List.getElem?_eq_getElem hi⟩
  obtain ⟨m, hm⟩ : ∃ m, b.ls[a.ls.length - g]? = some m := ⟨_, List.getElem?_eq_getElem (by omega)⟩
  have fin : ∀ {y1 y2 : Nat} {h' : Heap} {f : Int × Unit → HM (Bool × Unit)}, sat h' (cells y1 (encK l).toArray :: cells y2 (encK m).toArray :: cells x1 (cA a sa ka).toArray :: cells x2 (cA b sb kb).toArray :: old h :: []) →
      (∀ h', sat h' (cells x1 (cA a sa ka).toArray :: cells x2 (cA b sb kb).toArray :: old h :: []) → l = m → Go.H.Next (fun g c h' => c.1 = (((a.ls.length - g : Nat)) : Int) ∧ g ≤ a.ls.length ∧ a.ls.take (a.ls.length - g) = b.ls.take (a.ls.length - g) ∧ sat h' (cells x1 (cA a sa ka).toArray :: cells x2 (cA b sb kb).toArray :: old h :: [])) (fun g => g) g ((IntKind.wrap .i64 ((((a.ls.length - g : Nat)) : Int) + 1), ()) : Int × Unit) h') ∧ (∀ h', sat h' (cells x1 (cA a sa ka).toArray :: cells x2 (cA b sb kb).toArray :: old h :: []) → l ≠ m → Q (.bool false) h') := by
    intro y1 y2 h' f hh
    refine ⟨fun h'' hs'' e => .mk (g - 1) (by omega) ⟨by simp only; rw [wrap_id (by omega) (by omega)]; omega, by omega, ?_, hs''⟩, fun h'' hs'' e => ?_⟩
    · rw [show a.ls.length - (g - 1) = a.ls.length - g + 1 by omega, List.take_add_one, List.take_add_one, hl, hm, hall, e]
    · have e5 : decide (a.ls = b.ls) = false := by
        rw [decide_eq_false_iff_not]
        intro e6
        have h9 : b.ls[a.ls.length - g]? = some l := by rw [← e6]; exact hl
        rw [hm] at h9
        cases h9
        exact e rfl
      rw [e5] at hq
      exact hq _ (back hs''.drop.drop)
  refine ⟨ka, by rw [add_own]; exact hs2.cell 3, ?_⟩
  (try dsimp only); rw [HM.bind_apply]
  refine idx_row rka hl fun p hp => ?_
  refine load_K (fun j v hv => hs2.p2.old_cell (hp j v hv)) ?_
  refine ⟨kb, by rw [add_own]; exact hs2.p1.cell 3, ?_⟩
  (try dsimp only); rw [HM.bind_apply]
  refine idx_row rkb hm fun p2 hp2 => ?_
  refine load_K (fun j v hv => hs2.p2.old_cell (hp2 j v hv)) ?_
  refine ⟨?_, ?_⟩
  · refine new_cells hs2 fun x30 h7001 hs7001 => ?_
    refine load_K (fun j v hv => hs7001.p3.old_cell (hp2 j v hv)) ?_
    refine ⟨rfl, ?_⟩
    refine ⟨kb, by rw [add_own]; exact hs7001.p2.cell 3, ?_⟩
    refine ⟨rfl, ?_⟩
    refine load_K (fun j v hv => hs7001.p3.old_cell (hp j v hv)) ?_
    refine ⟨rfl, ?_⟩
    refine ⟨ka, by rw [add_own]; exact hs7001.p1.cell 3, ?_⟩
    refine ⟨rfl, ?_⟩
    refine new_cells hs7001 fun x35 h7002 hs7002 => ?_
    refine load_K (fun j v hv => hs7002.p4.old_cell (hp2 j v hv)) ?_
    refine ⟨rfl, ?_⟩
    refine ⟨kb, by rw [add_own]; exact hs7002.p3.cell 3, ?_⟩
    refine ⟨rfl, ?_⟩
    refine load_K (fun j v hv => hs7002.p4.old_cell (hp j v hv)) ?_
    refine ⟨rfl, ?_⟩
    refine ⟨ka, by rw [add_own]; exact hs7002.p2.cell 3, ?_⟩
    refine ⟨rfl, ?_⟩
    (try dsimp only); rw [HM.bind_apply]
    refine storeN_all' hs7002.p1 rfl rfl fun h7003 hs7003 => ?_
    refine load_K (fun j v hv => hs7003.p4.old_cell (hp2 j v hv)) ?_
    refine ⟨rfl, ?_⟩
    refine ⟨kb, by rw [add_own]; exact hs7003.p3.cell 3, ?_⟩
    refine ⟨rfl, ?_⟩
    (try dsimp only); rw [HM.bind_apply]
    refine storeN_all' hs7003.p1 rfl rfl fun h7004 hs7004 => ?_
    have hs7005 : sat _ (cells x30 (encK l).toArray :: cells x35 (encK m).toArray :: cells x1 (cA a sa ka).toArray :: cells x2 (cA b sb kb).toArray :: old h :: []) := (hs7004.re [1, 0, 2, 3, 4])
    obtain ⟨fin1, fin2⟩ := fin (f := fun _ => HM.pure (true, ())) hs7005
    (try dsimp only); rw [HM.bind_apply]
    refine cmp_links (l := l) (m := m) (fun i v hv => by rw [hs7005.cell]; simpa using hv) (fun i v hv => by rw [hs7005.p1.cell]; simpa using hv) ?_
    (try dsimp only); rw [HM.ite_apply]
    by_cases e : l = m
    · rw [if_neg (by simp [e])]
      simp only [Sum.elim_inl, Sum.elim_inr, HM.pure_apply]
      exact fin1 _ hs7005.drop.drop e
    · rw [if_pos (by simpa using e)]
      simp only [Sum.elim_inl, Sum.elim_inr, HM.pure_apply]
      exact fin2 _ hs7005.drop.drop e
  · refine new_cells hs2 fun x55 h7501 hs7501 => ?_
    refine load_K (fun j v hv => hs7501.p3.old_cell (hp2 j v hv)) ?_
    refine ⟨rfl, ?_⟩
    refine ⟨kb, by rw [add_own]; exact hs7501.p2.cell 3, ?_⟩
    refine ⟨rfl, ?_⟩
    refine load_K (fun j v hv => hs7501.p3.old_cell (hp j v hv)) ?_
    refine ⟨rfl, ?_⟩
    refine ⟨ka, by rw [add_own]; exact hs7501.p1.cell 3, ?_⟩
    refine ⟨rfl, ?_⟩
    refine new_cells hs7501 fun x60 h7502 hs7502 => ?_
    refine load_K (fun j v hv => hs7502.p4.old_cell (hp2 j v hv)) ?_
    refine ⟨rfl, ?_⟩
    refine ⟨kb, by rw [add_own]; exact hs7502.p3.cell 3, ?_⟩
    refine ⟨rfl, ?_⟩
    refine load_K (fun j v hv => hs7502.p4.old_cell (hp j v hv)) ?_
    refine ⟨rfl, ?_⟩
    refine ⟨ka, by rw [add_own]; exact hs7502.p2.cell 3, ?_⟩
    refine ⟨rfl, ?_⟩
    (try dsimp only); rw [HM.bind_apply]
    refine storeN_all' hs7502 rfl rfl fun h7503 hs7503 => ?_
    refine load_K (fun j v hv => hs7503.p4.old_cell (hp2 j v hv)) ?_
    refine ⟨rfl, ?_⟩
    refine ⟨kb, by rw [add_own]; exact hs7503.p3.cell 3, ?_⟩
    refine ⟨rfl, ?_⟩
    (try dsimp only); rw [HM.bind_apply]
    refine storeN_all' hs7503.p1 rfl rfl fun h7504 hs7504 => ?_
    have hs7505 : sat _ (cells x60 (encK l).toArray :: cells x55 (encK m).toArray :: cells x1 (cA a sa ka).toArray :: cells x2 (cA b sb kb).toArray :: old h :: []) := (hs7504.re [1, 0, 2, 3, 4])
    obtain ⟨fin1, fin2⟩ := fin (f := fun _ => HM.pure (true, ())) hs7505
    (try dsimp only); rw [HM.bind_apply]
    refine cmp_links (l := l) (m := m) (fun i v hv => by rw [hs7505.cell]; simpa using hv) (fun i v hv => by rw [hs7505.p1.cell]; simpa using hv) ?_
    (try dsimp only); rw [HM.ite_apply]
    by_cases e : l = m
    · rw [if_neg (by simp [e])]
      simp only [Sum.elim_inl, Sum.elim_inr, HM.pure_apply]
      exact fin1 _ hs7505.drop.drop e
    · rw [if_pos (by simpa using e)]
      simp only [Sum.elim_inl, Sum.elim_inr, HM.pure_apply]
      exact fin2 _ hs7505.drop.drop e

theorem wakes_spec (hs : sat h (old h0 :: R)) (ht : TP h0) {Q : Value → Heap → Prop} (hq : ∀ h', sat h' (old h0 :: R) → Q (.bool true) h') : HCalls Tryd.prog 27 #[] h Q := by
  refine law21_wakes_calls h Q ?_
  unfold law21_wakes
  refine new_cells hs fun x1 h1 hs1 => ?_
  have hs2 := ownS_nil (enc := encK) (size := 6) (own_full (xs := [ByteArray.mk #[97]]) hs1)
  have hg : goodA ⟨2, 7, [ByteArray.mk #[97]], []⟩ = true := by decide
  refine bind_callN (Put_spec (a := ⟨2, 7, [ByteArray.mk #[97]], []⟩) (sf := ⟨some ⟨x1, 0, none⟩, 1, 1⟩) (sl := ⟨none, 0, 0⟩) hs2.p1 ht ⟨fun f hf => ?_, fun l hl => by cases hl⟩ fun h2 hs3 => ?_)
  · simp only [List.mem_cons, List.not_mem_nil, or_false] at hf
    subst hf
    exact show (1 : Nat) ≤ bigB by decide
  rw [if_pos hg]
  refine ⟨(_, 0, ()), rfl, ?_⟩
  refine bind_cut (fun z h' => h' = h2 ∧ z.1 = true) ?_ ?_
  · (try dsimp only); rw [HM.ite_apply, if_pos (by rfl)]
    exact ⟨rfl, by decide⟩
  rintro ⟨z, ⟨⟩⟩ h3 ⟨rfl, hz⟩
  simp only at hz
  subst hz
  exact hq _ hs3.drop.drop

end Go.Proofs.YtmdagnoknmfhcaaDoor
