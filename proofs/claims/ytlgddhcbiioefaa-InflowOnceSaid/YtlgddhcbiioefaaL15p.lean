/-
  L15p: the law InflowOnce over heaps.
-/
import Derived.Test.YtlgddhcbiioefaaL15o
namespace Go.Proofs.Ytlgddhcbiioefaa
open Go.H Go.Proofs
set_option linter.unusedSimpArgs false
set_option linter.unusedVariables false
set_option synthInstance.maxSize 100000
set_option synthInstance.maxHeartbeats 400000

def TakeAns (h : Heap) (o : Option (Int × Int)) (id : Int) (sl : Slc) : Prop :=
  match o with
  | none => sl = ⟨none, 0, 0⟩
  | some (k, c) => ∃ b, sl = ⟨some ⟨b, 0, none⟩, 1, 1⟩ ∧ cellH h ⟨b, 0, none⟩ = some (.int .i64 k) ∧ cellH h ⟨b, 4, none⟩ = some (.int .i64 id) ∧ cellH h ⟨b, 7, none⟩ = some (.int .u8 c)

theorem infTake_cut {β : Type} {h : Heap} {R : List Asn} {f : Nat} {s : PoolS} (k q id why : Int) {g : KTup [.one .bool, .one .slc, .one (.int .u8)] → HM β} {Q : β → Heap → Prop} (hs : sat h (flowA f s :: R))
    (hq : ∀ (sl : Slc) h', TakeAns h' (takeR s k q id why).2.1 id sl → sat h' (flowA f ⟨s.most, s.taken, (takeR s k q id why).2.2.2⟩ :: R) → g ((takeR s k q id why).1, sl, (takeR s k q id why).2.2.1, ()) h' Q) :
    (HM.bind (HM.callN Try.prog [.one .bool, .one .slc, .one (.int .u8)] 8 #[at0 f, Pk_v (Pk_m k q id), .int .u8 why]) g) h Q := by
  refine bind_callN (infTake_spec (p := Pk_m k q id) hs ?_ ?_)
  · intro hn h' hs'
    refine ⟨(_, ⟨none, 0, 0⟩, _, ()), rfl, hq _ h' ?_ hs'⟩
    rw [show (takeR s k q id why).2.1 = none from hn]
    rfl
  · intro k' c' hk b h' hs'
    refine ⟨(_, ⟨some ⟨b, 0, none⟩, 1, 1⟩, _, ()), rfl, hq _ h' ?_ hs'.drop⟩
    rw [show (takeR s k q id why).2.1 = some (k', c') from hk]
    exact ⟨b, rfl, hs'.cell 0, hs'.cell 4, hs'.cell 7⟩

theorem takeR_mem {s : PoolS} {k q id why v : Int} (h1 : ¬ (k = 3 ∧ q = 2 ∧ id = v)) (h2 : ¬ (k = 6 ∧ id = v)) : v ∈ (takeR s k q id why).2.2.2 ↔ v ∈ s.used := by
  unfold takeR
  by_cases g0 : takeBad k q id
  · rw [if_pos g0]
  rw [if_neg g0]
  unfold takeBad at g0
  by_cases g1 : k = 3 ∧ q = 0
  · rw [if_pos g1]
  rw [if_neg g1]
  by_cases g2 : k = 6
  · rw [if_pos g2]
    exact List.mem_erase_of_ne fun e => h2 ⟨g2, e.symm⟩
  rw [if_neg g2]
  by_cases g3 : q = 1
  · rw [if_pos g3]
  rw [if_neg g3]
  have hne : id ≠ v := fun e => h1 ⟨by omega, by omega, e⟩
  split
  · exact Iff.rfl
  split
  · exact Iff.rfl
  by_cases g4 : why < 128
  · simp [g4, Ne.symm hne]
  · simp [g4]

set_option maxRecDepth 100000 in
theorem InflowOnce_spec {h h0 : Heap} {s : Slc} {xs : List (Int × Int × Int × Int × Bool)} {idp : Int} (hr : RowAt encT 5 h0 s xs) (hs : sat h [old h0]) {Q : Value → Heap → Prop}
    (hq : ∀ h' R, sat h' (old h0 :: R) → Q (.bool true) h') : HCalls Try.prog 3 #[.slice s.a s.len s.cap, .int .i64 idp] h Q := by
  refine law15_InflowOnce_calls s idp h Q ?_
  have he : (if 60 < ((s.len : Nat) : Int) then (60 : Int) else ((s.len : Nat) : Int)) = ((min 60 xs.length : Nat) : Int) := by
    rw [hr.1]; split <;> omega
  unfold law15_InflowOnce
  rw [he]
  have v0 : 0 ≤ (if 0 < idp then idp else 0).tmod 65535 := Int.tmod_nonneg _ (by split <;> omega)
  have v1 : (if 0 < idp then idp else 0).tmod 65535 < 65535 := Int.tmod_lt_of_pos _ (by omega)
  have v2 : IntKind.wrap .i64 (1 + (if 0 < idp then idp else 0).tmod 65535) = 1 + (if 0 < idp then idp else 0).tmod 65535 := wrap_id (by omega) (by omega)
  rw [v2]
  clear v2
  generalize hv : 1 + (if 0 < idp then idp else 0).tmod 65535 = v
  have v3 : 1 ≤ v := by omega
  have v4 : v ≤ 65535 := by omega
  clear hv v0 v1
  refine bind_call1 (infNew_spec hs 64 fun f h2 hs2 => ⟨some ⟨f, 0, none⟩, rfl, ?_⟩)
  refine ⟨by decide, ?_⟩
  refine slice_row hr (Nat.min_le_right _ _) fun s' hr' => ?_
  generalize hys : xs.take (min 60 xs.length) = ys at hr'
  have hys1 : ys.length ≤ 60 := by rw [← hys]; simp; omega
  refine loop_gx (γ := Nat × PoolS) (hb := fun s => by
    repeat' with_reducible first
      | refine @mono_bind _ _ _ _ ?_ (fun _ => ?_)
      | refine @mono_ite _ _ _ _ ?_ ?_
      | refine @mono_req _ _ _ ?_
      | refine @mono_loop _ _ _ _ (fun _ => ?_)
      | refine @mono_elim _ _ _ _ _ _ (fun _ => ?_) (fun _ => ?_)
    all_goals infer_instance)
    (fun g c h => g.1 ≤ ys.length ∧ c.2.1 = (g.1 : Int) ∧ c.1 = (if v ∈ g.2.used then 1 else 0) ∧ sat h (flowA f g.2 :: [old h0]))
    (fun g => ys.length - g.1) (0, ⟨max 1 (min 64 64), 0, []⟩) ⟨Nat.zero_le _, rfl, rfl, hs2⟩ ?_
  rintro ⟨i, p⟩ ⟨news, c, ⟨⟩⟩ h3 ⟨hi, hc, hn, hs3⟩
  simp only at hi hc hn hs3
  subst hc
  have hlen := hr'.1
  simp only [HM.ite_apply, decide_eq_true_eq]
  by_cases hlt : i < ys.length
  · rw [if_pos (by omega)]
    have next : IntKind.wrap .i64 ((i : Int) + 1) = ((i + 1 : Nat) : Int) := by rw [wrap_id (by omega) (by omega)]; rfl
    rw [HM.bind_apply]
    refine idx_row hr' (List.getElem?_eq_getElem hlt) fun a ha => ?_
    generalize ys[i] = x at ha
    obtain ⟨x1, x2, x3, x4, x5⟩ := x
    refine loadN_of (ts := [.int .i64, .int .i64, .int .i64, .int .u8, .bool]) (x1, x2, x3, x4, x5, ()) (fun j v hv => hs3.p1.old_cell (ha j v hv)) ?_
    refine new_cells hs3 fun ab h4 hs4 => ?_
    refine storeN_all' hs4 rfl rfl fun h5 hs5 => ?_
    refine loadN_cells (x1, x2, x3, x4, x5, ()) hs5 rfl ?_
    refine bind_callN (made_spec hs5 x1 x2 x3 x4 x5 fun h6 hs6 => ⟨(Pk_m (kOf x1) x2 x3, Pk_m (kOf x1) x2 x3, ()), rfl, ?_⟩)
    refine new_cells hs6 fun b1 h7 hs7 => ?_
    refine new_cells hs7 fun b2 h8 hs8 => ?_
    refine storeN_all' hs8.p1 rfl rfl fun h9 hs9 => ?_
    refine storeN_all' hs9.p1 rfl rfl fun h10 hs10 => ?_
    generalize kOf x1 = k at *
    have hs10' : sat h10 [flowA f p, cells b1 (Pk_c (Pk_m k x2 x3)), cells ab #[.int .i64 x1, .int .i64 x2, .int .i64 x3, .int .u8 x4, .bool x5], old h0] := hs10.drop.p2
    clear hs10 hs9 hs8 hs7 hs6 hs5 hs4
    have d0 : cellH h10 ⟨b1, 0, none⟩ = some (.int .i64 k) := hs10'.p1.cell 0
    have d3 : cellH h10 ⟨b1, 3, none⟩ = some (.int .i64 x2) := hs10'.p1.cell 3
    have d4 : cellH h10 ⟨b1, 4, none⟩ = some (.int .i64 x3) := hs10'.p1.cell 4
    have f3 : cellH h10 ⟨ab, 3, none⟩ = some (.int .u8 x4) := hs10'.p2.cell 3
    obtain ⟨fb, hsf⟩ := flowA_iff.1 hs10'
    obtain ⟨_, hok, -⟩ := poolA_iff.1 hsf.p1
    clear hsf
    refine bind_cut (hm := by
      repeat' with_reducible first
        | refine @mono_bind _ _ _ _ ?_ (fun _ => ?_)
        | refine @mono_ite _ _ _ _ ?_ ?_
        | refine @mono_req _ _ _ ?_
        | refine @mono_loop _ _ _ _ (fun _ => ?_)
        | refine @mono_elim _ _ _ _ _ _ (fun _ => ?_) (fun _ => ?_)
      all_goals infer_instance) (fun x h' => h' = h10 ∧ x.1 = decide (k = 3 ∧ x2 = 2 ∧ x3 = v)) ?_ ?_
    · by_cases g1 : k = 3
      · by_cases g2 : x2 = 2
        · simp [add_own, d0, d3, d4, g1, g2]
          rfl
        · simp [add_own, d0, d3, d4, g1, g2]
      · simp [add_own, d0, g1]
    rintro ⟨x, ⟨⟩⟩ h11 ⟨rfl, e1⟩
    simp only at e1
    subst e1
    simp only [HM.ite_apply, decide_eq_true_eq]
    by_cases hA : k = 3 ∧ x2 = 2 ∧ x3 = v
    · rw [if_pos hA]
      obtain ⟨rfl, rfl, rfl⟩ := hA
      refine loadN_cells (Pk_m 3 2 x3) hs10'.p1 rfl ?_
      refine infTake_cut 3 2 x3 0 hs10' fun sl h12 hans hs12 => ?_
      have nb : ¬ takeBad 3 2 x3 := by unfold takeBad; omega
      by_cases g5 : x3 ∈ p.used
      · have ht : takeR p 3 2 x3 0 = (false, some (5, 0), 0, p.used) := by simp [takeR, nb, g5]
        rw [ht] at hans hs12 ⊢
        obtain ⟨b, rfl, a0, a4, a7⟩ := hans
        have hn1 : news = 1 := by rw [hn, if_pos g5]
        subst hn1
        simp [HM.idx, add_own, a0, a4]
        exact .mk (i + 1, ⟨p.most, p.taken, p.used⟩) (by simp only []; omega) ⟨by simp only []; omega, next, by simp [g5], hs12.p1.drop.p1.drop⟩
      · have hn0 : news = 0 := by rw [hn, if_neg g5]
        subst hn0
        by_cases g6 : (p.used.length : Int) = p.most
        · have ht : takeR p 3 2 x3 0 = (false, none, 147, p.used) := by simp [takeR, nb, g5, g6]
          rw [ht] at hans hs12 ⊢
          simp
          exact .mk (i + 1, ⟨p.most, p.taken, p.used⟩) (by simp only []; omega) ⟨by simp only []; omega, next, by simp [g5], hs12.p1.drop.p1.drop⟩
        · have ht : takeR p 3 2 x3 0 = (true, some (5, 0), 0, p.used ++ [x3]) := by simp [takeR, nb, g5, g6]
          rw [ht] at hans hs12 ⊢
          obtain ⟨b, rfl, a0, a4, a7⟩ := hans
          have w1 : IntKind.wrap .i64 1 = 1 := by decide
          simp [HM.idx, add_own, a0, a4, w1]
          exact .mk (i + 1, ⟨p.most, p.taken, p.used ++ [x3]⟩) (by simp only []; omega) ⟨by simp only []; omega, next, by simp, hs12.p1.drop.p1.drop⟩
    rw [if_neg hA]
    refine bind_cut (hm := by
      repeat' with_reducible first
        | refine @mono_bind _ _ _ _ ?_ (fun _ => ?_)
        | refine @mono_ite _ _ _ _ ?_ ?_
        | refine @mono_req _ _ _ ?_
        | refine @mono_loop _ _ _ _ (fun _ => ?_)
        | refine @mono_elim _ _ _ _ _ _ (fun _ => ?_) (fun _ => ?_)
      all_goals infer_instance) (fun x h' => h' = h11 ∧ x.1 = decide (k = 6 ∧ x3 = v)) ?_ ?_
    · by_cases g1 : k = 6
      · simp [add_own, d0, d4, g1]
        rfl
      · simp [add_own, d0, g1]
    rintro ⟨x, ⟨⟩⟩ h12 ⟨rfl, e1⟩
    simp only at e1
    subst e1
    refine loadN_cells (Pk_m k x2 x3) hs10'.p1 rfl ?_
    refine ⟨x4, by rw [add_own]; exact f3, ?_⟩
    refine infTake_cut k x2 x3 x4 hs10' fun sl h13 hans hs13 => ?_
    by_cases hB : k = 6 ∧ x3 = v
    · obtain ⟨rfl, rfl⟩ := hB
      have nb : ¬ takeBad 6 x2 x3 := by unfold takeBad; omega
      have ht : takeR p 6 x2 x3 x4 = (false, some (7, if x3 ∈ p.used then 0 else 146), 0, p.used.erase x3) := by simp [takeR, nb]
      rw [ht] at hans hs13 ⊢
      obtain ⟨b, rfl, a0, a4, a7⟩ := hans
      have hne : x3 ∉ p.used.erase x3 := fun hm => by
        have := (hok.nodup.mem_erase_iff).1 hm
        exact this.1 rfl
      by_cases g5 : x3 ∈ p.used
      · have hn1 : news = 1 := by rw [hn, if_pos g5]
        subst hn1
        rw [if_pos g5] at a7
        simp [HM.idx, add_own, a7]
        exact .mk (i + 1, ⟨p.most, p.taken, p.used.erase x3⟩) (by simp only []; omega) ⟨by simp only []; omega, next, by simp [hne], hs13.p1.drop.p1.drop⟩
      · have hn0 : news = 0 := by rw [hn, if_neg g5]
        subst hn0
        rw [if_neg g5] at a7
        simp [HM.idx, add_own, a7]
        exact .mk (i + 1, ⟨p.most, p.taken, p.used.erase x3⟩) (by simp only []; omega) ⟨by simp only []; omega, next, by simp [hne], hs13.p1.drop.p1.drop⟩
    · have hmem := takeR_mem (s := p) (why := x4) hA hB
      simp [hB]
      exact .mk (i + 1, ⟨p.most, p.taken, (takeR p k x2 x3 x4).2.2.2⟩) (by simp only []; omega) ⟨by simp only []; omega, next, by simp only [hmem]; exact hn, hs13.p1.drop.p1.drop⟩
  · rw [if_neg (by omega)]
    simp
    refine wakes15_spec hs3.drop fun h4 hs4 => ?_
    simp
    exact hq _ _ hs4

end Go.Proofs.Ytlgddhcbiioefaa
