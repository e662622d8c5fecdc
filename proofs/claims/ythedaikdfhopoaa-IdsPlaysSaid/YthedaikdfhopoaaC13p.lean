/-
  C13p: contracts: the document's pool (aqueductref13): its list is what Used answers.
-/
import Derived.Test.YthedaikdfhopoaaC13u
namespace Go.Proofs.Ythedaikdfhopoaa
open Go.H Go.Proofs
set_option linter.unusedVariables false
set_option synthInstance.maxSize 100000
set_option synthInstance.maxHeartbeats 400000

/-! ### plain laws -/

theorem sortI_perm (l : List Int) : (sortI l).Perm l := List.mergeSort_perm l _
theorem sortI_sorted (l : List Int) : (sortI l).Pairwise (· ≤ ·) := by
  have := List.pairwise_mergeSort (le := fun x y : Int => decide (x ≤ y)) (fun a b c h1 h2 => by simp only [decide_eq_true_eq] at *; omega) (fun a b => by simp only [Bool.or_eq_true, decide_eq_true_eq]; omega) l
  exact this.imp fun h => by simpa using h
theorem sorted_eq {l l' : List Int} (hp : l.Perm l') (h : l.Pairwise (· ≤ ·)) (h' : l'.Pairwise (· ≤ ·)) : l = l' :=
  List.Perm.eq_of_pairwise (le := fun a b => a ≤ b) (fun a b _ _ h1 h2 => Int.le_antisymm h1 h2) h h' hp
theorem sortI_mem {l : List Int} {k : Int} : k ∈ sortI l ↔ k ∈ l := (sortI_perm l).mem_iff
theorem sortI_len (l : List Int) : (sortI l).length = l.length := (sortI_perm l).length_eq

theorem ins_sorted {l a b : List Int} {k : Int} (hl : sortI l = a ++ b) (ha : ∀ x ∈ a, x ≤ k) (hb : ∀ x ∈ b, k ≤ x) : a ++ k :: b = sortI (l ++ [k]) := by
  have hs := sortI_sorted l
  rw [hl, List.pairwise_append] at hs
  refine sorted_eq ?_ ?_ (sortI_sorted _)
  · refine List.Perm.trans ?_ (sortI_perm _).symm
    refine List.perm_middle.trans ?_
    rw [← hl]
    exact ((sortI_perm l).cons k).trans (List.perm_append_singleton k l).symm
  · rw [List.pairwise_append]
    refine ⟨hs.1, ?_, fun x hx y hy => ?_⟩
    · rw [List.pairwise_cons]; exact ⟨hb, hs.2.1⟩
    · rcases List.mem_cons.1 hy with rfl | hy
      · exact ha x hx
      · exact hs.2.2 x hx y hy

theorem del_sorted {l : List Int} (hn : l.Nodup) (k : Int) : (sortI l).filter (fun x => !(x == k)) = sortI (l.erase k) := by
  refine sorted_eq ?_ ((sortI_sorted l).filter _) (sortI_sorted _)
  refine ((sortI_perm l).filter _).trans (List.Perm.trans ?_ (sortI_perm _).symm)
  rw [hn.erase_eq_filter]
  refine List.Perm.of_eq (List.filter_congr fun x _ => ?_)
  rfl

/-- a free one is reached soon -/
theorem reach_soon (used : List Int) (t : Int) (h0 : 0 ≤ t) (h1 : t ≤ 65535) (hd : used.Nodup) (h2 : used.length < 65535) : ∃ n u, n ≤ used.length ∧ Reach used n t u := by
  have key : ∀ (j : Nat), ∀ t, 0 ≤ t → t ≤ 65535 → (∃ n u, n < j ∧ Reach used n t u) ∨ ∀ i, i < j → ((t + i) % 65535 + 1) ∈ used := by
    intro j
    induction j with
    | zero => intro t _ _; exact .inr (fun i hi => by omega)
    | succ j ih =>
      intro t ht0 ht1
      by_cases hm : nxt t ∈ used
      · have hr := nxt_range ht0
        rcases ih (nxt t) (by omega) (by omega) with ⟨n, u, hn, hu⟩ | hall
        · exact .inl ⟨n + 1, u, by omega, .on hm hu⟩
        · refine .inr fun i hi => ?_
          cases i with
          | zero => simpa [nxt] using hm
          | succ i =>
            have := hall i (by omega)
            have e : ((nxt t + (i : Int)) % 65535 + 1) = ((t + ((i + 1 : Nat) : Int)) % 65535 + 1) := by unfold nxt; omega
            rw [e] at this
            exact this
      · exact .inl ⟨0, nxt t, by omega, .here hm⟩
  rcases key (used.length + 1) t h0 h1 with ⟨n, u, hn, hu⟩ | hall
  · exact ⟨n, u, by omega, hu⟩
  · exfalso
    have hsub : ∀ x ∈ ((List.range (used.length + 1)).map fun (i : Nat) => ((t + (i : Int)) % 65535 + 1)), x ∈ used := by
      intro x hx
      obtain ⟨i, hi, rfl⟩ := List.mem_map.1 hx
      exact hall i (List.mem_range.1 hi)
    have hnd : ((List.range (used.length + 1)).map fun (i : Nat) => ((t + (i : Int)) % 65535 + 1)).Nodup := by
      refine List.pairwise_map.2 (List.Pairwise.imp_of_mem ?_ List.pairwise_lt_range)
      intro a b ha hb hab
      have := List.mem_range.1 ha
      have := List.mem_range.1 hb
      omega
    have := len_sub _ _ hnd hsub
    simp at this
    omega

/-! ### the document's pool -/

def refA (b : Nat) (s : PoolS) : Asn := exA fun sl : Slc => star (cells b #[.int .i64 s.most, .int .i64 s.taken, .slice sl.a sl.len sl.cap]) (ownS eI 1 sl (sortI s.used))

theorem refA_iff {h : Heap} {b : Nat} {s : PoolS} {R : List Asn} : sat h (refA b s :: R) ↔
    ∃ sl : Slc, sat h (cells b #[.int .i64 s.most, .int .i64 s.taken, .slice sl.a sl.len sl.cap] :: ownS eI 1 sl (sortI s.used) :: R) := by
  unfold refA
  rw [sat.ex_iff]
  constructor
  · rintro ⟨sl, hs⟩
    rw [sat.star_iff] at hs
    exact ⟨sl, hs⟩
  · rintro ⟨sl, hs⟩
    exact ⟨sl, by rw [sat.star_iff]; exact hs⟩

theorem refNew_spec {h : Heap} {R : List Asn} (hs : sat h R) (most : Int) {Q : Value → Heap → Prop}
    (hq : ∀ b h', sat h' (refA b ⟨max 1 (min most 64), 0, []⟩ :: R) → Q (at0 b) h') : HCalls Try.prog 13 #[.int .i64 most] h Q := by
  refine ref13_New_calls most h Q ?_
  unfold ref13_New
  have fin : ∀ n : Int, n = max 1 (min most 64) → HM.new (.cells #[.int .i64 n, .int .i64 0, .slice none 0 0] 46) h fun b h' => Q (at0 b) h' := by
    rintro n rfl
    refine new_cells hs fun b h2 hs2 => ?_
    have e : sortI ([] : List Int) = [] := by simp [sortI]
    exact hq b h2 (refA_iff.2 ⟨⟨none, 0, 0⟩, by rw [e]; exact (ownS_nil hs2).p1⟩)
  by_cases h1 : most < 1
  · simp [h1]
    exact fin 1 (by omega)
  · by_cases h2 : 64 < most
    · simp [h1, h2]
      exact fin 64 (by omega)
    · simp [h1, h2]
      exact fin most (by omega)

theorem In_spec {h : Heap} {R : List Asn} {b : Nat} {s : PoolS} {k : Int} (hs : sat h (refA b s :: R)) (hl : s.used.length ≤ 64) {Q : Value → Heap → Prop}
    (hq : Q (.bool (decide (k ∈ s.used))) h) : HCalls Try.prog 19 #[at0 b, .int .i64 k] h Q := by
  refine ref13_In_calls _ k h Q ?_
  obtain ⟨sl, hs⟩ := refA_iff.1 hs
  have c2 : cellH h ⟨b, 2, none⟩ = some (.slice sl.a sl.len sl.cap) := hs.cell 2
  have hrow := hs.p1.own_row eI_len
  have hlen := hs.p1.own_len
  rw [sortI_len] at hlen
  unfold ref13_In
  simp
  refine loop_gh (γ := Nat) (fun i c h' => h' = h ∧ c.1 = (i : Int) ∧ i ≤ s.used.length ∧ k ∉ (sortI s.used).take i) (fun i => s.used.length - i) 0 ⟨rfl, rfl, Nat.zero_le _, by simp⟩ ?_
  rintro i ⟨c, ⟨⟩⟩ h' ⟨rfl, hc, hi, hn⟩
  simp only at hc
  subst hc
  simp [c2]
  have next : IntKind.wrap .i64 ((i : Int) + 1) = ((i + 1 : Nat) : Int) := by rw [wrap_id (by omega) (by omega)]; rfl
  by_cases hlt : i < s.used.length
  · rw [if_pos (by omega)]
    have hlt' : i < (sortI s.used).length := by rw [sortI_len]; exact hlt
    refine idx_row hrow (List.getElem?_eq_getElem hlt') fun a ha => ?_
    have c0 : cellH h' a = some (.int .i64 (sortI s.used)[i]) := by simpa [Go.H.add_zero] using ha 0 _ rfl
    simp [c0]
    by_cases hk : (sortI s.used)[i] = k
    · have hm : k ∈ s.used := sortI_mem.1 (hk ▸ List.getElem_mem hlt')
      simp [hk]
      simpa [hm] using hq
    · simp [hk]
      refine ⟨i + 1, by omega, next, by omega, fun hm => ?_⟩
      rw [List.take_succ_eq_append_getElem hlt', List.mem_append] at hm
      rcases hm with hm | hm
      · exact hn hm
      · exact hk (List.mem_singleton.1 hm).symm
  · rw [if_neg (by omega)]
    rw [List.take_of_length_le (by rw [sortI_len]; omega)] at hn
    have hm : k ∉ s.used := fun hx => hn (sortI_mem.2 hx)
    simpa [hm] using hq


theorem put_spec {h : Heap} {R : List Asn} {b : Nat} {s : PoolS} {k : Int} (hs : sat h (refA b s :: R)) (hl : s.used.length ≤ 64) {Q : Value → Heap → Prop}
    (hq : ∀ h', sat h' (refA b ⟨s.most, s.taken, s.used ++ [k]⟩ :: R) → Q (.tuple #[]) h') : HCalls Try.prog 20 #[at0 b, .int .i64 k] h Q := by
  refine ref13_put_calls _ k h Q ?_
  obtain ⟨sl, hs⟩ := refA_iff.1 hs
  have hsort := sortI_sorted s.used
  have hLn := sortI_len s.used
  unfold ref13_put
  simp
  refine loop_gx (γ := Nat × List Int × List Int) (fun g c h' => c.2.2.1 = (g.1 : Int) ∧ g.1 ≤ s.used.length ∧ (sortI s.used).take g.1 = g.2.1 ++ g.2.2 ∧ (∀ x ∈ g.2.1, x ≤ k) ∧ (∀ x ∈ g.2.2, k ≤ x) ∧
      (c.1 = false → g.2.2 = []) ∧ (c.1 = true → ∃ y ∈ g.2.2, k < y) ∧
      sat h' (ownS eI 1 c.2.1 (if c.1 = true then g.2.1 ++ k :: g.2.2 else g.2.1) :: cells b #[.int .i64 s.most, .int .i64 s.taken, .slice sl.a sl.len sl.cap] :: ownS eI 1 sl (sortI s.used) :: R))
    (fun g => s.used.length - g.1) (0, [], []) ⟨rfl, Nat.zero_le _, rfl, by simp, by simp, by simp, by simp, ownS_nil hs⟩ ?_
  rintro ⟨i, a, bb⟩ ⟨done, out, c, ⟨⟩⟩ h1 ⟨hc, hi, ht, ha, hb, hd0, hd1, hs1⟩
  simp only at hc hi ht ha hb hd0 hd1 hs1
  subst hc
  have c2 : cellH h1 ⟨b, 2, none⟩ = some (.slice sl.a sl.len sl.cap) := hs1.p1.cell 2
  have hlen := hs1.p2.own_len
  rw [hLn] at hlen
  have next : IntKind.wrap .i64 ((i : Int) + 1) = ((i + 1 : Nat) : Int) := by rw [wrap_id (by omega) (by omega)]; rfl
  simp [c2]
  by_cases hlt : i < s.used.length
  · rw [if_pos (by omega)]
    have hlt' : i < (sortI s.used).length := by rw [hLn]; exact hlt
    have htk := List.take_succ_eq_append_getElem hlt'
    generalize hx : (sortI s.used)[i] = x at htk
    have hgx : (sortI s.used)[i]? = some x := by rw [← hx]; exact List.getElem?_eq_getElem hlt'
    have hle : ∀ y ∈ (sortI s.used).take i, y ≤ x := by
      have e := List.take_append_drop i (sortI s.used)
      rw [← e, List.pairwise_append] at hsort
      intro y hy
      refine hsort.2.2 y hy x ?_
      rw [List.drop_eq_getElem_cons hlt', hx]
      exact List.mem_cons_self ..
    have hal : a.length + bb.length = i := by
      have := congrArg List.length ht
      simp at this
      omega
    have hrow : ∀ {h2 : Heap} {A : Asn} {R' : List Asn}, sat h2 (A :: cells b #[.int .i64 s.most, .int .i64 s.taken, .slice sl.a sl.len sl.cap] :: ownS eI 1 sl (sortI s.used) :: R') → cellH h2 ⟨b, 2, none⟩ = some (.slice sl.a sl.len sl.cap) ∧ RowAt eI 1 h2 sl (sortI s.used) :=
      fun hs' => ⟨hs'.p1.cell 2, hs'.p2.own_row eI_len⟩
    have hx0 : ∀ {h2 : Heap} {a : Addr}, (∀ j v, (eI x)[j]? = some v → cellH h2 (a.add j) = some v) → cellH h2 a = some (.int .i64 x) := fun ha' => by simpa [Go.H.add_zero] using ha' 0 _ rfl
    have hlen9 : ∀ l : List Int, l.length ≤ 70 → (l.length + 1) * 8 ≤ 140737488355328 := fun l hl' => by omega
    cases done with
    | true =>
      simp at hs1 ⊢
      refine idx_row (hrow hs1).2 hgx fun ad had => ?_
      simp [hx0 had]
      refine app_new (x := x) eI_len eI_cell rfl hs1 (by omega) (by omega) (hlen9 _ (by simp; omega)) fun out2 h2 hs2 => ?_
      obtain ⟨y, hy1, hy2⟩ := hd1 rfl
      have hky : k ≤ x := by have := hle y (by rw [ht]; exact List.mem_append_right _ hy1); omega
      refine .mk (i + 1, a, bb ++ [x]) (by simp; omega) ⟨next, by simp; omega, by simp [htk, ht], ha, ?_, by simp, fun _ => ⟨y, by simp [hy1], hy2⟩, by simpa using hs2⟩
      intro z hz
      rcases List.mem_append.1 hz with hz | hz
      · exact hb z hz
      · rw [List.mem_singleton.1 hz]; exact hky
    | false =>
      simp at hs1 ⊢
      refine idx_row (hrow hs1).2 hgx fun ad had => ?_
      simp [hx0 had]
      by_cases hkx : k < x
      · simp [hkx]
        refine app_new (x := k) eI_len eI_cell rfl hs1 (by omega) (by omega) (hlen9 _ (by omega)) fun out1 h2 hs2 => ?_
        simp [(hrow hs2).1]
        refine idx_row (hrow hs2).2 hgx fun ad2 had2 => ?_
        simp [hx0 had2]
        refine app_new (x := x) eI_len eI_cell rfl hs2 (by omega) (by omega) (hlen9 _ (by simp; omega)) fun out2 h3 hs3 => ?_
        have hbb : bb = [] := hd0 rfl
        subst hbb
        refine .mk (i + 1, a, [x]) (by simp; omega) ⟨next, by simp; omega, by simpa [htk] using ht, ha, ?_, by simp, fun _ => ⟨x, by simp, hkx⟩, by simpa using hs3⟩
        intro z hz
        rw [List.mem_singleton.1 hz]; omega
      · simp [hkx]
        have hbb : bb = [] := hd0 rfl
        subst hbb
        simp [c2]
        refine idx_row (hrow hs1).2 hgx fun ad2 had2 => ?_
        simp [hx0 had2]
        refine app_new (x := x) eI_len eI_cell rfl hs1 (by omega) (by omega) (hlen9 _ (by omega)) fun out2 h3 hs3 => ?_
        refine .mk (i + 1, a ++ [x], []) (by simp; omega) ⟨next, by simp; omega, by simpa [htk] using ht, ?_, by simp, by simp, by simp, by simpa using hs3⟩
        intro z hz
        rcases List.mem_append.1 hz with hz | hz
        · exact ha z hz
        · rw [List.mem_singleton.1 hz]; omega
  · rw [if_neg (by omega)]
    have hie : i = s.used.length := by omega
    subst hie
    rw [List.take_of_length_le (by omega)] at ht
    have fin : ∀ (h2 : Heap) (out2 : Slc), sat h2 (ownS eI 1 out2 (sortI (s.used ++ [k])) :: cells b #[.int .i64 s.most, .int .i64 s.taken, .slice sl.a sl.len sl.cap] :: ownS eI 1 sl (sortI s.used) :: R) →
        HM.store1 ⟨b, 2, none⟩ (.slice out2.a out2.len out2.cap) h2 fun _ h' => Q (.tuple #[]) h' := by
      intro h2 out2 hs2
      refine store1_cells hs2.p1 (by simp) rfl fun h3 hs3 => hq h3 (refA_iff.2 ⟨out2, ?_⟩)
      exact hs3.p2.drop
    have hins := ins_sorted ht ha hb
    cases done with
    | true =>
      simp at hs1 ⊢
      rw [hins] at hs1
      exact fin _ _ hs1
    | false =>
      simp at hs1 ⊢
      have hbb : bb = [] := hd0 rfl
      subst hbb
      refine app_new (x := k) eI_len eI_cell rfl hs1 (by omega) (by omega) (by simp at ht; rw [← ht, hLn]; omega) fun out1 h2 hs2 => ?_
      rw [hins] at hs2
      exact fin _ _ hs2

theorem refLen {h : Heap} {R : List Asn} {b : Nat} {s : PoolS} (hs : sat h (refA b s :: R)) : ∃ sl : Slc, sl.len = s.used.length ∧ cellH h ⟨b, 0, none⟩ = some (.int .i64 s.most) ∧ cellH h ⟨b, 1, none⟩ = some (.int .i64 s.taken) ∧
    cellH h ⟨b, 2, none⟩ = some (.slice sl.a sl.len sl.cap) ∧ RowAt eI 1 h sl (sortI s.used) := by
  obtain ⟨sl, hs⟩ := refA_iff.1 hs
  refine ⟨sl, ?_, hs.cell 0, hs.cell 1, hs.cell 2, hs.p1.own_row eI_len⟩
  rw [hs.p1.own_len, sortI_len]

theorem refClaim_spec {h : Heap} {R : List Asn} {b : Nat} {s : PoolS} {k : Int} (hs : sat h (refA b s :: R)) (hok : s.ok) {Q : Value → Heap → Prop}
    (hbad : claimCode s k ≠ 0 → Q (.int .i64 (claimCode s k)) h)
    (hgood : claimCode s k = 0 → ∀ h', sat h' (refA b ⟨s.most, s.taken, s.used ++ [k]⟩ :: R) → Q (.int .i64 0) h') : HCalls Try.prog 14 #[at0 b, .int .i64 k] h Q := by
  refine ref13_Claim_calls _ _ h Q ?_
  obtain ⟨sl, hsl, c0, c1, c2, -⟩ := refLen hs
  have hl := hok.len
  have hm := hok.most64
  unfold ref13_Claim
  simp
  by_cases h1 : k < 1
  · simp [h1]; simpa [claimCode, h1] using hbad
  by_cases h2 : 65535 < k
  · simp [h1, h2]; simpa [claimCode, h2] using hbad
  simp [h1, h2]
  refine In_spec hs (by omega) ?_
  by_cases h3 : k ∈ s.used
  · simp [h3]
    have : claimCode s k = 145 := by simp [claimCode, h1, h2, h3]
    rw [this] at hbad
    exact hbad (by omega)
  simp [h3, c2, c0]
  by_cases h4 : (s.used.length : Int) = s.most
  · have : claimCode s k = 147 := by simp [claimCode, h1, h2, h3, h4]
    rw [this] at hbad
    rw [if_pos (by omega)]
    exact hbad (by omega)
  rw [if_neg (by omega)]
  refine put_spec hs (by omega) fun h' hs' => ?_
  simp
  exact hgood (by simp [claimCode, h1, h2, h3, h4]) h' hs'

theorem refFree_spec {h : Heap} {R : List Asn} {b : Nat} {s : PoolS} {k : Int} (hs : sat h (refA b s :: R)) (hok : s.ok) {Q : Value → Heap → Prop}
    (hq : ∀ h', sat h' (refA b ⟨s.most, s.taken, s.used.erase k⟩ :: R) → Q (.bool (decide (k ∈ s.used))) h') : HCalls Try.prog 15 #[at0 b, .int .i64 k] h Q := by
  refine ref13_Free_calls _ _ h Q ?_
  have hl : s.used.length ≤ 64 := by have := hok.len; have := hok.most64; omega
  obtain ⟨sl, hs⟩ := refA_iff.1 hs
  have hLn := sortI_len s.used
  unfold ref13_Free
  simp
  refine loop_gx (γ := Nat) (fun i c h' => c.2.1 = (i : Int) ∧ i ≤ s.used.length ∧
      sat h' (ownS eI 1 c.1 (((sortI s.used).take i).filter fun x => !(x == k)) :: cells b #[.int .i64 s.most, .int .i64 s.taken, .slice sl.a sl.len sl.cap] :: ownS eI 1 sl (sortI s.used) :: R))
    (fun i => s.used.length - i) 0 ⟨rfl, Nat.zero_le _, ownS_nil hs⟩ ?_
  rintro i ⟨out, c, ⟨⟩⟩ h1 ⟨hc, hi, hs1⟩
  simp only at hc hs1
  subst hc
  have c2 : cellH h1 ⟨b, 2, none⟩ = some (.slice sl.a sl.len sl.cap) := hs1.p1.cell 2
  have hlen := hs1.p2.own_len
  rw [hLn] at hlen
  have hrow := hs1.p2.own_row eI_len
  have next : IntKind.wrap .i64 ((i : Int) + 1) = ((i + 1 : Nat) : Int) := by rw [wrap_id (by omega) (by omega)]; rfl
  simp [c2]
  by_cases hlt : i < s.used.length
  · rw [if_pos (by omega)]
    have hlt' : i < (sortI s.used).length := by rw [hLn]; exact hlt
    have htk := List.take_succ_eq_append_getElem hlt'
    generalize hx : (sortI s.used)[i] = x at htk
    have hgx : (sortI s.used)[i]? = some x := by rw [← hx]; exact List.getElem?_eq_getElem hlt'
    refine idx_row hrow hgx fun ad had => ?_
    have e0 : cellH h1 ad = some (.int .i64 x) := by simpa [Go.H.add_zero] using had 0 _ rfl
    simp [e0]
    by_cases hkx : x = k
    · simp [hkx]
      refine .mk (i + 1) (by omega) ⟨next, by omega, ?_⟩
      rw [htk]
      simpa [hkx] using hs1
    · simp [hkx, c2]
      refine idx_row hrow hgx fun ad2 had2 => ?_
      have e1 : cellH h1 ad2 = some (.int .i64 x) := by simpa [Go.H.add_zero] using had2 0 _ rfl
      simp [e1]
      refine app_new (x := x) eI_len eI_cell rfl hs1 (by omega) (by omega) ?_ fun out2 h2 hs2 => ?_
      · have := List.length_filter_le (fun x => !(x == k)) ((sortI s.used).take i)
        have := List.length_take_le i (sortI s.used)
        omega
      refine .mk (i + 1) (by omega) ⟨next, by omega, ?_⟩
      rw [htk]
      simpa [hkx] using hs2
  · rw [if_neg (by omega)]
    rw [List.take_of_length_le (by omega), del_sorted hok.nodup] at hs1
    have hol := hs1.own_len
    rw [sortI_len] at hol
    refine store1_cells hs1.p1 (by simp) rfl fun h3 hs3 => ?_
    have := hq h3 (refA_iff.2 ⟨out, hs3.p2.drop⟩)
    have e : decide (out.len < sl.len) = decide (k ∈ s.used) := by
      rw [hol, hlen, List.length_erase]
      by_cases hm : k ∈ s.used
      · have := List.length_pos_of_mem hm
        simp [hm]; omega
      · simp [hm]
    rw [e]
    exact this

theorem refTake_spec {h : Heap} {R : List Asn} {b : Nat} {s : PoolS} (hs : sat h (refA b s :: R)) (hok : s.ok) {Q : Value → Heap → Prop}
    (hfull : (s.used.length : Int) = s.most → Q (.tuple #[.int .i64 0, .int .i64 147]) h)
    (hgood : (s.used.length : Int) ≠ s.most → ∀ n u, Reach s.used n s.taken u → ∀ h', sat h' (refA b ⟨s.most, u, s.used ++ [u]⟩ :: R) → Q (.tuple #[.int .i64 u, .int .i64 0]) h') :
    HCalls Try.prog 16 #[at0 b] h Q := by
  refine ref13_Take_calls _ h Q ?_
  obtain ⟨sl, hsl, c0, c1, c2, -⟩ := refLen hs
  have hl := hok.len
  have hm := hok.most64
  unfold ref13_Take
  simp [c2, c0]
  by_cases h4 : (s.used.length : Int) = s.most
  · rw [if_pos (by omega)]
    exact hfull h4
  rw [if_neg (by omega)]
  simp [c1]
  obtain ⟨n, u, hn, hu⟩ := reach_soon s.used s.taken hok.taken0 hok.taken1 hok.nodup (by omega)
  have hur := hu.range hok.taken0
  refine loop_gx (γ := Nat × Int) (fun g c h' => h' = h ∧ c.1 = g.2 ∧ 0 ≤ g.2 ∧ g.2 ≤ 65535 ∧ 0 ≤ c.2.1 ∧ c.2.1 + g.1 ≤ 64 ∧ Reach s.used g.1 g.2 u) (fun g => g.1) (n, s.taken)
    ⟨rfl, rfl, hok.taken0, hok.taken1, by simp, by simp; omega, hu⟩ ?_
  rintro ⟨n', t⟩ ⟨cid, cj, ⟨⟩⟩ h1 ⟨rfl, hc, ht0, ht1, hj0, hj1, hr⟩
  simp only at hc ht0 ht1 hj0 hj1 hr
  subst hc
  have hnx : (if 65535 < IntKind.wrap .i64 (cid + 1) then (1 : Int) else IntKind.wrap .i64 (cid + 1)) = nxt cid := by
    rw [wrap_id (by omega) (by omega)]; unfold nxt; split <;> omega
  have hnr := nxt_range ht0
  have step : ∀ Q' : Value → Heap → Prop, (nxt cid ∈ s.used → Q' (.bool true) h1) → (nxt cid ∉ s.used → Q' (.bool false) h1) → HCalls Try.prog 19 #[at0 b, .int .i64 (nxt cid)] h1 Q' := by
    intro Q' q1 q2
    refine In_spec hs (by omega) ?_
    by_cases hin : nxt cid ∈ s.used
    · simpa [hin] using q1 hin
    · simpa [hin] using q2 hin
  have fin : nxt cid ∉ s.used → HM.store1 ⟨b, 1, none⟩ (.int .i64 (nxt cid)) h1 fun _ h2 => HCalls Try.prog 20 #[at0 b, .int .i64 (nxt cid)] h2 (KTup.un [] fun _ h3 => Q (.tuple #[.int .i64 (nxt cid), .int .i64 0]) h3) := by
    intro hin
    have hu2 : u = nxt cid := hr.det (.here hin)
    subst hu2
    obtain ⟨sl', hs'⟩ := refA_iff.1 hs
    refine store1_cells hs' (by simp) rfl fun h2 hs2 => ?_
    have hs3 : sat h2 (refA b ⟨s.most, nxt cid, s.used⟩ :: R) := refA_iff.2 ⟨sl', hs2⟩
    refine put_spec hs3 (show s.used.length ≤ 64 by omega) fun h3 hs4 => ?_
    simp
    exact hgood h4 n _ hu h3 hs4
  have nextj : IntKind.wrap .i64 (cj + 1) = cj + 1 := wrap_id (by omega) (by omega)
  have hcj : cj ≤ 64 := by omega
  simp [hcj]
  have w1 : IntKind.wrap .i64 (cid + 1) = cid + 1 := wrap_id (by omega) (by omega)
  rw [w1, nextj]
  have fin1 : ∀ m : Int, m = nxt cid → HCalls Try.prog 19 #[at0 b, .int .i64 m] h1 ((Kind.one Tag.bool).un fun b_1 h' =>
      if b_1 = true then Go.H.Next (fun (g : Nat × Int) (c : Int × Int × Unit) h' => h' = h1 ∧ c.1 = g.2 ∧ 0 ≤ g.2 ∧ g.2 ≤ 65535 ∧ 0 ≤ c.2.1 ∧ c.2.1 + g.1 ≤ 64 ∧ Reach s.used g.1 g.2 u) (fun g => g.1) (n', cid) (m, cj + 1, ()) h'
      else HM.store1 ⟨b, 1, none⟩ (.int .i64 m) h' fun b_2 h' => HCalls Try.prog 20 #[at0 b, .int .i64 m] h' (KTup.un [] fun _ h3 => Q (.tuple #[.int .i64 m, .int .i64 0]) h3)) := by
    rintro m rfl
    refine step _ (fun hin => ?_) (fun hin => ?_)
    · simp
      cases hr with
      | here hx => exact absurd hin hx
      | on hm' hr' => exact .mk (_, nxt cid) (Nat.lt_succ_self _) ⟨rfl, rfl, by simp; omega, by simp; omega, by simp; omega, by simp at hj1 ⊢; omega, hr'⟩
    · simp
      exact fin hin
  by_cases h65 : 65535 < cid + 1
  · rw [if_pos h65]
    exact fin1 1 (by unfold nxt; omega)
  · rw [if_neg h65]
    exact fin1 (cid + 1) (by unfold nxt; omega)

end Go.Proofs.Ythedaikdfhopoaa
