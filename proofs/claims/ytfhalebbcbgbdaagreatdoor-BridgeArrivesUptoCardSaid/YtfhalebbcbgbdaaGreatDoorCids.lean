/-
  Cids: contracts of package ids.
-/
import Derived.Test.YtfhalebbcbgbdaaGreatDoorSh
import Derived.Test.YtfhalebbcbgbdaaGreatDoorHB
namespace Go.Proofs.YtfhalebbcbgbdaaGreatDoor
set_option linter.unusedSimpArgs false
open Go.H Go.Proofs
set_option linter.unusedVariables false
set_option synthInstance.maxSize 100000
set_option synthInstance.maxHeartbeats 400000

/-! ### the plain pool -/

structure PoolS where
  most : Int
  taken : Int
  used : List Int

structure PoolS.ok (s : PoolS) : Prop where
  most1 : 1 ≤ s.most
  most64 : s.most ≤ 64
  taken0 : 0 ≤ s.taken
  taken1 : s.taken ≤ 65535
  len : (s.used.length : Int) ≤ s.most
  nodup : s.used.Nodup
  range : ∀ k ∈ s.used, 1 ≤ k ∧ k ≤ 65535

/-- the identifier behind t -/
def nxt (t : Int) : Int := t % 65535 + 1

/-- so many steps on the next one that isn't in use -/
inductive Reach (used : List Int) : Nat → Int → Int → Prop
  | here {t : Int} : nxt t ∉ used → Reach used 0 t (nxt t)
  | on {n : Nat} {t u : Int} : nxt t ∈ used → Reach used n (nxt t) u → Reach used (n + 1) t u

def asMap (l : List Int) : List (Int × Bool) := l.map fun k => (k, true)

theorem mget_asMap (l : List Int) (k : Int) : mget (asMap l) k = if k ∈ l then some true else none := by
  induction l with
  | nil => rfl
  | cons a l ih =>
    simp only [asMap, List.map_cons] at ih ⊢
    rw [mget_cons, ih]
    by_cases h : a = k
    · simp [h]
    · simp [h, Ne.symm h]

theorem mset_asMap (l : List Int) (k : Int) (h : k ∉ l) : mset (asMap l) k true = asMap (l ++ [k]) := by
  rw [mset_none _ _ _ (by rw [mget_asMap, if_neg h])]
  simp [asMap]

theorem mdel_asMap (l : List Int) (k : Int) : mdel (asMap l) k = asMap (l.erase k) := by
  induction l with
  | nil => rfl
  | cons a l ih =>
    simp only [asMap, List.map_cons, mdel] at ih ⊢
    by_cases h : a = k
    · simp [h]
    · rw [if_neg h, ih, List.erase_cons_tail (by simpa using h)]
      simp

def poolA (b : Nat) (s : PoolS) : Asn := exA fun m => star (pr s.ok) (star (cells b #[.int .i64 s.most, .int .i64 s.taken, .map (some m)]) (mapA (fun n : Int => .int .i64 n) (Kind.val (.one .bool)) m (asMap s.used)))

theorem poolA_iff {h : Heap} {b : Nat} {s : PoolS} {R : List Asn} : sat h (poolA b s :: R) ↔
    ∃ m, s.ok ∧ sat h (cells b #[.int .i64 s.most, .int .i64 s.taken, .map (some m)] :: mapA (fun n : Int => .int .i64 n) (Kind.val (.one .bool)) m (asMap s.used) :: R) := by
  unfold poolA
  rw [sat.ex_iff]
  constructor
  · rintro ⟨m, hs⟩
    rw [sat.star_iff, sat.pr_iff, sat.star_iff] at hs
    exact ⟨m, hs⟩
  · rintro ⟨m, h1, hs⟩
    exact ⟨m, by rw [sat.star_iff, sat.pr_iff, sat.star_iff]; exact ⟨h1, hs⟩⟩

abbrev kI := key_int .i64
abbrev at0 (b : Nat) : Value := .pointer (some ⟨b, 0, none⟩)

theorem New_spec {h : Heap} {R : List Asn} (hs : sat h R) (most : Int) {Q : Value → Heap → Prop}
    (hq : ∀ b h', sat h' (poolA b ⟨max 1 (min most 64), 0, []⟩ :: R) → Q (at0 b) h') : HCalls Tryz.prog 67 #[.int .i64 most] h Q := by
  refine ids_New_calls most h Q ?_
  unfold ids_New
  simp only [HM.bind_apply]
  refine new_map (ek := fun n : Int => Value.int .i64 n) (ev := Kind.val (.one .bool)) hs fun m h1 hs1 => ?_
  refine new_cells hs1 fun b h2 hs2 => ?_
  simp only [HM.pure_apply]
  refine hq b h2 (poolA_iff.2 ⟨m, ⟨?_, ?_, ?_, ?_, ?_, ?_, ?_⟩, ?_⟩)
  all_goals try (simp; done)
  all_goals try (simp; omega)
  have e : (if 1 < (if 64 < most then (64 : Int) else most) then (if 64 < most then 64 else most) else 1) = max 1 (min most 64) := by
    split <;> split <;> omega
  rw [e] at hs2
  exact hs2

theorem Left_spec {h : Heap} {R : List Asn} {b : Nat} {s : PoolS} (hs : sat h (poolA b s :: R)) {Q : Value → Heap → Prop}
    (hq : Q (.int .i64 (s.most - s.used.length)) h) : HCalls Tryz.prog 160 #[at0 b] h Q := by
  refine ids_Pool_Left_calls _ h Q ?_
  obtain ⟨m, hok, hs⟩ := poolA_iff.1 hs
  have c0 : cellH h ⟨b, 0, none⟩ = some (.int .i64 s.most) := hs.cell 0
  have c2 : cellH h ⟨b, 2, none⟩ = some (.map (some m)) := hs.cell 2
  unfold ids_Pool_Left
  simp [c0, c2]
  refine len_map hs.p1 ?_
  have := hok.len; have := hok.most64
  rw [wrap_id (by simp [asMap]; omega) (by simp [asMap]; omega)]
  simpa [asMap] using hq

theorem Left_nil {h : Heap} {Q : Value → Heap → Prop} (hq : Q (.int .i64 0) h) : HCalls Tryz.prog 160 #[.pointer none] h Q := by
  refine ids_Pool_Left_calls _ h Q ?_
  unfold ids_Pool_Left
  simpa using hq

theorem ok_add {s : PoolS} (h : s.ok) {k : Int} (h1 : 1 ≤ k) (h2 : k ≤ 65535) (hn : k ∉ s.used) (hl : (s.used.length : Int) < s.most) {t : Int} (t0 : 0 ≤ t) (t1 : t ≤ 65535) : PoolS.ok ⟨s.most, t, s.used ++ [k]⟩ := by
  refine ⟨h.most1, h.most64, t0, t1, by simp; omega, ?_, ?_⟩
  · rw [List.nodup_append]
    refine ⟨h.nodup, by simp, ?_⟩
    rintro a ha b hb rfl
    simp at hb
    subst hb
    exact hn ha
  · intro a ha
    simp at ha
    rcases ha with ha | rfl
    · exact h.range a ha
    · exact ⟨h1, h2⟩

theorem ok_del {s : PoolS} (h : s.ok) (k : Int) : PoolS.ok ⟨s.most, s.taken, s.used.erase k⟩ := by
  refine ⟨h.most1, h.most64, h.taken0, h.taken1, ?_, h.nodup.erase k, fun a ha => h.range a (List.mem_of_mem_erase ha)⟩
  have := List.length_erase_le (a := k) (l := s.used)
  have := h.len
  simp only
  omega

/-- what Claim answers -/
def claimCode (s : PoolS) (k : Int) : Int :=
  if k < 1 ∨ 65535 < k then 129 else if k ∈ s.used then 145 else if (s.used.length : Int) = s.most then 147 else 0


theorem Free_spec {h : Heap} {R : List Asn} {b : Nat} {s : PoolS} {k : Int} (hs : sat h (poolA b s :: R)) {Q : Value → Heap → Prop}
    (hq : ∀ h', sat h' (poolA b ⟨s.most, s.taken, s.used.erase k⟩ :: R) → Q (.bool (decide (k ∈ s.used))) h') : HCalls Tryz.prog 115 #[at0 b, .int .i64 k] h Q := by
  refine ids_Pool_Free_calls _ _ h Q ?_
  obtain ⟨m, hi, hs'⟩ := poolA_iff.1 hs
  have c0 : cellH h ⟨b, 0, none⟩ = some (.int .i64 s.most) := hs'.cell 0
  have c2 : cellH h ⟨b, 2, none⟩ = some (.map (some m)) := hs'.cell 2
  unfold ids_Pool_Free
  simp [c0, c2]
  refine lookup_map kI (kind := .one .bool) (z := false) rfl hs'.p1 ?_
  rw [mget_asMap]
  by_cases h3 : k ∈ s.used
  · simp [h3]
    simp [c2]
    refine del_map kI (ev := Kind.val (.one .bool)) hs'.p1 fun h' hs2 => ?_
    have := hq h' (poolA_iff.2 ⟨m, ok_del hi k, by rw [mdel_asMap] at hs2; exact hs2.p1⟩)
    simpa [h3] using this
  · simp [h3]
    have he : s.used.erase k = s.used := List.erase_of_not_mem h3
    have := hq h (by rw [he]; exact hs)
    simpa [h3] using this

theorem nxt_range {t : Int} (h0 : 0 ≤ t) : 1 ≤ nxt t ∧ nxt t ≤ 65535 := by unfold nxt; omega

theorem Reach.range {used : List Int} {n : Nat} {t u : Int} (h : Reach used n t u) (h0 : 0 ≤ t) : 1 ≤ u ∧ u ≤ 65535 ∧ u ∉ used := by
  induction h with
  | here hn => exact ⟨(nxt_range h0).1, (nxt_range h0).2, hn⟩
  | on _ _ ih => exact ih (by have := (nxt_range h0).1; omega)

theorem len_sub {α : Type} [DecidableEq α] : ∀ (l1 l2 : List α), l1.Nodup → (∀ x ∈ l1, x ∈ l2) → l1.length ≤ l2.length
  | [], _, _, _ => by simp
  | x :: xs, l2, hnd, hs => by
    have h1 := List.nodup_cons.1 hnd
    have h2 := len_sub xs (l2.erase x) h1.2 (fun y hy => (List.mem_erase_of_ne (fun e => h1.1 (by rw [← e]; exact hy))).2 (hs y (List.mem_cons_of_mem _ hy)))
    have h3 := List.length_erase_of_mem (hs x (List.mem_cons_self ..))
    have h4 := List.length_pos_of_mem (hs x (List.mem_cons_self ..))
    simp only [List.length_cons]
    omega

/-- a free one is reached -/
theorem reach_ex (used : List Int) (t : Int) (h0 : 0 ≤ t) (h1 : used.Nodup) (h2 : used.length < 65535) : ∃ n u, Reach used n t u := by
  -- the first j steps
  have key : ∀ (j : Nat), j ≤ 65535 → ∀ t, 0 ≤ t → t ≤ 65535 → (∃ n u, Reach used n t u) ∨ ∀ i, i < j → ((t + i) % 65535 + 1) ∈ used := by
    intro j
    induction j with
    | zero => intro _ t _ _; exact .inr (fun i hi => by omega)
    | succ j ih =>
      intro hj t ht0 ht1
      by_cases hm : nxt t ∈ used
      · have hr := nxt_range ht0
        rcases ih (by omega) (nxt t) (by omega) (by omega) with ⟨n, u, hu⟩ | hall
        · exact .inl ⟨n + 1, u, .on hm hu⟩
        · refine .inr fun i hi => ?_
          cases i with
          | zero => simpa [nxt] using hm
          | succ i =>
            have := hall i (by omega)
            have e : ((nxt t + (i : Int)) % 65535 + 1) = ((t + ((i + 1 : Nat) : Int)) % 65535 + 1) := by unfold nxt; omega
            rw [e] at this
            exact this
      · exact .inl ⟨0, nxt t, .here hm⟩
  have hpre : ∃ t', 0 ≤ t' ∧ t' ≤ 65535 ∧ nxt t' = nxt t ∧ True := ⟨t % 65535, by omega, by omega, by unfold nxt; omega, trivial⟩
  obtain ⟨t', a0, a1, a2, -⟩ := hpre
  have move : ∀ n u, Reach used n t' u → Reach used n t u := by
    intro n u hr
    cases hr with
    | here hn => rw [a2] at hn ⊢; exact .here hn
    | on hm hr => rw [a2] at hm hr; exact .on hm hr
  rcases key 65535 (Nat.le_refl _) t' a0 a1 with ⟨n, u, hu⟩ | hall
  · exact ⟨n, u, move n u hu⟩
  · exfalso
    -- all 65535 of them would be in use
    have hsub : ∀ x ∈ ((List.range 65535).map fun (i : Nat) => ((t' + (i : Int)) % 65535 + 1)), x ∈ used := by
      intro x hx
      obtain ⟨i, hi, rfl⟩ := List.mem_map.1 hx
      exact hall i (List.mem_range.1 hi)
    have hnd : ((List.range 65535).map fun (i : Nat) => ((t' + (i : Int)) % 65535 + 1)).Nodup := by
      refine List.pairwise_map.2 (List.Pairwise.imp_of_mem ?_ List.pairwise_lt_range)
      intro a b ha hb hab
      have := List.mem_range.1 ha
      have := List.mem_range.1 hb
      omega
    have := len_sub _ _ hnd hsub
    simp at this
    omega

theorem Reach.det {used : List Int} {n n' : Nat} {t u u' : Int} (h : Reach used n t u) (h' : Reach used n' t u') : u = u' := by
  induction h generalizing n' with
  | here hn =>
    cases h' with
    | here _ => rfl
    | on hm _ => exact absurd hm hn
  | on hm _ ih =>
    cases h' with
    | here hn => exact absurd hm hn
    | on _ h2 => exact ih h2

theorem wrap_nxt {t : Int} (h0 : 0 ≤ t) : IntKind.wrap .i64 (Int.tmod t 65535 + 1) = nxt t := by
  have e : Int.tmod t 65535 = t % 65535 := Int.tmod_eq_emod_of_nonneg h0
  rw [e, wrap_id (by omega) (by omega)]
  rfl

theorem Take_spec {h : Heap} {R : List Asn} {b : Nat} {s : PoolS} (hs : sat h (poolA b s :: R)) {Q : Value → Heap → Prop}
    (hfull : (s.used.length : Int) = s.most → Q (.tuple #[.int .i64 0, .int .u8 147]) h)
    (hok : (s.used.length : Int) ≠ s.most → ∀ n u, Reach s.used n s.taken u → ∀ h', sat h' (poolA b ⟨s.most, u, s.used ++ [u]⟩ :: R) → Q (.tuple #[.int .i64 u, .int .u8 0]) h') :
    HCalls Tryz.prog 117 #[at0 b] h Q := by
  refine ids_Pool_Take_calls _ h Q ?_
  obtain ⟨m, hi, hs'⟩ := poolA_iff.1 hs
  unfold ids_Pool_Take
  simp
  refine Left_spec hs ?_
  simp
  have hl := hi.len
  have hm64 := hi.most64
  by_cases h4 : (s.used.length : Int) = s.most
  · simp [h4]
    exact hfull h4
  have h5 : ¬ (s.most - (s.used.length : Int) = 0) := by omega
  simp [h5]
  obtain ⟨n, u, hu⟩ := reach_ex s.used s.taken hi.taken0 hi.nodup (by omega)
  have hur := hu.range hi.taken0
  refine loop_gh (γ := Nat × Int) (fun g _ h => Reach s.used g.1 g.2 u ∧ 0 ≤ g.2 ∧ g.2 ≤ 65535 ∧ sat h (cells b #[.int .i64 s.most, .int .i64 g.2, .map (some m)] :: mapA (fun n : Int => .int .i64 n) (Kind.val (.one .bool)) m (asMap s.used) :: R))
    (fun g => g.1) (n, s.taken) ⟨hu, hi.taken0, hi.taken1, hs'⟩ ?_
  · rintro ⟨n, t⟩ - h1 ⟨hr, t0, t1, hs1⟩
    have c1 : cellH h1 ⟨b, 1, none⟩ = some (.int .i64 t) := hs1.cell 1
    simp [c1]
    rw [wrap_nxt t0]
    refine store1_cells hs1 (by simp) rfl fun h2 hs2 => ?_
    have d1 : cellH h2 ⟨b, 1, none⟩ = some (.int .i64 (nxt t)) := hs2.cell 1
    have d2 : cellH h2 ⟨b, 2, none⟩ = some (.map (some m)) := hs2.cell 2
    have hn := nxt_range t0
    simp [d1, d2]
    refine lookup_map kI (kind := .one .bool) (z := false) rfl hs2.p1 ?_
    rw [mget_asMap]
    cases hr with
    | here hn' =>
      simp [hn']
      simp [d2, d1]
      refine set_map kI (inj_int .i64) (ev := Kind.val (.one .bool)) (x := true) hs2.p1 fun h3 hs3 => ?_
      rw [mset_asMap _ _ hn'] at hs3
      have e1 : cellH h3 ⟨b, 1, none⟩ = some (.int .i64 (nxt t)) := hs3.p1.cell 1
      simp [e1]
      refine hok h4 n _ hu h3 (poolA_iff.2 ⟨m, ok_add hi (by omega) (by omega) hn' (by omega) (by omega) (by omega), hs3.p1⟩)
    | on hm' hr' =>
      simp [hm']
      exact ⟨_, Nat.lt_succ_self _, _, hr', Int.le_trans (by omega) hn.1, hn.2, hs2⟩

theorem Take_nil {h : Heap} {Q : Value → Heap → Prop} (hq : Q (.tuple #[.int .i64 0, .int .u8 128]) h) : HCalls Tryz.prog 117 #[.pointer none] h Q := by
  refine ids_Pool_Take_calls _ h Q ?_
  unfold ids_Pool_Take
  simpa using hq


theorem Free_nil {h : Heap} {k : Int} {Q : Value → Heap → Prop} (hq : Q (.bool false) h) : HCalls Tryz.prog 115 #[.pointer none, .int .i64 k] h Q := by
  refine ids_Pool_Free_calls _ _ h Q ?_
  unfold ids_Pool_Free
  simpa using hq

end Go.Proofs.YtfhalebbcbgbdaaGreatDoor
