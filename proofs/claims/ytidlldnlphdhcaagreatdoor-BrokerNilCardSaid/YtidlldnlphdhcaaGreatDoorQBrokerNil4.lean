/-
  QBrokerNil4: what the proof BrokerNilProof reaches of our texts: Cinf, Lm09, Ctrf, Ctrg, Lbrk, Cbk0, Lbkp, Kses, Csel, C18, Cfnd, Cofm, Hdel, Cofa, Cbk1, Ctrk, Cbk2, Cbk3, Cbk4, Cbk5, Cbk6, Lbkq, Cbk7, Cbk8, Lbkr.
-/
import Derived.Test.YtidlldnlphdhcaaGreatDoorQBrokerNil3
import Derived.Test.YtidlldnlphdhcaaGreatDoorProg
import Derived.KernelRfl
namespace Go.Proofs.YtidlldnlphdhcaaGreatDoor
open Go.H Go.Proofs
set_option linter.unusedSimpArgs false
set_option linter.unusedVariables false
set_option synthInstance.maxSize 100000
set_option synthInstance.maxHeartbeats 400000
theorem Index_spec {h : Heap} {s : Slc} {xs : List Int} {x : Int} (hx : RowAt eI 1 h s xs) (hb : xs.length ≤ 4611686018427387904) {Q : Value → Heap → Prop}
    (hno : x ∉ xs → Q (.int .i64 (-1)) h) (hyes : x ∈ xs → ∀ i : Nat, xs[i]? = some x → Q (.int .i64 i) h) :
    HCalls Tryz.prog 266 #[.slice s.a s.len s.cap, .int .i64 x] h Q := by
  refine slices_Index_calls s x h Q ?_
  unfold q_hj
  simp
  have h1 := hx.1
  refine q_cv (γ := Nat) (fun i c h' => h' = h ∧ c.1 = (i : Int) ∧ i ≤ xs.length ∧ x ∉ xs.take i) (fun i => xs.length - i) 0 ⟨rfl, rfl, Nat.zero_le _, by simp⟩ ?_
  rintro i ⟨c, ⟨⟩⟩ h' ⟨rfl, hc, hi, hn⟩
  simp only at hc
  subst hc
  have next : IntKind.wrap .i64 ((i : Int) + 1) = ((i + 1 : Nat) : Int) := by rw [q_al (by omega) (by omega)]; rfl
  simp
  by_cases hlt : i < xs.length
  · rw [if_pos (by omega)]
    refine q_bi hx (List.getElem?_eq_getElem hlt) fun a ha => ?_
    have c0 : cellH h' a = some (.int .i64 xs[i]) := by simpa [Go.H.add_zero] using ha 0 _ rfl
    simp [c0]
    by_cases he : x = xs[i]
    · rw [if_pos he]
      exact hyes (he ▸ List.getElem_mem hlt) i (by rw [he]; exact List.getElem?_eq_getElem hlt)
    · rw [if_neg he]
      refine .mk (i + 1) (by omega) ⟨rfl, next, by omega, fun hm => ?_⟩
      rw [List.take_succ_eq_append_getElem hlt, List.mem_append] at hm
      rcases hm with hm | hm
      · exact hn hm
      · exact he (List.mem_singleton.1 hm)
  · rw [if_neg (by omega)]
    rw [List.take_of_length_le (by omega)] at hn
    exact hno hn
theorem ContainsI_spec {h : Heap} {s : Slc} {xs : List Int} {x : Int} (hx : RowAt eI 1 h s xs) (hb : xs.length ≤ 4611686018427387904) {Q : Value → Heap → Prop}
    (hq : Q (.bool (decide (x ∈ xs))) h) :
    HCalls Tryz.prog 250 #[.slice s.a s.len s.cap, .int .i64 x] h Q := by
  refine q_hk s x h Q ?_
  unfold q_dx
  simp
  refine Index_spec hx hb (fun hn => ?_) (fun hy i hi => ?_)
  · simpa [hn] using hq
  · simpa [hy] using hq
theorem infHas_spec {h : Heap} {R : List Asn} {f : Nat} {s : PoolS} {k : Int} (hs : sat h (flowA f s :: R)) {Q : Value → Heap → Prop}
    (hq : ∀ h', sat h' (flowA f s :: R) → Q (.bool (decide (k ∈ s.used))) h') : HCalls Tryz.prog 208 #[at0 f, .int .i64 k] h Q := by
  refine q_h3 _ k h Q ?_
  obtain ⟨b, hs⟩ := q_d9.1 hs
  have c0 : cellH h ⟨f, 0, none⟩ = some (at0 b) := hs.cell 0
  unfold q_d7
  simp [c0]
  refine Used_spec hs.p1 fun sl h1 hs1 => ?_
  obtain ⟨_, hok, -⟩ := q_a9.1 hs1.p1
  have hl := hok.len
  have hm := hok.most64
  simp only [un_slc]
  refine ContainsI_spec (hs1.own_row eI_len) (by simp [sortI, List.length_mergeSort]; omega) ?_
  have e : decide (k ∈ sortI s.used) = decide (k ∈ s.used) := by simp [sortI]
  simp only [un_bool, e]
  exact hq h1 (q_d9.2 ⟨b, hs1.drop.p1⟩)
theorem q_bb {h : Heap} {R : List Asn} (hs : sat h R) (k id c : Int) {Q : Value → Heap → Prop}
    (hq : ∀ b h', sat h' (cells b (Pk_c (Pk_a k id c)) :: R) → Q (.slice (some ⟨b, 0, none⟩) 1 1) h') : HCalls Tryz.prog 159 #[.int .i64 k, .int .i64 id, .int .u8 c] h Q := by
  refine inflow_answer_calls k id c h Q ?_
  unfold q_ga
  simp only [HM.bind_apply]
  refine q_ae hs fun b h1 hs1 => ?_
  simp only [HM.call1_apply]
  refine inflow_all_calls ⟨some ⟨b, 0, none⟩, 1, 1⟩ h1 _ ?_
  unfold inflow_all
  simp
  exact hq b h1 hs1
def takeBad (k q id : Int) : Prop := (k ≠ 3 ∧ k ≠ 6) ∨ (k = 3 ∧ (q < 0 ∨ 2 < q)) ∨ (¬ (k = 3 ∧ q = 0) ∧ (id < 1 ∨ 65535 < id))
instance (k q id : Int) : Decidable (takeBad k q id) := by unfold takeBad; infer_instance
def takeR (s : PoolS) (k q id why : Int) : Bool × Option (Int × Int) × Int × List Int :=
  if takeBad k q id then (false, none, 130, s.used)
  else if k = 3 ∧ q = 0 then (true, none, 0, s.used)
  else if k = 6 then (false, some (7, if id ∈ s.used then 0 else 146), 0, s.used.erase id)
  else if q = 1 then (true, some (4, why), 0, s.used)
  else if id ∈ s.used then (false, some (5, 0), 0, s.used)
  else if (s.used.length : Int) = s.most then (false, none, 147, s.used)
  else (true, some (5, why), 0, if why < 128 then s.used ++ [id] else s.used)
theorem infTwo_spec {h : Heap} {R : List Asn} {f : Nat} {s : PoolS} {id why : Int} (hs : sat h (flowA f s :: R)) (h1 : 1 ≤ id) (h2 : id ≤ 65535) {Q : Value → Heap → Prop}
    (hn : (takeR s 3 2 id why).2.1 = none → ∀ h', sat h' (flowA f ⟨s.most, s.taken, (takeR s 3 2 id why).2.2.2⟩ :: R) → Q (.tuple #[.bool (takeR s 3 2 id why).1, .slice none 0 0, .int .u8 (takeR s 3 2 id why).2.2.1]) h')
    (hy : ∀ k c, (takeR s 3 2 id why).2.1 = some (k, c) → ∀ b h', sat h' (cells b (Pk_c (Pk_a k id c)) :: flowA f ⟨s.most, s.taken, (takeR s 3 2 id why).2.2.2⟩ :: R) →
      Q (.tuple #[.bool (takeR s 3 2 id why).1, .slice (some ⟨b, 0, none⟩) 1 1, .int .u8 (takeR s 3 2 id why).2.2.1]) h') :
    HCalls Tryz.prog 160 #[at0 f, .int .i64 id, .int .u8 why] h Q := by
  have nb : ¬ takeBad 3 2 id := by unfold takeBad; omega
  simp [takeR, nb] at hn hy
  refine q_h2 _ id why h Q ?_
  unfold q_d6
  simp
  refine infHas_spec hs fun h3 hs3 => ?_
  by_cases g1 : id ∈ s.used
  · simp [g1] at hy ⊢
    exact q_bb hs3 5 id 0 fun b h4 hs4 => by simpa using hy b h4 hs4
  · obtain ⟨b, hs3'⟩ := q_d9.1 hs3
    have c0 : cellH h3 ⟨f, 0, none⟩ = some (at0 b) := hs3'.cell 0
    obtain ⟨_, hok, -⟩ := q_a9.1 hs3'.p1
    have hl := hok.len
    simp [g1, c0] at hn hy ⊢
    refine Left_spec hs3'.p1 ?_
    by_cases g2 : (s.used.length : Int) = s.most
    · simp [g2] at hn ⊢
      exact hn h3 hs3
    · have g3 : ¬ s.most - (s.used.length : Int) = 0 := by omega
      simp [g2, g3] at hy ⊢
      by_cases g4 : why < 128
      · simp [g4, c0] at hy ⊢
        have hc : claimCode s id = 0 := by simp [claimCode, g1, g2]; omega
        refine Claim_spec hs3'.p1 (fun hx => absurd hc hx) (fun _ h4 hs4 => ?_)
        simp
        have hs5 := q_d9.2 ⟨b, hs4.p1⟩
        exact q_bb hs5 5 id why fun b h5 hs5 => by simpa using hy b h5 hs5
      · simp [g4] at hy ⊢
        exact q_bb hs3 5 id why fun b h5 hs5 => by simpa using hy b h5 hs5
theorem infTake_spec {h : Heap} {R : List Asn} {f : Nat} {s : PoolS} {p : Pk} {why : Int} (hs : sat h (flowA f s :: R)) {Q : Value → Heap → Prop}
    (hn : (takeR s p.1 p.2.2.2.1 p.2.2.2.2.1 why).2.1 = none → ∀ h', sat h' (flowA f ⟨s.most, s.taken, (takeR s p.1 p.2.2.2.1 p.2.2.2.2.1 why).2.2.2⟩ :: R) → Q (.tuple #[.bool (takeR s p.1 p.2.2.2.1 p.2.2.2.2.1 why).1, .slice none 0 0, .int .u8 (takeR s p.1 p.2.2.2.1 p.2.2.2.2.1 why).2.2.1]) h')
    (hy : ∀ k c, (takeR s p.1 p.2.2.2.1 p.2.2.2.2.1 why).2.1 = some (k, c) → ∀ b h', sat h' (cells b (Pk_c (Pk_a k p.2.2.2.2.1 c)) :: flowA f ⟨s.most, s.taken, (takeR s p.1 p.2.2.2.1 p.2.2.2.2.1 why).2.2.2⟩ :: R) →
      Q (.tuple #[.bool (takeR s p.1 p.2.2.2.1 p.2.2.2.2.1 why).1, .slice (some ⟨b, 0, none⟩) 1 1, .int .u8 (takeR s p.1 p.2.2.2.1 p.2.2.2.2.1 why).2.2.1]) h') :
    HCalls Tryz.prog 107 #[at0 f, Pk_v p, .int .u8 why] h Q := by
  refine q_g3 _ p why h Q ?_
  unfold q_dg
  simp only [HM.bind_apply]
  refine q_ae hs fun pb h1 hs0 => ?_
  obtain ⟨cs, hcs⟩ : ∃ cs, cs = Pk_c p := ⟨_, rfl⟩
  have hs1 : sat h1 (cells pb cs :: flowA f s :: R) := by rw [hcs]; exact hs0
  clear hs0
  have e0 : cs[0]? = some (.int .i64 p.1) := by rw [hcs]; rfl
  have e3 : cs[3]? = some (.int .i64 p.2.2.2.1) := by rw [hcs]; rfl
  have e4 : cs[4]? = some (.int .i64 p.2.2.2.2.1) := by rw [hcs]; rfl
  clear hcs
  generalize p.1 = k at *
  generalize p.2.2.2.1 = q at *
  generalize p.2.2.2.2.1 = id at *
  have c0 : cellH h1 ⟨pb, 0, none⟩ = some (.int .i64 k) := (hs1.cell 0).trans e0
  have c3 : cellH h1 ⟨pb, 3, none⟩ = some (.int .i64 q) := (hs1.cell 3).trans e3
  have c4 : cellH h1 ⟨pb, 4, none⟩ = some (.int .i64 id) := (hs1.cell 4).trans e4
  have bad : takeBad k q id → Q (.tuple #[.bool false, .slice none 0 0, .int .u8 130]) h1 := fun g => by
    simp [takeR, g] at hn
    exact hn h1 hs1.drop
  by_cases k3 : k = 3
  · subst k3
    by_cases q0 : q < 0
    · have := bad (by unfold takeBad; omega)
      simp [c0, c3, q0]
      exact this
    by_cases q2 : 2 < q
    · have := bad (by unfold takeBad; omega)
      simp [c0, c3, q0, q2]
      exact this
    by_cases qz : q = 0
    · subst qz
      have nb : ¬ takeBad 3 0 id := by unfold takeBad; omega
      simp [takeR, nb] at hn
      have := hn h1 hs1.drop
      simp [c0, c3]
      exact this
    by_cases i1 : id < 1
    · have := bad (by unfold takeBad; omega)
      simp [c0, c3, c4, q0, q2, qz, i1]
      exact this
    by_cases i2 : 65535 < id
    · have := bad (by unfold takeBad; omega)
      simp [c0, c3, c4, q0, q2, qz, i1, i2]
      exact this
    by_cases q1 : q = 1
    · subst q1
      have nb : ¬ takeBad 3 1 id := by unfold takeBad; omega
      simp [takeR, nb] at hy
      simp [c0, c3, c4, i1, i2]
      refine q_bb hs1.drop 4 id why fun b h2 hs2 => ?_
      simpa using hy b h2 hs2
    · have hq2 : q = 2 := by omega
      subst hq2
      simp [c0, c3, c4, i1, i2]
      exact infTwo_spec hs1.drop (by omega) (by omega) (fun g h' hs' => by simpa using hn g h' hs') (fun k c g b h' hs' => by simpa using hy k c g b h' hs')
  by_cases k6 : k = 6
  · subst k6
    by_cases i1 : id < 1
    · have := bad (by unfold takeBad; omega)
      simp [c0, c3, c4, i1]
      exact this
    by_cases i2 : 65535 < id
    · have := bad (by unfold takeBad; omega)
      simp [c0, c3, c4, i1, i2]
      exact this
    have nb : ¬ takeBad 6 q id := by unfold takeBad; omega
    simp [takeR, nb] at hy
    obtain ⟨b, hsf⟩ := q_d9.1 hs1.p1
    have f0 : cellH h1 ⟨f, 0, none⟩ = some (at0 b) := hsf.cell 0
    simp [c0, c3, c4, i1, i2, f0]
    refine Free_spec hsf.p1 fun h2 hs2 => ?_
    have hs3 : sat h2 (cells pb cs :: flowA f ⟨s.most, s.taken, s.used.erase id⟩ :: R) := (q_d9.2 ⟨b, hs2.p1⟩).p1
    have d0 : cellH h2 ⟨pb, 0, none⟩ = some (.int .i64 6) := (hs3.cell 0).trans e0
    have d4 : cellH h2 ⟨pb, 4, none⟩ = some (.int .i64 id) := (hs3.cell 4).trans e4
    by_cases hm : id ∈ s.used
    · simp [hm, d0, d4] at hy ⊢
      refine q_bb hs3.drop 7 id 0 fun b h4 hs4 => ?_
      simpa using hy b h4 hs4
    · simp [hm, d0, d4] at hy ⊢
      refine q_bb hs3.drop 7 id 146 fun b h4 hs4 => ?_
      simpa [hm] using hy b h4 hs4
  · have := bad (by unfold takeBad; omega)
    simp [c0, k3, k6]
    exact this
end Go.Proofs.YtidlldnlphdhcaaGreatDoor
namespace Go.Proofs.YtidlldnlphdhcaaGreatDoor
open Go.H Go.Proofs
set_option linter.unusedSimpArgs false
set_option linter.unusedVariables false
def mrel : Path → Path → Bool → Bool
  | [], left, _ => left.isEmpty
  | y :: r, left, d => (!d && decide (y = hashS) && r.isEmpty) || (match left with | [] => false | x :: l => ((!d && decide (y = plusS)) || decide (y = x)) && mrel r l false)
theorem q_d1 (y : ByteArray) (r left : Path) (d : Bool) : mrel (y :: r) left d = ((!d && decide (y = hashS) && r.isEmpty) || (match left with | [] => false | x :: l => ((!d && decide (y = plusS)) || decide (y = x)) && mrel r l false)) := by
  cases left <;> rfl
abbrev QOK (N : Nds) : Prop := ∀ p nd, mget N p = some nd → (nd.q.map (·.1)).Nodup
theorem q_cb {N : Nds} {L : List Ent} (hA : TriAbs N L) (hk : QOK N) (p : Path) (e : Ent) : e ∈ entAt N p ↔ e ∈ L ∧ levels e.2.1 = p := by
  unfold entAt
  cases hp : mget N p with
  | none =>
    simp only [List.not_mem_nil, false_iff]
    rintro ⟨h1, h2⟩
    have := (hA.ents p e.1 e.2.2).2 ⟨e.2.1, h2, h1⟩
    unfold ent at this
    rw [hp] at this
    cases this
  | some nd =>
    unfold entsOf
    constructor
    · intro h
      obtain ⟨kv, hkv, rfl⟩ := List.mem_map.1 h
      have h1 : mget nd.q kv.1 = some kv.2 := q_cu (hk p nd hp) hkv
      have h2 : ent N p kv.1 = some kv.2 := by unfold ent; rw [hp]; exact h1
      obtain ⟨f, hf, hm⟩ := (hA.ents _ _ _).1 h2
      have : joinB p = f := by rw [← hf, q_cw]
      simp only [this]
      exact ⟨hm, hf⟩
    · rintro ⟨h1, h2⟩
      have h3 := (hA.ents p e.1 e.2.2).2 ⟨e.2.1, h2, h1⟩
      unfold ent at h3
      rw [hp] at h3
      refine List.mem_map.2 ⟨(e.1, e.2.2), q_f4 h3, ?_⟩
      rw [← h2, q_cw]
theorem q_gf {N : Nds} (hk : QOK N) (p : Path) : (entAt N p).Nodup := by
  unfold entAt
  cases hp : mget N p with
  | none => exact List.nodup_nil
  | some nd =>
    unfold entsOf
    have h1 : nd.q.Nodup := List.Pairwise.of_map (·.1) (fun a b hab e => hab (by rw [e])) (hk p nd hp)
    refine List.Pairwise.map _ (fun a b hab e => hab ?_) h1
    exact Prod.ext (congrArg (fun x : Ent => x.1) e) (congrArg (fun x : Ent => x.2.2) e)
theorem no_behind {rb : Nat} {N : Nds} {L : List Ent} (hT : TreeOK rb N) (hA : TriAbs N L) {p r : Path} (hp : mget N p = none) {e : Ent} (he : e ∈ L) : levels e.2.1 ≠ p ++ r := by
  intro h
  have h1 := (hA.ents (p ++ r) e.1 e.2.2).2 ⟨e.2.1, h, he⟩
  unfold ent at h1
  cases hq : mget N (p ++ r) with
  | none => rw [hq] at h1; cases h1
  | some nd =>
    obtain ⟨nd', h2⟩ := hT.pre _ _ _ hq
    rw [hp] at h2
    cases h2
theorem q_bw {α : Type} {d : Bool} {l : List α} {a : α} : a ∈ (if d = true then [] else l) ↔ d = false ∧ a ∈ l := by
  cases d <;> simp
theorem q_fg {rb : Nat} {N : Nds} {L : List Ent} (hT : TreeOK rb N) (hA : TriAbs N L) (hk : QOK N) (e : Ent) : ∀ (left p : Path) (d : Bool), e ∈ matchE N p left d ↔ ∃ r, mrel r left d = true ∧ e ∈ L ∧ levels e.2.1 = p ++ r := by
  intro left
  induction left with
  | nil =>
    intro p d
    cases hp : mget N p with
    | none =>
      rw [q_d3 hp]
      simp only [List.not_mem_nil, false_iff]
      rintro ⟨r, -, h1, h2⟩
      exact no_behind hT hA hp h1 h2
    | some nd =>
      rw [q_ih hp, List.mem_append, q_bw, q_cb hA hk, q_cb hA hk]
      constructor
      · rintro (⟨rfl, h1, h2⟩ | ⟨h1, h2⟩)
        · exact ⟨[hashS], by simp [mrel], h1, h2⟩
        · exact ⟨[], rfl, h1, by rw [List.append_nil]; exact h2⟩
      · rintro ⟨r, hr, h1, h2⟩
        cases r with
        | nil => rw [List.append_nil] at h2; exact .inr ⟨h1, h2⟩
        | cons y r =>
          rw [q_d1] at hr
          simp only [Bool.or_false, Bool.and_eq_true, Bool.not_eq_true', decide_eq_true_eq, List.isEmpty_iff] at hr
          obtain ⟨⟨h3, rfl⟩, rfl⟩ := hr
          exact .inl ⟨h3, h1, h2⟩
  | cons x l ih =>
    intro p d
    cases hp : mget N p with
    | none =>
      rw [q_d3 hp]
      simp only [List.not_mem_nil, false_iff]
      rintro ⟨r, -, h1, h2⟩
      exact no_behind hT hA hp h1 h2
    | some nd =>
      rw [q_f7 hp, List.mem_append, List.mem_append, q_bw, q_bw, q_cb hA hk, ih, ih]
      constructor
      · rintro (⟨rfl, h1, h2⟩ | ⟨rfl, r, hr, h1, h2⟩ | ⟨r, hr, h1, h2⟩)
        · exact ⟨[hashS], by simp [q_d1], h1, h2⟩
        · refine ⟨plusS :: r, ?_, h1, by rw [h2]; simp⟩
          rw [q_d1]; simp [hr]
        · refine ⟨x :: r, ?_, h1, by rw [h2]; simp⟩
          rw [q_d1]; simp [hr]
      · rintro ⟨r, hr, h1, h2⟩
        cases r with
        | nil => simp [mrel] at hr
        | cons y r =>
          rw [q_d1] at hr
          simp only [Bool.or_eq_true, Bool.and_eq_true, Bool.not_eq_true', decide_eq_true_eq, List.isEmpty_iff] at hr
          rcases hr with ⟨⟨h3, rfl⟩, rfl⟩ | ⟨⟨h3, rfl⟩ | rfl, h4⟩
          · exact .inl ⟨h3, h1, h2⟩
          · exact .inr (.inl ⟨h3, r, h4, h1, by rw [h2]; simp⟩)
          · exact .inr (.inr ⟨r, h4, h1, by rw [h2]; simp⟩)
theorem ite_nodup {α : Type} {d : Bool} {l : List α} (h : l.Nodup) : (if d = true then [] else l).Nodup := by
  cases d
  · exact h
  · exact List.nodup_nil
theorem matchE_nodup {rb : Nat} {N : Nds} {L : List Ent} (hT : TreeOK rb N) (hA : TriAbs N L) (hk : QOK N) : ∀ (left p : Path) (d : Bool), (∀ x ∈ left, x ≠ hashS ∧ x ≠ plusS) → (matchE N p left d).Nodup := by
  intro left
  induction left with
  | nil =>
    intro p d hl
    cases hp : mget N p with
    | none => rw [q_d3 hp]; exact List.nodup_nil
    | some nd =>
      rw [q_ih hp, List.nodup_append]
      refine ⟨ite_nodup (q_gf hk _), q_gf hk _, fun a ha b hb e => ?_⟩
      subst e
      have h1 := ((q_cb hA hk _ _).1 (q_bw.1 ha).2).2
      have h2 := ((q_cb hA hk _ _).1 hb).2
      rw [h1] at h2
      exact app_ne _ _ h2
  | cons x l ih =>
    intro p d hl
    cases hp : mget N p with
    | none => rw [q_d3 hp]; exact List.nodup_nil
    | some nd =>
      have hx := hl x (List.mem_cons_self ..)
      have hl' : ∀ y ∈ l, y ≠ hashS ∧ y ≠ plusS := fun y hy => hl y (List.mem_cons_of_mem _ hy)
      rw [q_f7 hp, List.nodup_append, List.nodup_append]
      refine ⟨ite_nodup (q_gf hk _), ⟨ite_nodup (ih _ _ hl'), ih _ _ hl', fun a ha b hb e => ?_⟩, fun a ha b hb e => ?_⟩
      · subst e
        obtain ⟨r1, -, -, h1⟩ := (q_fg hT hA hk _ _ _ _).1 (q_bw.1 ha).2
        obtain ⟨r2, -, -, h2⟩ := (q_fg hT hA hk _ _ _ _).1 hb
        rw [h1, List.append_assoc, List.append_assoc] at h2
        have := List.append_cancel_left h2
        simp at this
        exact hx.2 this.1.symm
      · subst e
        have h1 := ((q_cb hA hk _ _).1 (q_bw.1 ha).2).2
        rcases List.mem_append.1 hb with hb | hb
        · obtain ⟨r2, -, -, h2⟩ := (q_fg hT hA hk _ _ _ _).1 (q_bw.1 hb).2
          rw [h1, List.append_assoc] at h2
          have := List.append_cancel_left h2
          simp at this
          exact absurd this.1 (by decide)
        · obtain ⟨r2, -, -, h2⟩ := (q_fg hT hA hk _ _ _ _).1 hb
          rw [h1, List.append_assoc] at h2
          have := List.append_cancel_left h2
          simp at this
          exact hx.1 this.1.symm
theorem mrel_matchL : ∀ (r left : Path), filtG r = true → (∀ x ∈ left, x ≠ hashS ∧ x ≠ plusS) → mrel r left false = matchL r left
  | [], left, _, _ => by simp [mrel, matchL]
  | y :: r, left, hf, hl => by
    rw [filtG_cons, Bool.and_eq_true] at hf
    rw [q_d1, q_f6]
    by_cases hy : y = hashS
    · have hr : r.isEmpty = true := by
        have h1 := hf.1
        subst hy
        unfold levBad at h1
        rw [show hasB 35 hashS = true from has_self 35] at h1
        cases h2 : r.isEmpty with
        | true => rfl
        | false => rw [h2] at h1; simp at h1
      simp [hy, hr]
    · rw [if_neg hy]
      simp only [hy, decide_false, Bool.and_false, Bool.false_and, Bool.false_or]
      cases left with
      | nil => rfl
      | cons x l =>
        have ih := mrel_matchL r l hf.2 fun z hz => hl z (List.mem_cons_of_mem _ hz)
        simp only [Bool.not_false, Bool.true_and]
        by_cases h1 : y = plusS
        · simp [h1, ih]
        · by_cases h2 : y = x
          · simp [h2, ih]
          · simp [h1, h2]
theorem lev_head (c b : UInt8) (r : List UInt8) (x : List UInt8) (hx : x ≠ []) : ∃ y ys, lev c x r = y :: ys ∧ y.head? = x.head? := by
  induction r generalizing x with
  | nil => exact ⟨x, [], rfl, rfl⟩
  | cons a r ih =>
    unfold lev
    by_cases h : a = c
    · rw [if_pos h]; exact ⟨x, _, rfl, rfl⟩
    · rw [if_neg h]
      obtain ⟨y, ys, h1, h2⟩ := ih (x ++ [a]) (by simp)
      refine ⟨y, ys, h1, ?_⟩
      rw [h2]
      cases x with
      | nil => exact absurd rfl hx
      | cons z x => rfl
theorem levels_first {f y : ByteArray} {r : Path} (hs : f.size ≠ 0) (h : levels f = y :: r) (c : UInt8) (hc : c ≠ 47) : y.data.toList.head? = some c ↔ f.get! 0 = c := by
  have hd := q_f9 f
  rw [h, List.map_cons] at hd
  obtain ⟨⟨l⟩⟩ := f
  match l with
  | [] => exact absurd rfl hs
  | b :: l =>
    have e1 : (ByteArray.mk (List.toArray (b :: l))).get! 0 = b := rfl
    rw [e1]
    have e2 : (ByteArray.mk (List.toArray (b :: l))).data.toList = b :: l := rfl
    rw [e2] at hd
    unfold lev at hd
    by_cases hb : b = 47
    · rw [if_pos hb] at hd
      have h1 := (List.cons.inj hd).1
      rw [h1]
      simp only [List.head?_nil]
      constructor
      · intro h; cases h
      · intro h; exact absurd (h.symm.trans hb) hc
    · rw [if_neg hb] at hd
      obtain ⟨z, zs, h1, h2⟩ := lev_head 47 b l ([] ++ [b]) (by simp)
      rw [h1] at hd
      have h3 := (List.cons.inj hd).1
      rw [h3, h2]
      simp
theorem first_lev {x : ByteArray} {c : UInt8} (h : x.data.toList.head? = some c) : hasB c x = true := by
  unfold hasB
  rw [decide_eq_true_eq]
  exact List.mem_of_mem_head? (by rw [h]; rfl)
theorem head_self (c : UInt8) : (ByteArray.mk #[c]).data.toList.head? = some c := rfl
theorem name_levels {n : ByteArray} (h : nameOK n = true) : ∀ x ∈ levels n, x ≠ hashS ∧ x ≠ plusS := by
  unfold nameOK at h
  rw [Bool.and_eq_true, Bool.and_eq_true, Bool.not_eq_true', Bool.not_eq_true'] at h
  have key : ∀ (c : UInt8), c ≠ 47 → hasB c n = false → ∀ x ∈ levels n, x ≠ ByteArray.mk #[c] := by
    intro c hc hn x hx e
    subst e
    have hj := q_cw n
    have : c ∈ n.data.toList := by
      rw [← hj]
      unfold joinB
      have hx' : [c] ∈ (levels n).map (·.data.toList) := List.mem_map.2 ⟨_, hx, rfl⟩
      generalize (levels n).map (·.data.toList) = xs at hx'
      have go : ∀ xs : List (List UInt8), [c] ∈ xs → c ∈ Lib.join xs [47] := by
        intro xs hxs
        obtain ⟨y, ys, rfl⟩ := List.exists_cons_of_ne_nil (List.ne_nil_of_mem hxs)
        rw [Lib.join_cons]
        rcases List.mem_cons.1 hxs with e | h
        · rw [← e]; simp
        · refine List.mem_append_right _ ?_
          unfold Lib.joinTail
          rw [List.mem_flatten]
          exact ⟨[47] ++ [c], List.mem_map.2 ⟨_, h, rfl⟩, by simp⟩
      simpa using go xs hx'
    unfold hasB at hn
    rw [decide_eq_false_iff_not] at hn
    exact hn this
  intro x hx
  exact ⟨key 35 (by decide) h.2 x hx, key 43 (by decide) h.1.2 x hx⟩
theorem mrel_matchB {f n : ByteArray} (hf : filterOK f = true) (hn : nameOK n = true) : mrel (levels f) (levels n) (decide (n.get! 0 = 36)) = matchB f n := by
  have hl := name_levels hn
  have hg : filtG (levels f) = true := by unfold filterOK at hf; rw [Bool.and_eq_true] at hf; exact hf.2
  have hsz : f.size ≠ 0 := (q_b1.1 (q_bc hf)).2.1
  unfold matchB dollarB
  rw [hf, hn]
  simp only [Bool.true_and]
  cases hd : decide (n.get! 0 = 36) with
  | false =>
    rw [mrel_matchL _ _ hg hl]
    simp
  | true =>
    obtain ⟨y, r, hy⟩ := List.exists_cons_of_ne_nil (levels_ne f)
    rw [hy] at hg ⊢
    rw [filtG_cons, Bool.and_eq_true] at hg
    have h43 := levels_first hsz hy 43 (by decide)
    have h35 := levels_first hsz hy 35 (by decide)
    have hbad := hg.1
    unfold levBad at hbad
    rw [Bool.not_eq_true', Bool.or_eq_false_iff] at hbad
    have i43 : f.get! 0 = 43 ↔ y = plusS := by
      rw [← h43]
      constructor
      · intro h
        have h1 := first_lev h
        have h2 := hbad.1
        rw [h1] at h2
        simpa using h2
      · intro h; rw [h]; exact head_self 43
    have i35 : f.get! 0 = 35 ↔ y = hashS := by
      rw [← h35]
      constructor
      · intro h
        have h1 := first_lev h
        have h2 := hbad.2
        rw [h1] at h2
        simp only [Bool.true_and, Bool.or_eq_false_iff, decide_eq_false_iff_not, Decidable.not_not] at h2
        exact h2.1
      · intro h; rw [h]; exact head_self 35
    rw [q_d1, q_f6]
    simp only [Bool.not_true, Bool.false_and, Bool.false_or, Bool.true_and]
    by_cases e1 : y = plusS
    · have : decide (f.get! 0 = 43) = true := decide_eq_true (i43.2 e1)
      rw [this]
      simp only [Bool.true_or, Bool.not_true, Bool.false_and]
      cases hln : levels n with
      | nil => rfl
      | cons x l =>
        have := (hl x (by rw [hln]; exact List.mem_cons_self ..)).2
        have : decide (y = x) = false := decide_eq_false (fun e => this (e.symm.trans e1))
        simp [this]
    · by_cases e2 : y = hashS
      · have : decide (f.get! 0 = 35) = true := decide_eq_true (i35.2 e2)
        rw [this]
        simp only [Bool.or_true, Bool.not_true, Bool.false_and]
        cases hln : levels n with
        | nil => rfl
        | cons x l =>
          have := (hl x (by rw [hln]; exact List.mem_cons_self ..)).1
          have : decide (y = x) = false := decide_eq_false (fun e => this (e.symm.trans e2))
          simp [this]
      · have d1 : decide (f.get! 0 = 43) = false := decide_eq_false (fun e => e1 (i43.1 e))
        have d2 : decide (f.get! 0 = 35) = false := decide_eq_false (fun e => e2 (i35.1 e))
        rw [d1, d2, if_neg e2]
        simp only [Bool.or_false, Bool.not_false, Bool.true_and]
        cases hln : levels n with
        | nil => rfl
        | cons x l =>
          have ih := mrel_matchL r l hg.2 fun z hz => hl z (by rw [hln]; exact List.mem_cons_of_mem _ hz)
          by_cases e3 : y = x
          · simp [e3, ih]
          · simp [e1, e3]
end Go.Proofs.YtidlldnlphdhcaaGreatDoor
namespace Go.Proofs.YtidlldnlphdhcaaGreatDoor
open Go.H Go.Proofs
set_option linter.unusedSimpArgs false
set_option linter.unusedVariables false
set_option synthInstance.maxSize 100000
set_option synthInstance.maxHeartbeats 400000
set_option maxRecDepth 100000
variable {h h0 : Heap} {R : List Asn}
theorem matchE_perm {rb : Nat} {N : Nds} {L : List Ent} (hT : TreeOK rb N) (hA : TriAbs N L) (hk : QOK N) {n : ByteArray} (hn : nameOK n = true) :
    (matchE N [] (levels n) (decide (n.get! 0 = 36))).Perm (L.filter fun x => matchB x.2.1 n) := by
  refine (List.perm_ext_iff_of_nodup (matchE_nodup hT hA hk _ _ _ (name_levels hn)) (hA.asc.nodup.filter _)).2 fun e => ?_
  rw [q_fg hT hA hk, List.mem_filter]
  constructor
  · rintro ⟨r, hr, h1, h2⟩
    rw [List.nil_append] at h2
    subst h2
    refine ⟨h1, ?_⟩
    rw [← mrel_matchB (hA.good _ h1) hn]
    exact hr
  · rintro ⟨h1, h2⟩
    refine ⟨levels e.2.1, ?_, h1, rfl⟩
    rw [mrel_matchB (hA.good _ h1) hn]
    exact h2
theorem entsN_nodup {M : Nds} (hn : (M.map (·.1)).Nodup) (h1 : ∀ q ∈ M, (entsOf q.1 q.2.q).Nodup ∧ ∀ e ∈ entsOf q.1 q.2.q, levels e.2.1 = q.1) : (entsN M).Nodup := by
  induction M with
  | nil => exact List.nodup_nil
  | cons q M ih =>
    rw [List.map_cons, List.nodup_cons] at hn
    unfold entsN
    rw [List.flatMap_cons, List.nodup_append]
    refine ⟨(h1 q (List.mem_cons_self ..)).1, ih hn.2 (fun q' hq' => h1 q' (List.mem_cons_of_mem _ hq')), fun a ha b hb e => ?_⟩
    subst e
    obtain ⟨q', hq', hm⟩ := List.mem_flatMap.1 hb
    have e1 := (h1 q (List.mem_cons_self ..)).2 a ha
    have e2 := (h1 q' (List.mem_cons_of_mem _ hq')).2 a hm
    exact hn.1 (List.mem_map.2 ⟨q', hq', by rw [← e2, e1]⟩)
theorem entsN_perm_L {rb : Nat} {N : Nds} {L : List Ent} (hT : TreeOK rb N) (hA : TriAbs N L) (hk : QOK N) : (entsN N).Perm L := by
  have hat : ∀ q ∈ N, entAt N q.1 = entsOf q.1 q.2.q := fun q hq => entAt_of (q_cu hT.keys hq)
  have hnd : (entsN N).Nodup := entsN_nodup hT.keys fun q hq => by
    rw [← hat q hq]
    exact ⟨q_gf hk _, fun e he => ((q_cb hA hk _ _).1 he).2⟩
  refine (List.perm_ext_iff_of_nodup hnd hA.asc.nodup).2 fun e => ?_
  unfold entsN
  rw [List.mem_flatMap]
  constructor
  · rintro ⟨q, hq, he⟩
    rw [← hat q hq] at he
    exact ((q_cb hA hk _ _).1 he).1
  · intro he
    have h1 := (q_cb hA hk (levels e.2.1) e).2 ⟨he, rfl⟩
    unfold entAt at h1
    cases hp : mget N (levels e.2.1) with
    | none => rw [hp] at h1; simp at h1
    | some nd =>
      rw [hp] at h1
      exact ⟨(levels e.2.1, nd), q_f4 hp, h1⟩
theorem asc_sorted {ys L : List Ent} {c : Ent → Bool} (ha : Asc L) (hp : ys.Perm (L.filter c)) (hs : ys.Pairwise fun a b => ¬ ltK (keyE b) (keyE a)) : ys = L.filter c := asc_perm hp (ha.filter _) hs
theorem row_nil : ∀ {h' : Heap}, RowAt eS 1 h' ⟨none, 0, 0⟩ [] := fun {h'} => ⟨rfl, Nat.le_refl _, fun i x hx => by simp at hx⟩
theorem tMatch_spec {t : Nat} {L : List Ent} (ht : TP h0) {n : ByteArray} (hsz : n.size ≤ 9223372036854775807) (hl : L.length ≤ 10000) (hs : sat h (trieA t L :: old h0 :: R)) {Q : Value → Heap → Prop}
    (hq : ∀ (s : Slc) h', sat h' (ownS encE 3 s (L.filter fun x => matchB x.2.1 n) :: trieA t L :: old h0 :: R) → Q (.slice s.a s.len s.cap) h') :
    HCalls Tryz.prog 80 #[at9 t, .string n] h Q := by
  refine q_he (some ⟨t, 0, none⟩) n h Q ?_
  unfold q_du
  refine q_ad (fun x h' => sat h' (old h0 :: trieA t L :: R) ∧ x.1 = !(nameOK n)) ?_ ?_
  · rw [HM.ite_apply, if_neg (by simp)]
    refine q_ab (q_c0 hs.p1 ht hsz fun h1 hs1 => ⟨nameC n, rfl, hs1, ?_⟩)
    unfold nameC
    cases nameOK n <;> rfl
  clear hs
  rintro ⟨x, ⟨⟩⟩ h1 ⟨hs1, hx⟩
  simp only at hx
  subst hx
  rw [HM.ite_apply]
  by_cases hn : nameOK n = true
  case neg =>
    rw [if_pos (by simpa using hn)]
    have e : (L.filter fun x => matchB x.2.1 n) = [] := by
      rw [List.filter_eq_nil_iff]
      intro x _ hx
      unfold matchB at hx
      simp only [Bool.and_eq_true] at hx
      exact hn hx.1.1.2
    rw [e] at hq
    exact hq ⟨none, 0, 0⟩ h1 (q_a3 hs1.p1)
  rw [if_neg (by simp [hn])]
  obtain ⟨N, C, hA, hC, hs2⟩ := q_aw.1 hs1.p1
  obtain ⟨hcn, hkk⟩ := trM_cnt hs2
  have hk : QOK N := fun p nd hp => (hkk p nd hp).1
  obtain ⟨rb, cm, hT, hs3'⟩ := q_cj.1 hs2
  have hs3 : sat h1 (cells t (trC rb cm) :: old h0 :: ndsA N :: mapA eKI9 eVI9 cm C :: R) := hs3'.re [0, 3, 1, 2]
  clear hs3' hs2 hs1
  have hn2 := q_b1.1 (q_hy hn)
  refine ⟨_, rfl, some ⟨rb, 0, none⟩, by rw [q_aa]; exact hs3.cell 0, ?_⟩
  (try dsimp only); rw [HM.bind_apply]
  refine ⟨n.get! 0, Int.le_refl _, get_bang (by omega), ?_⟩
  refine q_ab (q_eg hs3.p1 ht hn2.2.2.1 fun sl h2 hs4' => ⟨sl, rfl, ?_⟩)
  have hs4 : sat h2 (cells t (trC rb cm) :: ndsA N :: ownS eS 1 sl (levels n) :: old h0 :: mapA eKI9 eVI9 cm C :: R) := hs4'.re [2, 3, 0, 1, 4]
  clear hs4' hs3
  refine ⟨some ⟨rb, 0, none⟩, by rw [q_aa]; exact hs4.cell 0, rfl, ?_⟩
  obtain ⟨r, hr1, hr2⟩ := hT.root
  have ep : (some ⟨rb, 0, none⟩ : Option Addr) = (mget N []).bind fun nd => ptrOf nd := by rw [hr1]; show _ = ptrOf r; unfold ptrOf; rw [hr2]
  have eb : (((n.get! 0).toNat : Int) == 36) = decide (n.get! 0 = 36) := byte_is _ 36
  have hperm := matchE_perm hT hA hk hn
  have hlen : (matchE N [] (levels n) (decide (n.get! 0 = 36))).length ≤ 10000 := by
    rw [hperm.length_eq]
    exact Nat.le_trans (List.length_filter_le _ _) hl
  rw [ep, eb]
  refine q_ab (match_spec hT (hA.goodN hk) _ (levels n) [] rfl (A := ownS eS 1 sl (levels n)) (s1 := ⟨none, 0, 0⟩) (out := ⟨none, 0, 0⟩) (es := []) (by simp only [List.length_nil]; omega) (fun _ => row_nil) (fun hs' => hs'.own_row q_et) ((q_a3 (hs4.re [1, 2, 0, 3, 4])).p1) (by simp only [List.length_nil]; omega) fun o l h3 hp hs5 => ⟨o, rfl, ?_⟩)
  rw [List.nil_append] at hs5
  refine q_az (Sort9_spec hs5.p1 (by have := hp.length_eq; omega) fun ys h4 hy1 hy2 hs6 => ⟨(), rfl, ?_⟩)
  have e := asc_sorted hA.asc (hy1.trans (hp.trans hperm)) hy2
  subst e
  refine hq o h4 ?_
  have hs7 : sat h4 (cells t (trC rb cm) :: ndsA N :: mapA eKI9 eVI9 cm C :: ownS encE 3 o (L.filter fun x => matchB x.2.1 n) :: old h0 :: R) := (hs6.re [2, 3, 1, 5, 0, 4]).drop
  exact (q_aw.2 ⟨N, C, hA, hC, q_cj.2 ⟨rb, cm, hT, hs7⟩⟩).p1
abbrev ofL9 (id : Int) (L : List Ent) : List Ent := L.filter fun x => decide (x.1 = id)
def forJ (x1 x2 : Nat) (id : Int) (l : List Ent) : Asn := star (cells x1 #[.int .i64 id]) (exA fun s : Slc => star (cells x2 #[.slice s.a s.len s.cap]) (ownS encE 3 s (ofL9 id l)))
theorem forJ_iff {x1 x2 : Nat} {id : Int} {l : List Ent} : sat h (forJ x1 x2 id l :: R) ↔ ∃ s : Slc, sat h (cells x2 #[.slice s.a s.len s.cap] :: ownS encE 3 s (ofL9 id l) :: cells x1 #[.int .i64 id] :: R) := by
  unfold forJ
  rw [sat.star_iff]
  constructor
  · intro hs
    obtain ⟨s, hs1⟩ := sat.ex_iff.1 hs.p1
    exact ⟨s, sat.star_iff.1 hs1⟩
  · rintro ⟨s, hs⟩
    exact (sat.ex_iff.2 ⟨s, sat.star_iff.2 hs⟩).p1
theorem For1_spec {x1 x2 : Nat} {id : Int} {l : List Ent} {e : Ent} (hl : l.length ≤ 100000) (hs : sat h (forJ x1 x2 id l :: R)) {Q : Value → Heap → Prop} (hq : ∀ h', sat h' (forJ x1 x2 id (l ++ [e]) :: R) → Q (.tuple #[]) h') :
    HCalls Tryz.prog 168 #[.agg #[.int .i64 e.1, .string e.2.1, .int .i64 e.2.2], .pointer (some ⟨x1, 0, none⟩), .pointer (some ⟨x2, 0, none⟩)] h Q := by
  refine q_gs (e.1, e.2.1, e.2.2, ()) ⟨x1, 0, none⟩ ⟨x2, 0, none⟩ h Q ?_
  unfold q_c8
  obtain ⟨s, hs1⟩ := forJ_iff.1 hs
  refine q_ae hs1 fun x h1 hs2 => ?_
  refine ⟨e.1, by rw [q_aa]; exact hs2.cell 0, id, hs2.p3.cell 0, ?_⟩
  have hfl : (ofL9 id l).length ≤ 100000 := Nat.le_trans (List.length_filter_le _ _) hl
  refine q_ad (fun _ h' => sat h' (forJ x1 x2 id (l ++ [e]) :: R)) ?_ ?_
  · (try dsimp only); rw [HM.ite_apply]
    by_cases hid : e.1 = id
    · rw [if_pos (by simpa using hid)]
      refine ⟨s, hs2.p1.cell 0, ?_⟩
      refine q_au (ts := [.int .i64, .str, .int .i64]) (e.1, e.2.1, e.2.2, ()) hs2 rfl ?_
      refine q_ae hs2 fun y h2 hs3 => ?_
      (try dsimp only); rw [HM.bind_apply]
      refine q_ds (enc := encE) (ys := [e]) eE_len eE_cell rfl hs3.p3 rfl ?_ (by decide) (by decide) (by omega) fun s' h3 hs4 => ?_
      · simp only [srcSlc, Nat.one_mul, List.flatMap_cons, List.flatMap_nil, List.append_nil]
        exact hs3.reads rfl
      (try dsimp only); rw [HM.bind_apply]
      refine q_ag hs4.p3 (by simp) rfl fun h4 hs5 => ?_
      have e1 : ofL9 id (l ++ [e]) = ofL9 id l ++ [e] := by simp [ofL9, List.filter_append, hid]
      refine forJ_iff.2 ⟨s', ?_⟩
      rw [e1]
      exact (hs5.re [2, 3, 0, 1, 4]).drop.drop
    · rw [if_neg (by simpa using hid)]
      have e1 : ofL9 id (l ++ [e]) = ofL9 id l := by simp [ofL9, List.filter_append, hid]
      refine forJ_iff.2 ⟨s, ?_⟩
      rw [e1]
      exact hs2.drop
  rintro ⟨⟩ h2 hs2
  exact hq h2 hs2
theorem tFor_spec {t : Nat} {L : List Ent} {id : Int} (hl : L.length ≤ 10000) (hs : sat h (trieA t L :: R)) {Q : Value → Heap → Prop}
    (hq : ∀ (s : Slc) h', sat h' (ownS encE 3 s (ofL9 id L) :: trieA t L :: R) → Q (.slice s.a s.len s.cap) h') :
    HCalls Tryz.prog 116 #[at9 t, .int .i64 id] h Q := by
  refine trie_Trie_For_calls (some ⟨t, 0, none⟩) id h Q ?_
  unfold q_fp
  refine q_ae hs fun x1 h1 hs1 => ?_
  (try dsimp only); rw [HM.ite_apply, if_neg (by simp)]
  refine q_ae hs1 fun x2 h2 hs2 => ?_
  obtain ⟨N, C, hA, hC, hs3⟩ := q_aw.1 hs2.p2
  obtain ⟨hcn, hkk⟩ := trM_cnt hs3
  have hk : QOK N := fun p nd hp => (hkk p nd hp).1
  obtain ⟨rb, cm, hT, hs4'⟩ := q_cj.1 hs3
  have hs4 : sat h2 (cells t (trC rb cm) :: ndsA N :: mapA eKI9 eVI9 cm C :: cells x2 #[.slice none 0 0] :: cells x1 #[.int .i64 id] :: R) := hs4'
  clear hs4' hs3 hs2 hs1 hs
  have hp := entsN_perm_L hT hA hk
  obtain ⟨r, hr1, hr2⟩ := hT.root
  refine ⟨_, rfl, some ⟨rb, 0, none⟩, by rw [q_aa]; exact hs4.cell 0, ?_⟩
  have ep : (Value.pointer (some ⟨rb, 0, none⟩)) = .pointer (ptrOf r) := by unfold ptrOf; rw [hr2]
  (try dsimp only); rw [ep]
  have hJ : sat h2 (forJ x1 x2 id [] :: cells t (trC rb cm) :: ndsA N :: mapA eKI9 eVI9 cm C :: R) := by
    refine forJ_iff.2 ⟨⟨none, 0, 0⟩, ?_⟩
    have := q_a3 (enc := encE) (size := 3) (hs4.re [3, 4, 0, 1, 2])
    exact this.p1
  refine q_az (all_spec hT (hA.goodN hk) (yv := .func (.func 168) #[] #[.pointer (some ⟨x1, 0, none⟩), .pointer (some ⟨x2, 0, none⟩)]) (J := forJ x1 x2 id)
    (fun l e h R Q hll hs' hq' => ⟨_, _, _, rfl, Tryz.call168, For1_spec hll hs' fun h' hs'' => ⟨(), rfl, hq' h' hs''⟩⟩)
    _ [] r rfl hr1 (A := cells t (trC rb cm)) (s := ⟨none, 0, 0⟩) (l := []) (fun _ => row_nil) (by rw [below_root]; exact hJ.re [2, 0, 1, 3]) (by rw [below_root, hp.length_eq]; simp; omega) fun l' h3 hl' hs5 => ⟨(), rfl, ?_⟩)
  rw [below_root] at hl' hs5
  rw [List.nil_append] at hs5
  obtain ⟨s, hs6⟩ := forJ_iff.1 hs5.p1
  clear hs5 hs4 hJ
  refine ⟨s, hs6.cell 0, ?_⟩
  have hl'l : l'.length ≤ 10000 := by rw [hl'.length_eq, hp.length_eq]; exact hl
  refine q_az (Sort9_spec hs6.p1 (Nat.le_trans (List.length_filter_le _ _) (by omega)) fun ys h4 hy1 hy2 hs7 => ⟨(), rfl, ?_⟩)
  have e := asc_sorted hA.asc (hy1.trans ((hl'.trans hp).filter _)) hy2
  subst e
  refine ⟨s, hs7.p1.cell 0, ?_⟩
  refine hq s h4 ?_
  have hs8 : sat h4 (cells t (trC rb cm) :: ndsA N :: mapA eKI9 eVI9 cm C :: ownS encE 3 s (ofL9 id L) :: R) := (hs7.re [1, 2, 4, 3, 5, 0]).drop.drop
  exact (q_aw.2 ⟨N, C, hA, hC, q_cj.2 ⟨rb, cm, hT, hs8⟩⟩).p1
end Go.Proofs.YtidlldnlphdhcaaGreatDoor
namespace Go.Proofs.YtidlldnlphdhcaaGreatDoor
open Go.H Go.Proofs
set_option linter.unusedSimpArgs false
set_option linter.unusedVariables false
set_option synthInstance.maxSize 100000
set_option synthInstance.maxHeartbeats 400000
set_option maxRecDepth 100000
variable {h h0 : Heap} {R : List Asn}
theorem trie_good {t : Nat} {L : List Ent} (hs : sat h (trieA t L :: R)) : (∀ x ∈ L, filterOK x.2.1 = true) ∧ Asc L := by
  obtain ⟨N, C, hA, -, -⟩ := q_aw.1 hs
  exact ⟨hA.good, hA.asc⟩
def ninL (D : List Ent) (x : Ent) : Bool := !(D.any fun y => decide (y = x))
theorem ninL_iff {D : List Ent} {x : Ent} : ninL D x = true ↔ x ∉ D := by
  unfold ninL
  rw [Bool.not_eq_true', List.any_eq_false]
  constructor
  · intro h hx
    have := h x hx
    simp at this
  · intro h y hy e
    rw [decide_eq_true_eq] at e
    exact h (e ▸ hy)
abbrev dropL (id : Int) (L : List Ent) : List Ent := L.filter fun x => !decide (x.1 = id)
theorem tDrop_spec {t : Nat} {L : List Ent} (ht : TP h0) {id : Int} (hl : L.length ≤ 10000) (hs : sat h (trieA t L :: old h0 :: R)) {Q : Value → Heap → Prop}
    (hq : ∀ h', sat h' (trieA t (dropL id L) :: old h0 :: R) → Q (.int .i64 ((ofL9 id L).length : Nat)) h') :
    HCalls Tryz.prog 71 #[at9 t, .int .i64 id] h Q := by
  refine q_ir (some ⟨t, 0, none⟩) id h Q ?_
  unfold q_ex
  obtain ⟨hgood, hasc⟩ := trie_good hs
  refine q_ab (tFor_spec hl hs fun s h1 hs1 => ⟨s, rfl, ?_⟩)
  have hlen := hs1.own_len
  have hDl : (ofL9 id L).length ≤ L.length := List.length_filter_le _ _
  have hD : ∀ e, e ∈ ofL9 id L ↔ e ∈ L ∧ e.1 = id := fun e => by rw [List.mem_filter, decide_eq_true_eq]
  have hfin : (L.filter fun x => ninL (ofL9 id L) x) = dropL id L := by
    refine List.filter_congr fun x hx => ?_
    apply Bool.eq_iff_iff.2
    rw [ninL_iff, hD, Bool.not_eq_true', decide_eq_false_iff_not]
    constructor
    · exact fun h e => h ⟨hx, e⟩
    · exact fun h e => h e.2
  generalize hDg : ofL9 id L = D at *
  (try dsimp only); rw [HM.bind_apply]
  refine q_cv (γ := Nat) (hb := fun s => by
      repeat' with_reducible first
        | refine @mono_bind _ _ _ _ ?_ (fun _ => ?_)
        | refine @mono_ite _ _ _ _ ?_ ?_
        | refine @mono_req _ _ _ ?_
      all_goals infer_instance)
    (fun g x h' => g ≤ D.length ∧ x.1 = (g : Int) ∧ sat h' (ownS encE 3 s D :: trieA t (L.filter fun x => ninL (D.take g) x) :: old h0 :: R)) (fun g => D.length - g) 0
    ⟨Nat.zero_le _, rfl, by
      have e0 : (L.filter fun x => ninL (D.take 0) x) = L := List.filter_eq_self.2 fun x _ => rfl
      rw [e0]; exact hs1⟩ ?_
  clear hs1 hs
  rintro i ⟨ci, ⟨⟩⟩ h2 ⟨hi, hci, hs2⟩
  simp only at hi hci hs2
  subst hci
  have next : IntKind.wrap .i64 ((i : Int) + 1) = ((i + 1 : Nat) : Int) := by rw [q_al (by omega) (by omega)]; rfl
  simp only [HM.ite_apply, decide_eq_true_eq]
  by_cases hlt : i < D.length
  · rw [if_pos (by omega), HM.bind_apply]
    have hx := List.getElem?_eq_getElem hlt
    generalize D[i] = e at hx
    have heD := List.mem_of_getElem? hx
    obtain ⟨heL, heid⟩ := (hD e).1 heD
    refine q_bi (hs2.own_row eE_len) hx fun a ha => ?_
    refine q_er (ts := [.int .i64, .str, .int .i64]) (e.1, e.2.1, e.2.2, ()) (fun j v hv => ha j v hv) ?_
    refine q_ae hs2 fun x6 h3 hs3 => ?_
    (try dsimp only); rw [HM.bind_apply]
    refine storeN_all' hs3 rfl rfl fun h4 hs4' => ?_
    have hs4 : sat h4 (trieA t (L.filter fun x => ninL (D.take i) x) :: old h0 :: ownS encE 3 s D :: cells x6 #[.int .i64 e.1, .string e.2.1, .int .i64 e.2.2] :: R) := hs4'.re [2, 3, 1, 0]
    clear hs4' hs3 hs2
    refine ⟨e.2.1, by rw [q_aa]; exact hs4.p3.cell 1, ?_⟩
    have hez := q_hl (q_bc (hgood e heL))
    refine q_ab (tRemove_spec ht (by omega) (Nat.le_trans (List.length_filter_le _ _) (by omega)) hs4 fun h5 hs5 => ⟨_, rfl, ?_⟩)
    have hstep : delL (L.filter fun x => ninL (D.take i) x) id e.2.1 = L.filter fun x => ninL (D.take (i + 1)) x := by
      unfold delL
      rw [List.filter_filter]
      refine List.filter_congr fun x hxL => ?_
      have ht1 : D.take (i + 1) = D.take i ++ [e] := by rw [List.take_add_one, hx]; rfl
      rw [ht1]
      have hkey : keyE x = (id, e.2.1) ↔ x = e := by
        constructor
        · intro hk
          exact hasc.key hxL heL (hk.trans (by rw [← heid]))
        · rintro rfl
          rw [← heid]
      apply Bool.eq_iff_iff.2
      rw [Bool.and_eq_true, decide_eq_true_eq, ninL_iff, ninL_iff, List.mem_append, List.mem_singleton]
      constructor
      · rintro ⟨h1, h2⟩ (h3 | h3)
        · exact h2 h3
        · exact h1 (hkey.2 h3)
      · exact fun h1 => ⟨fun h2 => h1 (.inr (hkey.1 h2)), fun h2 => h1 (.inl h2)⟩
    rw [hstep] at hs5
    simp only [Sum.elim_inl, Sum.elim_inr, HM.pure_apply]
    exact .mk (i + 1) (by omega) ⟨by omega, next, (hs5.re [3, 2, 0, 1]).drop⟩
  · rw [if_neg (by omega)]
    have : i = D.length := by omega
    subst this
    rw [List.take_length, hfin] at hs2
    simp only [Sum.elim_inl, Sum.elim_inr, HM.pure_apply]
    rw [hlen]
    exact hq h2 hs2.drop
end Go.Proofs.YtidlldnlphdhcaaGreatDoor
namespace Go.Proofs.YtidlldnlphdhcaaGreatDoor
open Go.H Go.Proofs
set_option linter.unusedSimpArgs false
set_option linter.unusedVariables false
structure ConnS where
  c : Int
  ses : Int
  hasWill : Bool
  will : MsT
structure BrkS where
  last : Int
  ses : List SesS
  subs : List Ent
  kept : List MsgT
  conns : List ConnS
structure OutO where
  conn : Int
  pk : PkO
  close : Bool
structure TurnS where
  b : BrkS
  outs : List OutO
  pubs : List MsT
structure PkI where
  kind : Int
  retain : Bool
  qos : Int
  id : Int
  topic : ByteArray
  payload : ByteArray
  code : Int
  props : List PropT
  client : ByteArray
  clean : Bool
  hasWill : Bool
  will : MsT
  subs : List (ByteArray × Int × Bool × Bool × Int)
  filters : List ByteArray
abbrev ackCs (k id : Int) (cs : List Int) : PkO := ⟨k, false, false, 0, id, e0S, e0S, 0, [], cs, false⟩
abbrev ackSe (s : Bool) : PkO := ⟨2, false, false, 0, 0, e0S, e0S, 0, [], [], s⟩
abbrev bSubs (E : List Ent) (B : BrkS) : BrkS := ⟨B.last, B.ses, E, B.kept, B.conns⟩
abbrev bConns (C : List ConnS) (B : BrkS) : BrkS := ⟨B.last, B.ses, B.subs, B.kept, C⟩
abbrev tB (B : BrkS) (T : TurnS) : TurnS := ⟨B, T.outs, T.pubs⟩
abbrev tSes (A : List SesS) (T : TurnS) : TurnS := ⟨⟨T.b.last, A, T.b.subs, T.b.kept, T.b.conns⟩, T.outs, T.pubs⟩
abbrev tKept (K : List MsgT) (T : TurnS) : TurnS := ⟨⟨T.b.last, T.b.ses, T.b.subs, K, T.b.conns⟩, T.outs, T.pubs⟩
abbrev tSubs (E : List Ent) (T : TurnS) : TurnS := ⟨⟨T.b.last, T.b.ses, E, T.b.kept, T.b.conns⟩, T.outs, T.pubs⟩
def setS (k : Int) (f : SesS → SesS) (A : List SesS) : List SesS := A.map fun s => if s.id = k then f s else s
def getS (k : Int) (A : List SesS) : Option SesS := A.find? fun s => decide (s.id = k)
def ofS (c : ByteArray) (A : List SesS) : Option SesS := A.find? fun s => decide (s.client = c)
def getC (c : Int) (l : List ConnS) : Option ConnS := l.find? fun x => decide (x.c = c)
abbrev sendB (o : OutO) (t : TurnS) : TurnS := { t with outs := t.outs ++ [o] }
def toSes (l : List ConnS) (id : Int) (ps : List PkO) : List OutO := (l.filter fun x => decide (x.ses = id)).flatMap fun x => ps.map fun p => ⟨x.c, p, false⟩
abbrev sendAllB (id : Int) (ps : List PkO) (t : TurnS) : TurnS := { t with outs := t.outs ++ toSes t.b.conns id ps }
abbrev setOut (o : OutS) (s : SesS) : SesS := { s with out := o }
abbrev setInn (p : PoolS) (s : SesS) : SesS := { s with inn := p }
def outOp (id : Int) (f : OutS → OutS × List PkO) (t : TurnS) : TurnS := match getS id t.b.ses with
  | none => t
  | some s => sendAllB id (f s.out).2 (tSes (setS id (setOut (f s.out).1) t.b.ses) t)
def idsL : Option Int → List Ent → List Int
  | _, [] => []
  | p, e :: l => if p = some e.1 then idsL p l else e.1 :: idsL (some e.1) l
def qosL (l : List Ent) (id : Int) : Int := (l.filter fun e => decide (e.1 = id)).foldl (fun q e => max q e.2.2) 0
noncomputable def handOne (m : MsT) (l : List Ent) (t : TurnS) (id : Int) : TurnS := outOp id (fun o => (sendF o (m.1, m.2.1, min m.2.2.1 (qosL l id), false, e0S)).1) t
def keepB (m : MsT) (t : TurnS) : TurnS := if m.2.2.2.1 = true then tKept (setR 64 t.b.kept (m.1, m.2.1, m.2.2.1, ())).2 t else t
noncomputable def handB (m : MsT) (t : TurnS) : TurnS :=
  (idsL none (t.b.subs.filter fun x => matchB x.2.1 m.1)).foldl (handOne m (t.b.subs.filter fun x => matchB x.2.1 m.1)) (keepB m t)
noncomputable def publishB (m : MsT) (t : TurnS) : TurnS := { handB m t with pubs := (handB m t).pubs ++ [m] }
def offS (s : SesS) : SesS := { s with on := false, out := { s.out with on := false } }
def endS (k : Int) (b : BrkS) : BrkS := match getS k b.ses with
  | none => b
  | some s => if s.on = false then b
    else if s.keep = true then { b with ses := setS k offS b.ses }
    else { b with ses := b.ses.filter (fun x => decide (x.id ≠ k)), subs := dropL k b.subs }
noncomputable def endB (full : Bool) (c : Int) (will : Bool) (t : TurnS) : TurnS := match getC c t.b.conns with
  | none => t
  | some x =>
    let t1 : TurnS := tB (endS x.ses (bConns (t.b.conns.filter fun y => decide (y.c ≠ c)) t.b)) t
    if will = true ∧ x.hasWill = true ∧ full = false then publishB x.will t1 else t1
noncomputable def refuseB (full : Bool) (c code : Int) (t : TurnS) : TurnS := endB full c true (sendB ⟨c, ackO 14 0 code, true⟩ t)
instance (c : ByteArray) : Decidable (goodName c) := by unfold goodName; infer_instance
def barB (p : PkI) (b : BrkS) : Int :=
  if p.hasWill = true ∧ nameOK p.will.1 = false then 144
  else if 64 ≤ b.conns.length then 151
  else if ¬ goodName p.client then 133
  else if ofS p.client b.ses = none ∧ 32 ≤ b.ses.length then 151
  else 0
def findP (id : Int) (l : List PropT) : Option PropT := l.find? fun p => decide (p.1 = id)
noncomputable def kickB (full : Bool) (s : SesS) (t : TurnS) : TurnS := match t.b.conns.find? fun x => decide (x.ses = s.id) with
  | none => t
  | some x => refuseB full x.c 142 t
def beginB (client : ByteArray) (clean keep : Bool) (b : BrkS) : (Int × Bool) × BrkS := match ofS client b.ses with
  | some s => if clean = false then ((s.id, true), { b with ses := setS s.id (fun s => { s with on := true, keep := keep }) b.ses })
    else ((b.last + 1, false), { b with last := b.last + 1, ses := b.ses.filter (fun x => decide (x.id ≠ s.id)) ++ [newS (b.last + 1) client keep] })
  | none => ((b.last + 1, false), { b with last := b.last + 1, ses := b.ses ++ [newS (b.last + 1) client keep] })
def mostP (l : List PropT) : Int := match findP 33 l with
  | some p => p.2.1
  | none => 64
def keepP (l : List PropT) : Bool := match findP 17 l with
  | some p => decide (0 < p.2.1)
  | none => false
noncomputable def joinB' (full : Bool) (c : Int) (p : PkI) (t : TurnS) : TurnS :=
  let old := ofS p.client t.b.ses
  let t1 := match old with | some s => kickB full s t | none => t
  let r := beginB p.client p.clean (keepP p.props) t1.b
  let b2 := match old with | some s => if s.id ≠ r.1.1 then bSubs (dropL s.id r.2.subs) r.2 else r.2 | none => r.2
  let b3 := bConns (b2.conns ++ [⟨c, r.1.1, p.hasWill, (p.will.1, p.will.2.1, p.will.2.2.1, p.will.2.2.2.1, e0S)⟩]) b2
  outOp r.1.1 (fun o => beginF o (mostP p.props)) (sendB ⟨c, ackSe r.1.2, false⟩ (tB b3 t1))
noncomputable def connectB (full : Bool) (c : Int) (p : PkI) (t : TurnS) : TurnS :=
  if barB p t.b ≠ 0 then sendB ⟨c, ackO 2 0 (barB p t.b), true⟩ t else joinB' full c p t
def ackL (a : Option (Int × Int)) (id : Int) : List PkO := match a with
  | some (k, c) => [ackO k id c]
  | none => []
noncomputable def takeB (full : Bool) (x : ConnS) (p : PkI) (t : TurnS) : TurnS :=
  if p.kind = 3 ∧ nameOK p.topic = false then refuseB full x.c 144 t
  else match getS x.ses t.b.ses with
    | none => t
    | some s =>
      let r := takeR s.inn p.kind p.qos p.id (if full = true then 151 else 0)
      let t1 : TurnS := tSes (setS x.ses (setInn ⟨s.inn.most, s.inn.taken, r.2.2.2⟩) t.b.ses) t
      if r.2.2.1 ≠ 0 then refuseB full x.c r.2.2.1 t1
      else
        let t2 := sendAllB x.ses (ackL r.2.1 p.id) t1
        if r.1 = true ∧ full = false then publishB (p.topic, p.payload, p.qos, p.retain, e0S) t2 else t2
noncomputable def answerB (full : Bool) (x : ConnS) (p : PkI) (t : TurnS) : TurnS := match getS x.ses t.b.ses with
  | none => t
  | some s => if (ansF s.out p.kind p.id p.code).2 ≠ 0 then refuseB full x.c (ansF s.out p.kind p.id p.code).2 t
    else outOp x.ses (fun o => (ansF o p.kind p.id p.code).1) t
def addE (L : List Ent) (id : Int) (f : ByteArray) (q : Int) : Int × List Ent :=
  if filterOK f = false then (143, L)
  else if q < 0 ∨ 2 < q then (155, L)
  else match L.findIdx? (fun x => decide (keyE x = (id, f))) with
    | some i => (0, L.set i (id, f, q))
    | none => if 64 ≤ cntL L id then (151, L) else (0, insS ltK keyE (id, f, q) L)
abbrev SubT := ByteArray × Int × Bool × Bool × Int
def addAll (id : Int) : List SubT → List Ent → List Ent × List Int
  | [], L => (L, [])
  | s :: l, L =>
    let r := addE L id s.1 s.2.1
    let z := addAll id l r.2
    (z.1, (if r.1 = 0 then s.2.1 else r.1) :: z.2)
def added (id : Int) : List SubT → List Ent → List SubT
  | [], _ => []
  | s :: l, L => (if (addE L id s.1 s.2.1).1 = 0 then [s] else []) ++ added id l (addE L id s.1 s.2.1).2
noncomputable def keptOne (id : Int) (s : SubT) (t : TurnS) (m : MsgT) : TurnS := outOp id (fun o => (sendF o (m.1, m.2.1, min m.2.2.1 s.2.1, true, e0S)).1) t
noncomputable def keptSub (id : Int) (t : TurnS) (s : SubT) : TurnS := if s.2.2.2.2 = 2 then t else (hitR t.b.kept s.1).foldl (keptOne id s) t
noncomputable def subscribeB (x : ConnS) (p : PkI) (t : TurnS) : TurnS :=
  (added x.ses p.subs t.b.subs).foldl (keptSub x.ses)
    (sendB ⟨x.c, ackCs 9 p.id (addAll x.ses p.subs t.b.subs).2, false⟩ (tSubs (addAll x.ses p.subs t.b.subs).1 t))
def delAll (id : Int) : List ByteArray → List Ent → List Ent × List Int
  | [], L => (L, [])
  | f :: l, L =>
    let z := delAll id l (delL L id f)
    (z.1, (if (delL L id f).length < L.length then 0 else 17) :: z.2)
def unsubscribeB (x : ConnS) (p : PkI) (t : TurnS) : TurnS :=
  sendB ⟨x.c, ackCs 11 p.id (delAll x.ses p.filters t.b.subs).2, false⟩ (tSubs (delAll x.ses p.filters t.b.subs).1 t)
noncomputable def oneB (full : Bool) (x : ConnS) (p : PkI) (t : TurnS) : TurnS :=
  if p.kind = 3 ∨ p.kind = 6 then takeB full x p t
  else if p.kind = 4 ∨ p.kind = 5 ∨ p.kind = 7 then answerB full x p t
  else if p.kind = 8 ∧ 1 ≤ p.id ∧ p.id ≤ 65535 ∧ p.subs ≠ [] then subscribeB x p t
  else if p.kind = 10 ∧ 1 ≤ p.id ∧ p.id ≤ 65535 ∧ p.filters ≠ [] then unsubscribeB x p t
  else if p.kind = 12 then sendB ⟨x.c, ackO 13 0 0, false⟩ t
  else if p.kind = 14 then endB full x.c (decide (p.code = 4)) t
  else refuseB full x.c 130 t
noncomputable def packetB (full : Bool) (c : Int) (p : PkI) (b : BrkS) : TurnS := match getC c b.conns with
  | some x => oneB full x p ⟨b, [], []⟩
  | none => if p.kind = 1 then connectB full c p ⟨b, [], []⟩ else ⟨b, [⟨c, ackO 14 0 130, true⟩], []⟩
end Go.Proofs.YtidlldnlphdhcaaGreatDoor
namespace Go.Proofs.YtidlldnlphdhcaaGreatDoor
open Go.H Go.Proofs
set_option linter.unusedSimpArgs false
set_option linter.unusedVariables false
set_option maxRecDepth 100000
variable {h h0 : Heap} {L L' L1 L2 R : List Asn} {Q : Value → Heap → Prop}
abbrev OuT := Int × Pk × Bool
abbrev encOu (k : IntKind) (x : OuT) : List Value := .int .i64 x.1 :: (encPkK k x.2.1 ++ [.bool x.2.2])
instance (k : IntKind) : Enc (encOu k) 28 := ⟨fun _ => rfl, fun x v hv => by
  have : (encOu k x).all (fun v => v.oneCell') = true := rfl
  exact List.all_eq_true.1 this v hv, by decide⟩
abbrev ouF (t : Slc × Slc × OutO) : OuT := (t.2.2.conn, pkT t.2.2.pk t.1 t.2.1, t.2.2.close)
def ouB (k : IntKind) (t : Slc × Slc × OutO) : Asn := pkB k (t.1, t.2.1, t.2.2.pk)
def outsA (k : IntKind) (s : Slc) (os : List OutO) : Asn := exA fun T : List (Slc × Slc × OutO) => star (pr (T.map (·.2.2) = os)) (star (ownS (encOu k) 28 s (T.map ouF)) (bigA (ouB k) T))
theorem q_ie {k : IntKind} {s : Slc} {os : List OutO} : sat h (outsA k s os :: R) ↔ ∃ T : List (Slc × Slc × OutO), T.map (·.2.2) = os ∧ sat h (ownS (encOu k) 28 s (T.map ouF) :: bigA (ouB k) T :: R) := by
  unfold outsA
  rw [sat.ex_iff]
  simp only [sat.star_iff, sat.pr_iff]
theorem outs_nil {k : IntKind} (hs : sat h R) : sat h (outsA k ⟨none, 0, 0⟩ [] :: R) := q_ie.2 ⟨[], rfl, q_a3 (q_dq.2 hs)⟩
theorem W.outs1 {β : Type} {k : IntKind} {s : Slc} {os : List OutO} {o : OutO} {c p : Slc} {elem : TypeId} {bytes b : Nat} {cs : Array Value} {zero : Array Value} {f : Slc → HM β} {Q' : β → Heap → Prop} {L3 : List Asn}
    (hw : ∀ s', W (outsA k s' (os ++ [o]) :: L3) (f s') Q') (hb : (os.length + 1) * bytes ≤ 140737488355328) (hx : Has L (outsA k s os) L1 := by repeat (first | with_reducible exact Go.H.has0 | apply Go.H.hasS)) (hy : Has L1 (pkB k (c, p, o.pk)) L2 := by repeat (first | with_reducible exact Go.H.has0 | apply Go.H.hasS)) (hc : Has L2 (cells b cs) L3 := by repeat (first | with_reducible exact Go.H.has0 | apply Go.H.hasS))
    (he : cs = (encOu k (o.conn, pkT o.pk c p, o.close)).toArray := by rfl) (hz : zero.size = 28 := by rfl) (hb0 : 0 < bytes := by decide) :
    W L (HM.bind (HM.append elem 28 bytes zero s 1 (srcSlc 28 ⟨some ⟨b, 0, none⟩, 1, 1⟩)) f) Q' := fun h hs => by
  obtain ⟨X, rfl, h1⟩ := q_ie.1 ((hx.then3 hy hc).s hs)
  have hlen : (X.map ouF).length = (X.map (·.2.2)).length := by simp
  refine Go.H.W.app1b (L := ownS (encOu k) 28 s (X.map ouF) :: cells b cs :: bigA (ouB k) X :: pkB k (c, p, o.pk) :: L3) (xs := X.map ouF) (enc := encOu k) ((o.conn, pkT o.pk c p, o.close) : OuT) (fun s' => ?_) (by rw [hlen]; exact hb) has0 has0 he hz hb0 h (h1.re [0, 3, 1, 2])
  intro h' hs'
  refine hw s' h' (q_ie.2 ⟨X ++ [(c, p, o)], by simp, ?_⟩)
  rw [List.map_append]
  exact (bigA_cat.2 (((bigA_sing (f := ouB k) (x := (c, p, o))).2 (hs'.re [2, 0, 1])).re [2, 0, 1])).p1
abbrev tC : List Tag := [.int .i64, .bool, .str, .str, .int .i64, .bool, .str]
abbrev connT (x : ConnS) : Tup tC := (x.ses, x.hasWill, x.will.1, x.will.2.1, x.will.2.2.1, x.will.2.2.2.1, x.will.2.2.2.2, ())
abbrev connE (x : ConnS) : Int × Tup tC := (x.c, connT x)
abbrev eVC : Tup tC → Value := Kind.val (.agg tC)
def keptA (b : Nat) (K : List MsgT) : Asn := exA fun l : List (ByteArray × MsgT) => star (pr (Sto 64 l K)) (stoA b 64 l)
def tabB (b : Nat) (last : Int) (A : List SesS) : Asn := exA fun L : List (Nat × SesS) => star (pr (L.map (·.2) = A)) (tabA b last L)
theorem q_ax {b : Nat} {last : Int} {A : List SesS} : sat h (tabB b last A :: R) ↔ ∃ L : List (Nat × SesS), L.map (·.2) = A ∧ sat h (tabA b last L :: R) := by
  unfold tabB
  rw [sat.ex_iff]
  simp only [sat.star_iff, sat.pr_iff]
theorem q_fh {b : Nat} {K : List MsgT} : sat h (keptA b K :: R) ↔ ∃ l : List (ByteArray × MsgT), Sto 64 l K ∧ sat h (stoA b 64 l :: R) := by
  unfold keptA
  rw [sat.ex_iff]
  simp only [sat.star_iff, sat.pr_iff]
structure BrkP where
  tb : Nat
  sb : Nat
  kb : Nat
  cm : Nat
abbrev brkC (p : BrkP) : Array Value := #[at0 p.tb, at9 p.sb, ptr0 p.kb, .map (some p.cm)]
def brkA (b : Nat) (B : BrkS) : Asn := exA fun p : BrkP => stars [cells b (brkC p), tabB p.tb B.last B.ses, trieA p.sb B.subs, keptA p.kb B.kept, mapA eKI eVC p.cm (B.conns.map connE)]
theorem q_gm {b : Nat} {B : BrkS} : sat h (brkA b B :: R) ↔ ∃ p : BrkP, sat h (cells b (brkC p) :: tabB p.tb B.last B.ses :: trieA p.sb B.subs :: keptA p.kb B.kept :: mapA eKI eVC p.cm (B.conns.map connE) :: R) := by
  unfold brkA
  rw [sat.ex_iff]
  simp only [sat.stars_iff]
  rfl
def thA (t b : Nat) (full : Bool) (os : List OutO) (ps : List MsT) : Asn := exA fun x : Slc × Slc => stars [cells t #[at0 b, .bool full, .slice x.1.a x.1.len x.1.cap, .slice x.2.a x.2.len x.2.cap], outsA .u8 x.1 os, ownS encM 5 x.2 ps]
theorem q_ez {t b : Nat} {full : Bool} {os : List OutO} {ps : List MsT} : sat h (thA t b full os ps :: R) ↔ ∃ (so sp : Slc), sat h (cells t #[at0 b, .bool full, .slice so.a so.len so.cap, .slice sp.a sp.len sp.cap] :: outsA .u8 so os :: ownS encM 5 sp ps :: R) := by
  unfold thA
  rw [sat.ex_iff]
  simp only [sat.stars_iff]
  exact ⟨fun ⟨x, hh⟩ => ⟨x.1, x.2, hh⟩, fun ⟨a, b, hh⟩ => ⟨(a, b), hh⟩⟩
def turnA (t b : Nat) (full : Bool) (T : TurnS) : Asn := star (thA t b full T.outs T.pubs) (brkA b T.b)
theorem q_bs {t b : Nat} {full : Bool} {T : TurnS} : sat h (turnA t b full T :: R) ↔ sat h (thA t b full T.outs T.pubs :: brkA b T.b :: R) := sat.star_iff
theorem q_ak {t b : Nat} {full : Bool} {T : TurnS} (hs : sat h (turnA t b full T :: R)) : ∃ (so sp : Slc) (p : BrkP), sat h (cells t #[at0 b, .bool full, .slice so.a so.len so.cap, .slice sp.a sp.len sp.cap] :: outsA .u8 so T.outs :: ownS encM 5 sp T.pubs ::
      cells b (brkC p) :: tabB p.tb T.b.last T.b.ses :: trieA p.sb T.b.subs :: keptA p.kb T.b.kept :: mapA eKI eVC p.cm (T.b.conns.map connE) :: R) := by
  obtain ⟨so, sp, h1⟩ := q_ez.1 (q_bs.1 hs)
  obtain ⟨p, h2⟩ := q_gm.1 (h1.re [3, 0, 1, 2])
  exact ⟨so, sp, p, h2.re [5, 6, 7, 0, 1, 2, 3, 4]⟩
theorem turn_close {t b : Nat} {full : Bool} {T : TurnS} {so sp : Slc} {p : BrkP} (hs : sat h (cells t #[at0 b, .bool full, .slice so.a so.len so.cap, .slice sp.a sp.len sp.cap] :: outsA .u8 so T.outs :: ownS encM 5 sp T.pubs ::
      cells b (brkC p) :: tabB p.tb T.b.last T.b.ses :: trieA p.sb T.b.subs :: keptA p.kb T.b.kept :: mapA eKI eVC p.cm (T.b.conns.map connE) :: R)) : sat h (turnA t b full T :: R) := by
  have h1 := q_gm.2 ⟨p, hs.re [3, 4, 5, 6, 7, 0, 1, 2]⟩
  exact q_bs.2 (q_ez.2 ⟨so, sp, h1.re [1, 2, 3, 0]⟩)
theorem W.turn {α : Type} {m : HM α} {Q' : α → Heap → Prop} {t b : Nat} {full : Bool} {M1 M2 M3 M4 M5 M6 M7 M8 : List Asn} (T : TurnS) (so sp : Slc) (p : BrkP) (hw : W (turnA t b full T :: M8) m Q')
    (h1 : Has L (cells t #[at0 b, .bool full, .slice so.a so.len so.cap, .slice sp.a sp.len sp.cap]) M1 := by repeat (first | with_reducible exact Go.H.has0 | apply Go.H.hasS)) (h2 : Has M1 (outsA .u8 so T.outs) M2 := by repeat (first | with_reducible exact Go.H.has0 | apply Go.H.hasS)) (h3 : Has M2 (ownS encM 5 sp T.pubs) M3 := by repeat (first | with_reducible exact Go.H.has0 | apply Go.H.hasS)) (h4 : Has M3 (cells b (brkC p)) M4 := by repeat (first | with_reducible exact Go.H.has0 | apply Go.H.hasS)) (h5 : Has M4 (tabB p.tb T.b.last T.b.ses) M5 := by repeat (first | with_reducible exact Go.H.has0 | apply Go.H.hasS)) (h6 : Has M5 (trieA p.sb T.b.subs) M6 := by repeat (first | with_reducible exact Go.H.has0 | apply Go.H.hasS)) (h7 : Has M6 (keptA p.kb T.b.kept) M7 := by repeat (first | with_reducible exact Go.H.has0 | apply Go.H.hasS)) (h8 : Has M7 (mapA eKI eVC p.cm (T.b.conns.map connE)) M8 := by repeat (first | with_reducible exact Go.H.has0 | apply Go.H.hasS)) : W L m Q' := fun h hs => hw h (turn_close ((Sub.cons h1 (Sub.cons h2 (Sub.cons h3 (Sub.cons h4 (Sub.cons h5 (Sub.cons h6 (Sub.cons h7 (Sub.cons h8 Sub.rfl)))))))).s hs))
theorem At.turn {q : Heap → Prop} {t b : Nat} {full : Bool} {M1 M2 M3 M4 M5 M6 M7 M8 : List Asn} (T : TurnS) (so sp : Slc) (p : BrkP) (hw : At (turnA t b full T :: M8) q)
    (h1 : Has L (cells t #[at0 b, .bool full, .slice so.a so.len so.cap, .slice sp.a sp.len sp.cap]) M1 := by repeat (first | with_reducible exact Go.H.has0 | apply Go.H.hasS)) (h2 : Has M1 (outsA .u8 so T.outs) M2 := by repeat (first | with_reducible exact Go.H.has0 | apply Go.H.hasS)) (h3 : Has M2 (ownS encM 5 sp T.pubs) M3 := by repeat (first | with_reducible exact Go.H.has0 | apply Go.H.hasS)) (h4 : Has M3 (cells b (brkC p)) M4 := by repeat (first | with_reducible exact Go.H.has0 | apply Go.H.hasS)) (h5 : Has M4 (tabB p.tb T.b.last T.b.ses) M5 := by repeat (first | with_reducible exact Go.H.has0 | apply Go.H.hasS)) (h6 : Has M5 (trieA p.sb T.b.subs) M6 := by repeat (first | with_reducible exact Go.H.has0 | apply Go.H.hasS)) (h7 : Has M6 (keptA p.kb T.b.kept) M7 := by repeat (first | with_reducible exact Go.H.has0 | apply Go.H.hasS)) (h8 : Has M7 (mapA eKI eVC p.cm (T.b.conns.map connE)) M8 := by repeat (first | with_reducible exact Go.H.has0 | apply Go.H.hasS)) : At L q := fun h hs => hw h (turn_close ((Sub.cons h1 (Sub.cons h2 (Sub.cons h3 (Sub.cons h4 (Sub.cons h5 (Sub.cons h6 (Sub.cons h7 (Sub.cons h8 Sub.rfl)))))))).s hs))
theorem send0_w {t b : Nat} {full : Bool} {os : List OutO} {ps : List MsT} {c : Int} {o : PkO} {ci pi : Slc} (hb : os.length ≤ 100000000) (hq : At (thA t b full (os ++ [⟨c, o, false⟩]) ps :: L2) (Q (.tuple #[])))
    (hx : Has L (thA t b full os ps) L1 := by repeat (first | with_reducible exact Go.H.has0 | apply Go.H.hasS)) (hy : Has L1 (pkB .u8 (ci, pi, o)) L2 := by repeat (first | with_reducible exact Go.H.has0 | apply Go.H.hasS)) : FW Tryz.prog 67 #[at0 t, .int .i64 c, vPkK .u8 (pkT o ci pi)] L Q := by
  refine fun h hs => q_g5 (some ⟨t, 0, none⟩) c (pkT o ci pi) h Q ((?_ : W (thA t b full os ps :: pkB .u8 (ci, pi, o) :: L2) _ _) h ((hx.then hy).s hs))
  clear hs h hx hy
  have hb2 : (os.length + 1) * 344 ≤ 140737488355328 := by omega
  unfold q_dj
  refine W.newc fun x1 => ?_
  refine W.nonnil ?_
  refine W.opn2 (fun h R => q_ez.1) fun so sp => ?_
  refine W.loadx (v := so) ?_
  refine W.loadN (v := pkT o ci pi) ?_
  refine W.newc fun x5 => ?_
  refine W.loadx (v := so) ?_
  refine W.req ?_ rfl
  refine W.outs1 (k := .u8) (s := so) (os := os) (o := ⟨c, o, false⟩) (c := ci) (p := pi) (fun s' => ?_) hb2
  refine W.nonnil ?_
  refine W.storex (cs' := #[at0 b, .bool full, .slice s'.a s'.len s'.cap, .slice sp.a sp.len sp.cap]) ?_
  refine W.cls3 (A := thA t b full (os ++ [⟨c, o, false⟩]) ps) (fun h hs => q_ez.2 ⟨s', sp, hs⟩) ?_
  exact W.pure hq.sub
theorem send_w {t b : Nat} {full : Bool} {T : TurnS} {c : Int} {o : PkO} {ci pi : Slc} (hb : T.outs.length ≤ 100000000) (hq : At (turnA t b full (sendB ⟨c, o, false⟩ T) :: L2) (Q (.tuple #[])))
    (hx : Has L (turnA t b full T) L1 := by repeat (first | with_reducible exact Go.H.has0 | apply Go.H.hasS)) (hy : Has L1 (pkB .u8 (ci, pi, o)) L2 := by repeat (first | with_reducible exact Go.H.has0 | apply Go.H.hasS)) : FW Tryz.prog 67 #[at0 t, .int .i64 c, vPkK .u8 (pkT o ci pi)] L Q := fun h hs => by
  have h1 := (hx.then hy).s hs
  exact send0_w (L := thA t b full T.outs T.pubs :: brkA b T.b :: pkB .u8 (ci, pi, o) :: L2) hb (fun h' hs' => hq h' (q_bs.2 hs')) has0 (hasS has0) h (q_bs.1 h1)
theorem close0_w {t b : Nat} {full : Bool} {os : List OutO} {ps : List MsT} {c : Int} {o : PkO} {ci pi : Slc} (hb : os.length ≤ 100000000) (hq : At (thA t b full (os ++ [⟨c, o, true⟩]) ps :: L2) (Q (.tuple #[])))
    (hx : Has L (thA t b full os ps) L1 := by repeat (first | with_reducible exact Go.H.has0 | apply Go.H.hasS)) (hy : Has L1 (pkB .u8 (ci, pi, o)) L2 := by repeat (first | with_reducible exact Go.H.has0 | apply Go.H.hasS)) : FW Tryz.prog 34 #[at0 t, .int .i64 c, vPkK .u8 (pkT o ci pi)] L Q := by
  refine fun h hs => q_gk (some ⟨t, 0, none⟩) c (pkT o ci pi) h Q ((?_ : W (thA t b full os ps :: pkB .u8 (ci, pi, o) :: L2) _ _) h ((hx.then hy).s hs))
  clear hs h hx hy
  have hb2 : (os.length + 1) * 344 ≤ 140737488355328 := by omega
  unfold q_cx
  refine W.newc fun x1 => ?_
  refine W.nonnil ?_
  refine W.opn2 (fun h R => q_ez.1) fun so sp => ?_
  refine W.loadx (v := so) ?_
  refine W.loadN (v := pkT o ci pi) ?_
  refine W.newc fun x5 => ?_
  refine W.loadx (v := so) ?_
  refine W.req ?_ rfl
  refine W.outs1 (k := .u8) (s := so) (os := os) (o := ⟨c, o, true⟩) (c := ci) (p := pi) (fun s' => ?_) hb2
  refine W.nonnil ?_
  refine W.storex (cs' := #[at0 b, .bool full, .slice s'.a s'.len s'.cap, .slice sp.a sp.len sp.cap]) ?_
  refine W.cls3 (A := thA t b full (os ++ [⟨c, o, true⟩]) ps) (fun h hs => q_ez.2 ⟨s', sp, hs⟩) ?_
  exact W.pure hq.sub
theorem close_w {t b : Nat} {full : Bool} {T : TurnS} {c : Int} {o : PkO} {ci pi : Slc} (hb : T.outs.length ≤ 100000000) (hq : At (turnA t b full (sendB ⟨c, o, true⟩ T) :: L2) (Q (.tuple #[])))
    (hx : Has L (turnA t b full T) L1 := by repeat (first | with_reducible exact Go.H.has0 | apply Go.H.hasS)) (hy : Has L1 (pkB .u8 (ci, pi, o)) L2 := by repeat (first | with_reducible exact Go.H.has0 | apply Go.H.hasS)) : FW Tryz.prog 34 #[at0 t, .int .i64 c, vPkK .u8 (pkT o ci pi)] L Q := fun h hs => by
  have h1 := (hx.then hy).s hs
  exact close0_w (L := thA t b full T.outs T.pubs :: brkA b T.b :: pkB .u8 (ci, pi, o) :: L2) hb (fun h' hs' => hq h' (q_bs.2 hs')) has0 (hasS has0) h (q_bs.1 h1)
end Go.Proofs.YtidlldnlphdhcaaGreatDoor
namespace Go.Proofs.YtidlldnlphdhcaaGreatDoor
open Go.H Go.Proofs
set_option linter.unusedSimpArgs false
set_option linter.unusedVariables false
structure BrkH (B : BrkS) : Prop where
  subs : B.subs.length ≤ 10000
  flow : ∀ s ∈ B.ses, FlowOK s.out
  live : ∀ e ∈ B.subs, ∃ s ∈ B.ses, s.id = e.1
  one : ∀ id : Int, (B.conns.filter fun x => decide (x.ses = id)).length ≤ 1
  nd : (B.ses.map (·.id)).Nodup
  cl : ∀ x ∈ B.conns, ∃ s ∈ B.ses, s.id = x.ses
  onl : ∀ x ∈ B.conns, ∀ s ∈ B.ses, s.id = x.ses → s.on = true
  wl : ∀ x ∈ B.conns, x.will.1.size ≤ 9223372036854775807 ∧ -9223372036854775808 ≤ x.c ∧ x.c ≤ 9223372036854775807
theorem getS_mem {k : Int} {A : List SesS} {s : SesS} (h : getS k A = some s) : s ∈ A ∧ s.id = k := ⟨List.mem_of_find?_eq_some h, by simpa using List.find?_some h⟩
theorem getS_of {k : Int} {A : List SesS} {s : SesS} (hn : (A.map (·.id)).Nodup) (hs : s ∈ A) (hk : s.id = k) : getS k A = some s := by
  unfold getS
  obtain ⟨l1, l2, rfl⟩ := List.append_of_mem hs
  rw [List.map_append, List.map_cons, List.nodup_append] at hn
  rw [List.find?_append, List.find?_cons_of_pos (by simpa using hk), List.find?_eq_none.2, Option.none_or]
  intro x hx
  have := hn.2.2 _ (List.mem_map_of_mem (f := (·.id)) hx) _ (List.mem_cons_self ..)
  rw [hk] at this
  simpa using this
theorem q_ib {k : Int} {f : SesS → SesS} (hf : ∀ s, (f s).id = s.id) (A : List SesS) : (setS k f A).map (·.id) = A.map (·.id) := by
  unfold setS
  rw [List.map_map]
  refine List.map_congr_left fun s _ => ?_
  simp only [Function.comp]
  split
  · exact hf s
  · rfl
theorem q_em {k : Int} {f : SesS → SesS} {A : List SesS} {x : SesS} (h : x ∈ setS k f A) : x ∈ A ∨ ∃ s ∈ A, s.id = k ∧ x = f s := by
  unfold setS at h
  obtain ⟨s, hs, rfl⟩ := List.mem_map.1 h
  split
  · exact .inr ⟨s, hs, by assumption, rfl⟩
  · exact .inl hs
theorem q_dl {k : Int} {f : SesS → SesS} (hf : ∀ s, (f s).id = s.id) {A : List SesS} {i : Int} (h : ∃ s ∈ A, s.id = i) : ∃ s ∈ setS k f A, s.id = i := by
  obtain ⟨s, hs, rfl⟩ := h
  refine ⟨if s.id = k then f s else s, List.mem_map_of_mem hs, ?_⟩
  split
  · exact hf s
  · rfl
theorem toSes_len {l : List ConnS} {id : Int} (ps : List PkO) (h : (l.filter fun x => decide (x.ses = id)).length ≤ 1) : (toSes l id ps).length ≤ ps.length := by
  unfold toSes
  generalize l.filter (fun x => decide (x.ses = id)) = k at h
  match k, h with
  | [], _ => simp
  | [x], _ => simp
theorem BrkH.set {B : BrkS} (h : BrkH B) {k : Int} {o : OutS} (ho : FlowOK o) : BrkH { B with ses := setS k (setOut o) B.ses } where
  subs := h.subs
  flow := fun s hs => by
    rcases q_em hs with hs | ⟨s', _, _, rfl⟩
    · exact h.flow s hs
    · exact ho
  live := fun e he => q_dl (f := setOut o) (fun _ => rfl) (h.live e he)
  one := h.one
  nd := by
    show ((setS k (setOut o) B.ses).map (·.id)).Nodup
    rw [q_ib (f := setOut o) fun _ => rfl]; exact h.nd
  cl := fun x hx => q_dl (f := setOut o) (fun _ => rfl) (h.cl x hx)
  onl := fun x hx s hs e => by
    rcases q_em hs with hs | ⟨s', hs', _, rfl⟩
    · exact h.onl x hx s hs e
    · exact h.onl x hx s' hs' e
  wl := h.wl
theorem BrkH.setI {B : BrkS} (h : BrkH B) {k : Int} {i : PoolS} : BrkH { B with ses := setS k (setInn i) B.ses } where
  subs := h.subs
  flow := fun s hs => by
    rcases q_em hs with hs | ⟨s', hs', _, rfl⟩
    · exact h.flow s hs
    · exact h.flow s' hs'
  live := fun e he => q_dl (f := setInn i) (fun _ => rfl) (h.live e he)
  one := h.one
  nd := by
    show ((setS k (setInn i) B.ses).map (·.id)).Nodup
    rw [q_ib (f := setInn i) fun _ => rfl]; exact h.nd
  cl := fun x hx => q_dl (f := setInn i) (fun _ => rfl) (h.cl x hx)
  onl := fun x hx s hs e => by
    rcases q_em hs with hs | ⟨s', hs', _, rfl⟩
    · exact h.onl x hx s hs e
    · exact h.onl x hx s' hs' e
  wl := h.wl
theorem BrkH.keep {B : BrkS} (h : BrkH B) (K : List MsgT) : BrkH { B with kept := K } := ⟨h.subs, h.flow, h.live, h.one, h.nd, h.cl, h.onl, h.wl⟩
structure Beside (T T' : TurnS) (n : Nat) : Prop where
  ok : BrkH T'.b
  outs : T'.outs.length ≤ T.outs.length + n
  pubs : T'.pubs.length ≤ T.pubs.length + n
  subs : T'.b.subs = T.b.subs
  conns : T'.b.conns = T.b.conns
  last : T'.b.last = T.b.last
theorem Beside.trans {T T' T'' : TurnS} {n n' : Nat} (h : Beside T T' n) (h' : Beside T' T'' n') : Beside T T'' (n + n') := ⟨h'.ok, by have := h.outs; have := h'.outs; omega, by have := h.pubs; have := h'.pubs; omega, h'.subs.trans h.subs, h'.conns.trans h.conns, h'.last.trans h.last⟩
theorem Beside.mono {T T' : TurnS} {n n' : Nat} (h : Beside T T' n) (hn : n ≤ n') : Beside T T' n' := ⟨h.ok, by have := h.outs; omega, by have := h.pubs; omega, h.subs, h.conns, h.last⟩
theorem Beside.refl {T : TurnS} (h : BrkH T.b) : Beside T T 0 := ⟨h, Nat.le_refl _, Nat.le_refl _, rfl, rfl, rfl⟩
theorem outOp_ok {id : Int} {f : OutS → OutS × List PkO} {T : TurnS} (h : BrkH T.b) (hf : ∀ o, FlowOK o → FlowOK (f o).1 ∧ (f o).2.length ≤ 320) : Beside T (outOp id f T) 320 := by
  unfold outOp
  cases hg : getS id T.b.ses with
  | none => exact (Beside.refl h).mono (by decide)
  | some s =>
    have hfo := hf _ (h.flow s (getS_mem hg).1)
    refine ⟨h.set hfo.1, ?_, Nat.le_add_right _ _, rfl, rfl, rfl⟩
    show (T.outs ++ toSes T.b.conns id (f s.out).2).length ≤ _
    rw [List.length_append]
    have := toSes_len (f s.out).2 (h.one id)
    omega
theorem fold_ok {α : Type} {g : TurnS → α → TurnS} {n : Nat} (hg : ∀ T x, BrkH T.b → Beside T (g T x) n) : ∀ (l : List α) {T : TurnS}, BrkH T.b → Beside T (l.foldl g T) (l.length * n)
  | [], T, h => (Beside.refl h).mono (by simp)
  | x :: l, T, h => ((hg T x h).trans (fold_ok hg l (hg T x h).ok)).mono (by rw [List.length_cons, Nat.succ_mul]; omega)
def maxq (l : List Ent) : Int := l.foldl (fun q e => max q e.2.2) 0
theorem idsL_len : ∀ (p : Option Int) (l : List Ent), (idsL p l).length ≤ l.length
  | _, [] => Nat.le_refl _
  | p, e :: l => by
    unfold idsL
    split
    · exact Nat.le_succ_of_le (idsL_len p l)
    · exact Nat.succ_le_succ (idsL_len _ l)
theorem idsL_skip {i : Int} : ∀ {tk rs : List Ent}, (∀ y ∈ tk, y.1 = i) → (∀ y ∈ rs.head?, y.1 ≠ i) → idsL (some i) (tk ++ rs) = idsL none rs
  | [], [], _, _ => rfl
  | [], y :: rs, _, h => by
    have := h y (by simp)
    simp only [List.nil_append, idsL, Option.some.injEq, reduceCtorEq, if_false]
    rw [if_neg (fun e => this e.symm)]
  | y :: tk, rs, h1, h2 => by
    have := h1 y (List.mem_cons_self ..)
    rw [List.cons_append, idsL, if_pos (by rw [this])]
    exact idsL_skip (fun z hz => h1 z (List.mem_cons_of_mem _ hz)) h2
theorem idsL_group {i : Int} {e : Ent} {rest tk rs : List Ent} (he : e.1 = i) (hz : tk ++ rs = e :: rest) (h1 : ∀ y ∈ tk, y.1 = i) (h2 : ∀ y ∈ rs.head?, y.1 ≠ i) : idsL none (e :: rest) = i :: idsL none rs := by
  rw [idsL, if_neg (by simp), he]
  congr 1
  cases tk with
  | nil =>
    rw [List.nil_append] at hz
    subst hz
    exact absurd he (h2 e (by simp))
  | cons y tk =>
    rw [List.cons_append] at hz
    cases hz
    exact idsL_skip (fun z hz => h1 z (List.mem_cons_of_mem _ hz)) h2
theorem qos_group {i : Int} {done tk rs : List Ent} (h0 : ∀ y ∈ done, y.1 ≠ i) (h1 : ∀ y ∈ tk, y.1 = i) (h2 : ∀ y ∈ rs, y.1 ≠ i) : qosL (done ++ (tk ++ rs)) i = maxq tk := by
  unfold qosL maxq
  rw [List.filter_append, List.filter_append, List.filter_eq_nil_iff.2 (fun y hy => by simpa using h0 y hy), List.filter_eq_self.2 (fun y hy => by simpa using h1 y hy), List.filter_eq_nil_iff.2 (fun y hy => by simpa using h2 y hy), List.append_nil, List.nil_append]
theorem asc_le {L : List Ent} (h : Asc L) : L.Pairwise fun a b => a.1 ≤ b.1 := h.imp fun {a b} hab => by
  rcases hab with h | ⟨h, _⟩
  · exact Int.le_of_lt h
  · exact Int.le_of_eq h
theorem keepB_ok {m : MsT} {T : TurnS} (h : BrkH T.b) : Beside T (keepB m T) 0 := by
  unfold keepB
  split
  · exact ⟨h.keep _, Nat.le_refl _, Nat.le_refl _, rfl, rfl, rfl⟩
  · exact Beside.refl h
theorem handOne_ok {m : MsT} {l : List Ent} (T : TurnS) (id : Int) (h : BrkH T.b) : Beside T (handOne m l T id) 320 := outOp_ok h fun o ho => ⟨(q_ic ho _).1, by have := (q_ic ho (m.1, m.2.1, min m.2.2.1 (qosL l id), false, e0S)).2; omega⟩
theorem handB_ok {m : MsT} {T : TurnS} (h : BrkH T.b) : Beside T (handB m T) 3200000 := by
  have h1 := keepB_ok (m := m) h
  have h2 := fold_ok (handOne_ok (m := m) (l := T.b.subs.filter fun x => matchB x.2.1 m.1)) (idsL none (T.b.subs.filter fun x => matchB x.2.1 m.1)) h1.ok
  refine (h1.trans h2).mono ?_
  have a := idsL_len none (T.b.subs.filter fun x => matchB x.2.1 m.1)
  have b := List.length_filter_le (fun x => matchB x.2.1 m.1) T.b.subs
  have c := h.subs
  omega
theorem outOp_pubs {id : Int} {f : OutS → OutS × List PkO} {T : TurnS} : (outOp id f T).pubs = T.pubs := by
  unfold outOp; split <;> rfl
theorem fold_pubs {α : Type} {g : TurnS → α → TurnS} (hg : ∀ T x, (g T x).pubs = T.pubs) : ∀ (l : List α) {T : TurnS}, (l.foldl g T).pubs = T.pubs
  | [], _ => rfl
  | x :: l, T => (fold_pubs hg l).trans (hg T x)
theorem handB_pubs {m : MsT} {T : TurnS} : (handB m T).pubs = T.pubs := by
  unfold handB
  rw [fold_pubs (g := handOne m (T.b.subs.filter fun x => matchB x.2.1 m.1)) fun T x => outOp_pubs]
  unfold keepB; split <;> rfl
theorem publishB_ok {m : MsT} {T : TurnS} (h : BrkH T.b) : Beside T (publishB m T) 3200000 := let r := handB_ok (m := m) h; ⟨r.ok, r.outs, by
  show ((handB m T).pubs ++ [m]).length ≤ _
  rw [List.length_append, handB_pubs]; simp only [List.length_cons, List.length_nil]; omega, r.subs, r.conns, r.last⟩
theorem q_d8 {c : Int} {l : List ConnS} {x : ConnS} (h : getC c l = some x) : x ∈ l ∧ x.c = c := ⟨List.mem_of_find?_eq_some h, by simpa using List.find?_some h⟩
def endT (k : Int) (A : List SesS) : Bool × List SesS := match getS k A with
  | none => (false, A)
  | some s => if s.on = false then (false, A) else if s.keep = true then (false, setS k offS A) else (true, A.filter fun x => decide (x.id ≠ k))
theorem endS_eq {k : Int} {B : BrkS} : endS k B = ⟨B.last, (endT k B.ses).2, if (endT k B.ses).1 = true then dropL k B.subs else B.subs, B.kept, B.conns⟩ := by
  unfold endS endT
  cases getS k B.ses with
  | none => rfl
  | some s =>
    simp only
    by_cases h1 : s.on = false
    · simp [h1]
    · by_cases h2 : s.keep = true
      · simp [h1, h2]
      · simp [h1, h2]
theorem BrkH.conn {B : BrkS} (h : BrkH B) (p : ConnS → Bool) : BrkH (bConns (B.conns.filter p) B) where
  subs := h.subs
  flow := h.flow
  live := h.live
  one := fun id => by
    refine Nat.le_trans ?_ (h.one id)
    exact (List.Sublist.filter _ List.filter_sublist).length_le
  nd := h.nd
  cl := fun x hx => h.cl x (List.mem_filter.1 hx).1
  onl := fun x hx => h.onl x (List.mem_filter.1 hx).1
  wl := fun x hx => h.wl x (List.mem_filter.1 hx).1
theorem BrkH.other {B : BrkS} (h : BrkH B) {x y : ConnS} (hx : x ∈ B.conns) (hy : y ∈ B.conns) (hne : y.c ≠ x.c) : y.ses ≠ x.ses := fun e => by
  have h1 := h.one x.ses
  have m1 : x ∈ B.conns.filter (fun z => decide (z.ses = x.ses)) := List.mem_filter.2 ⟨hx, by simp⟩
  have m2 : y ∈ B.conns.filter (fun z => decide (z.ses = x.ses)) := List.mem_filter.2 ⟨hy, by simp [e]⟩
  generalize B.conns.filter (fun z => decide (z.ses = x.ses)) = k at h1 m1 m2
  match k, h1 with
  | [], _ => cases m1
  | [z], _ =>
    rw [List.mem_singleton.1 m1, List.mem_singleton.1 m2] at hne
    exact hne rfl
theorem endS_ok {k : Int} {B : BrkS} (h : BrkH B) (hc : ∀ y ∈ B.conns, y.ses ≠ k) : BrkH (endS k B) ∧ (endS k B).conns = B.conns ∧ (endS k B).last = B.last ∧ (endS k B).kept = B.kept := by
  unfold endS
  split
  · exact ⟨h, rfl, rfl, rfl⟩
  · rename_i s hg
    split
    · exact ⟨h, rfl, rfl, rfl⟩
    · split
      · refine ⟨⟨h.subs, fun x hx => ?_, fun e he => q_dl (f := offS) (fun _ => rfl) (h.live e he), h.one, ?_, fun x hx => q_dl (f := offS) (fun _ => rfl) (h.cl x hx), fun x hx s hs e => ?_, h.wl⟩, rfl, rfl, rfl⟩
        · rcases q_em hx with hx | ⟨y, hy, _, rfl⟩
          · exact h.flow x hx
          · exact (h.flow y hy).off false
        · show ((setS k offS B.ses).map (·.id)).Nodup
          rw [q_ib (f := offS) fun _ => rfl]; exact h.nd
        · rcases q_em hs with hs | ⟨s', hs', hk, rfl⟩
          · exact h.onl x hx s hs e
          · exact absurd (e.symm.trans hk) (hc x hx)
      · refine ⟨⟨Nat.le_trans (List.length_filter_le _ _) h.subs, fun x hx => h.flow x (List.mem_filter.1 hx).1, fun e he => ?_, h.one, ?_, fun x hx => ?_, fun x hx s hs => h.onl x hx s (List.mem_filter.1 hs).1, h.wl⟩, rfl, rfl, rfl⟩
        · obtain ⟨he1, he2⟩ := List.mem_filter.1 he
          obtain ⟨y, hy, hye⟩ := h.live e he1
          refine ⟨y, List.mem_filter.2 ⟨hy, ?_⟩, hye⟩
          rw [hye]
          simpa using he2
        · exact h.nd.sublist (List.Sublist.map _ List.filter_sublist)
        · obtain ⟨y, hy, hye⟩ := h.cl x hx
          refine ⟨y, List.mem_filter.2 ⟨hy, ?_⟩, hye⟩
          rw [hye]
          simpa using hc x hx
theorem BrkH.gone {B : BrkS} (h : BrkH B) {c : Int} {x : ConnS} (hg : getC c B.conns = some x) : ∀ y ∈ B.conns.filter (fun y => decide (y.c ≠ c)), y.ses ≠ x.ses := fun y hy => by
  obtain ⟨h1, h2⟩ := List.mem_filter.1 hy
  obtain ⟨h3, h4⟩ := q_d8 hg
  exact h.other h3 h1 (by rw [h4]; simpa using h2)
theorem endB_ok {full : Bool} {c : Int} {w : Bool} {T : TurnS} (h : BrkH T.b) : BrkH (endB full c w T).b ∧ (endB full c w T).outs.length ≤ T.outs.length + 3200000 ∧ (endB full c w T).pubs.length ≤ T.pubs.length + 3200000 ∧ (endB full c w T).b.conns = T.b.conns.filter (fun y => decide (y.c ≠ c)) ∧ (endB full c w T).b.last = T.b.last := by
  unfold endB
  cases hg : getC c T.b.conns with
  | none =>
    have hf : T.b.conns.filter (fun y => decide (y.c ≠ c)) = T.b.conns := List.filter_eq_self.2 fun y hy => by
      have := List.find?_eq_none.1 hg y hy
      simpa using this
    exact ⟨h, Nat.le_add_right _ _, Nat.le_add_right _ _, hf.symm, rfl⟩
  | some x =>
    have h1 := endS_ok (k := x.ses) (h.conn fun y => decide (y.c ≠ c)) (h.gone hg)
    simp only
    split
    · have h2 := publishB_ok (m := x.will) (T := tB (endS x.ses (bConns (T.b.conns.filter fun y => decide (y.c ≠ c)) T.b)) T) h1.1
      exact ⟨h2.ok, h2.outs, h2.pubs, h2.conns.trans h1.2.1, h2.last.trans h1.2.2.1⟩
    · exact ⟨h1.1, Nat.le_add_right _ _, Nat.le_add_right _ _, h1.2.1, h1.2.2.1⟩
theorem refuseB_ok {full : Bool} {c code : Int} {T : TurnS} (h : BrkH T.b) : BrkH (refuseB full c code T).b ∧ (refuseB full c code T).outs.length ≤ T.outs.length + 3200001 ∧ (refuseB full c code T).pubs.length ≤ T.pubs.length + 3200001 ∧ (refuseB full c code T).b.conns = T.b.conns.filter (fun y => decide (y.c ≠ c)) ∧ (refuseB full c code T).b.last = T.b.last := by
  have h1 := endB_ok (full := full) (c := c) (w := true) (T := sendB ⟨c, ackO 14 0 code, true⟩ T) h
  refine ⟨h1.1, ?_, ?_, h1.2.2.2.1, h1.2.2.2.2⟩
  · refine Nat.le_trans h1.2.1 ?_
    have e : (sendB ⟨c, ackO 14 0 code, true⟩ T).outs.length = T.outs.length + 1 := by rw [List.length_append]; rfl
    omega
  · have e : (sendB ⟨c, ackO 14 0 code, true⟩ T).pubs.length = T.pubs.length := rfl
    have := h1.2.2.1
    unfold refuseB
    omega
end Go.Proofs.YtidlldnlphdhcaaGreatDoor
namespace Go.Proofs.YtidlldnlphdhcaaGreatDoor
set_option linter.unusedSimpArgs false
set_option linter.unusedVariables false
open Go.H Go.Proofs Go.Shelf
def keysS_ren : Go.Shelf.Ren := ⟨fun n => match n with | 7 => 78 | 10 => 124 | n => n, fun n => match n with | 23 => 170 | 26 => 3 | 3 => 198 | 28 => 123 | 0 => 0 | 27 => 122 | 33 => 196 | 4 => 4 | n => n, fun n => n⟩
theorem keysS : SlLaysZI.n7 Tryz.prog keysS_ren where
  mixed := by kernel_rfl
  f7 := ⟨Tryz.f78.name, by kernel_rfl, Tryz.func78.trans (congrArg some (by kernel_rfl))⟩
  f10 := ⟨Tryz.f124.name, by kernel_rfl, Tryz.func124.trans (congrArg some (by kernel_rfl))⟩
  t0 := Tryz.underlying0
  a0 := Tryz.isAgg0
  z0 := Tryz.sizeOf0
  v0 := Tryz.zeroValue0
  t4 := Tryz.underlying4
  a4 := Tryz.isAgg4
  z4 := Tryz.sizeOf4
  v4 := Tryz.zeroValue4
  t23 := Tryz.underlying170
  a23 := Tryz.isAgg170
  z23 := Tryz.sizeOf170
  v23 := Tryz.zeroValue170
  t26 := Tryz.underlying3
  a26 := Tryz.isAgg3
  z26 := Tryz.sizeOf3
  v26 := Tryz.zeroValue3
  t27 := Tryz.underlying122
  a27 := Tryz.isAgg122
  z27 := Tryz.sizeOf122
  v27 := Tryz.zeroValue122
  t28 := Tryz.underlying123
  a28 := Tryz.isAgg123
  z28 := Tryz.sizeOf123
  v28 := Tryz.zeroValue123
  t33 := Tryz.underlying196
  a33 := Tryz.isAgg196
  z33 := Tryz.sizeOf196
  v33 := Tryz.zeroValue196
end Go.Proofs.YtidlldnlphdhcaaGreatDoor
namespace Go.Proofs.YtidlldnlphdhcaaGreatDoor
open Go.H Go.Proofs
set_option linter.unusedSimpArgs false
set_option linter.unusedVariables false
set_option synthInstance.maxSize 100000
set_option synthInstance.maxHeartbeats 400000
abbrev InT := Int × ByteArray × Bool × Bool
abbrev encN (x : InT) : List Value := [.int .i64 x.1, .string x.2.1, .bool x.2.2.1, .bool x.2.2.2]
def infoOf (s : SesS) : InT := (s.id, s.client, s.keep, s.on)
theorem nodup_of_map {α β : Type} (f : α → β) {l : List α} (hn : (l.map f).Nodup) : l.Nodup :=
  List.Pairwise.of_map f (fun a b hne hab => hne (congrArg f hab)) hn
def AllIn (xs ys : List InT) : Prop := ∀ x ∈ xs, x ∈ ys
theorem eN_len (x : InT) : (encN x).length = 4 := rfl
theorem eN_cell (x : InT) : ∀ v ∈ encN x, v.oneCell' = true := by
  intro v hv; simp at hv; rcases hv with rfl | rfl | rfl | rfl <;> rfl
theorem perm_of_keys {α β : Type} {f : α → β} {l1 l2 : List α} (hm : (l1.map f).Perm (l2.map f)) (hn : (l2.map f).Nodup) (hs : ∀ x ∈ l1, x ∈ l2) : l1.Perm l2 := by
  have hn1 : (l1.map f).Nodup := hm.nodup_iff.2 hn
  refine (List.perm_ext_iff_of_nodup (nodup_of_map f hn1) (nodup_of_map f hn)).2 fun y => ⟨hs y, fun hy => ?_⟩
  obtain ⟨x, hx, he⟩ := List.mem_map.1 (hm.mem_iff.2 (List.mem_map_of_mem hy))
  have hx2 := hs x hx
  have : x = y := by
    obtain ⟨a, b, rfl⟩ := List.append_of_mem hy
    rw [List.map_append, List.map_cons, List.nodup_append] at hn
    rcases List.mem_append.1 hx2 with h | h
    · exact absurd he (hn.2.2 _ (List.mem_map_of_mem h) _ (List.mem_cons_self ..))
    · rcases List.mem_cons.1 h with h | h
      · exact h
      · have h3 := (List.nodup_cons.1 hn.2.1).1
        rw [← he] at h3
        exact absurd (List.mem_map_of_mem h) h3
  exact this ▸ hx
theorem List_spec {h : Heap} {R : List Asn} {b : Nat} {last : Int} {L : List (Nat × SesS)} (hs : sat h (tabA b last L :: R)) (hl1 : last < 4611686018427387904) (hid : ∀ p ∈ L, 0 ≤ p.2.id ∧ p.2.id ≤ last) (hlen : L.length ≤ 32) {Q : Value → Heap → Prop}
    (hq : ∀ (sl : Slc) (xs : List InT) h', xs.map (·.1) = sortI (L.map (·.2.id)) → xs.Perm (L.map fun p => infoOf p.2) → sat h' (ownS encN 4 sl xs :: tabA b last L :: R) → Q (.slice sl.a sl.len sl.cap) h') :
    HCalls Tryz.prog 42 #[at0 b] h Q := by
  refine q_fb _ h Q ?_
  obtain ⟨m, hs⟩ := q_aq.1 hs
  have c1 : cellH h ⟨b, 1, none⟩ = some (.map (some m)) := hs.cell 1
  have hidn : (L.map (·.2.id)).Nodup := by
    have := hs.p1.map_nodup
    rw [List.map_map] at this
    exact this
  unfold q_b6
  simp [c1]
  refine keysI_call (ρk := keysS_ren) keysS (some m) ?_
  simp only [un_any]
  have hs2 := (hs.push_cells (T := keysS_ren.t 23) (cs := #[.map (some m)]))
  refine sortedI_call (ρk := keysS_ren) (ρs := sortedI_ren) (ρt := sortMI_ren) keysS sortedI sortMI rfl (enters_of Tryz.func76 (by kernel_rfl) rfl) (enters_of Tryz.func124 (by kernel_rfl) rfl) hs2.p2
    (fun p hp => ?_) ?_ (hs2.cell 0) fun sl h' hs3 => ?_
  · obtain ⟨q, hq', rfl⟩ := List.mem_map.1 hp
    have := hid q hq'
    simp [Lit.wf, IntKind.min, IntKind.max, IntKind.bits, IntKind.signed, sesE]
    omega
  · simp; omega
  · have e0 : (L.map sesE).map (·.1) = L.map (·.2.id) := by rw [List.map_map]; rfl
    rw [e0] at hs3
    simp only [un_slc]
    have hs4 := (hs3.re [2, 0, 1]).drop
    clear hs2 hs3
    have hlsort : (sortI (L.map (·.2.id))).length = L.length := by simp [sortI, List.length_mergeSort]
    have hsl := hs4.own_len
    rw [hlsort] at hsl
    refine q_cv (γ := Nat × List InT) (hb := fun s => by
      repeat' with_reducible first
        | refine @mono_bind _ _ _ _ ?_ (fun _ => ?_)
        | refine @mono_ite _ _ _ _ ?_ ?_
      all_goals infer_instance)
      (fun g c h'' => c.2.1 = (g.1 : Int) ∧ g.1 ≤ L.length ∧ g.2.map (·.1) = (sortI (L.map (·.2.id))).take g.1 ∧ AllIn g.2 (L.map fun p => infoOf p.2) ∧
        sat h'' (ownS encN 4 c.1 g.2 :: ownS eI 1 sl (sortI (L.map (·.2.id))) :: mapA eKI eVP m (L.map sesE) :: cells b #[.int .i64 last, .map (some m)] :: bigA (fun p => sesA p.1 p.2) L :: R))
      (fun g => L.length - g.1) (0, []) ⟨rfl, Nat.zero_le _, rfl, fun x hx => (by simp at hx), q_a3 hs4⟩ ?_
    rintro ⟨i, xs⟩ ⟨out, c, ⟨⟩⟩ h1 ⟨hc, hi, hx1, hx2, hs5⟩
    simp only at hc hi hx1 hx2 hs5
    subst hc
    have next : IntKind.wrap .i64 ((i : Int) + 1) = ((i + 1 : Nat) : Int) := by rw [q_al (by omega) (by omega)]; rfl
    simp
    by_cases hlt : i < L.length
    · rw [if_pos (by omega)]
      have hlt' : i < (sortI (L.map (·.2.id))).length := by omega
      refine q_bi (hs5.p1.own_row (by intro x; rfl)) (List.getElem?_eq_getElem hlt') fun a ha => ?_
      generalize hk : (sortI (L.map (·.2.id)))[i] = k at ha
      have e1 : cellH h1 a = some (.int .i64 k) := by simpa [Go.H.add_zero] using ha 0 _ rfl
      have d1 : cellH h1 ⟨b, 1, none⟩ = some (.map (some m)) := by rw [(hs5.re [3, 0, 1, 2]).cell]; rfl
      have hkm : k ∈ L.map (·.2.id) := by
        have := List.getElem_mem hlt'
        rw [hk] at this
        exact (List.mergeSort_perm _ _).mem_iff.1 this
      obtain ⟨p, hp, hpk⟩ := List.mem_map.1 hkm
      simp [e1, d1]
      refine q_ap kI (kind := .one .ptr) (z := none) rfl (hs5.re [2, 0, 1]) ?_
      have hg : mget (L.map sesE) k = some (some ⟨p.1, 0, none⟩) := by
        obtain ⟨l1, l2, rfl⟩ := List.append_of_mem hp
        cases hgg : mget ((l1 ++ p :: l2).map sesE) k with
        | none =>
          have := (q_a7 _ _).1 hgg
          exact absurd (by rw [List.map_map]; exact hkm) this
        | some v =>
          obtain ⟨q, hq', e⟩ := List.mem_map.1 (q_f4 hgg)
          have e2 : q.2.id = k := congrArg Prod.fst e
          have e3 : some ⟨q.1, 0, none⟩ = v := congrArg Prod.snd e
          have hqp : sesE q = sesE p := by
            have hnd := (hs5.re [2, 0, 1]).map_nodup
            have hA : sesE q ∈ (l1 ++ p :: l2).map sesE := List.mem_map_of_mem hq'
            have hB : sesE p ∈ (l1 ++ p :: l2).map sesE := List.mem_map_of_mem hp
            obtain ⟨u1, u2, hu⟩ := List.append_of_mem hB
            rw [hu] at hA hnd
            rw [List.map_append, List.map_cons, List.nodup_append] at hnd
            have hsame : (sesE q).1 = (sesE p).1 := e2.trans hpk.symm
            rcases List.mem_append.1 hA with h | h
            · exact absurd hsame (hnd.2.2 _ (List.mem_map_of_mem h) _ (List.mem_cons_self ..))
            · rcases List.mem_cons.1 h with h | h
              · exact h
              · have h3 := (List.nodup_cons.1 hnd.2.1).1
                rw [← hsame] at h3
                exact absurd (List.mem_map_of_mem h) h3
          have := congrArg Prod.snd hqp
          rw [← e3]
          exact congrArg some this
      rw [hg]
      simp
      obtain ⟨R', hs6⟩ := bigA_mem hp (hs5.re [4, 0, 1, 2, 3])
      obtain ⟨ob, ib, hs7⟩ := q_b8.1 hs6
      refine q_er (ts := [.int .i64, .str, .bool, .bool]) (p.2.id, p.2.client, p.2.keep, p.2.on, ()) (fun j v hv => ?_) ?_
      · rw [q_aa, hs7.cell]
        match j, hv with
        | 0, hv => exact hv
        | 1, hv => exact hv
        | 2, hv => exact hv
        | 3, hv => exact hv
        | j + 4, hv => cases (show (none : Option Value) = some v from hv)
      · try simp only [HM.bind_apply]
        refine app_new (x := infoOf p.2) eN_len eN_cell rfl hs5 (by decide) (by decide) ?_ fun out2 h2 hs8 => ?_
        · have : xs.length = i := by
            have := congrArg List.length hx1
            simp at this
            omega
          omega
        · refine .mk (i + 1, xs ++ [infoOf p.2]) (by simp only []; omega) ⟨next, by simp only []; omega, ?_, fun x hx => ?_, hs8⟩
          · simp only [List.map_append, List.map_cons, List.map_nil, hx1]
            rw [List.take_succ_eq_append_getElem hlt', hk, ← hpk]
            rfl
          · rcases List.mem_append.1 hx with h | h
            · exact hx2 x h
            · rw [List.mem_singleton.1 h]
              exact List.mem_map_of_mem hp
    · rw [if_neg (by omega)]
      rw [List.take_of_length_le (by omega)] at hx1
      refine hq out xs h1 hx1 (perm_of_keys (f := (·.1)) ?_ ?_ hx2) ?_
      · rw [hx1, List.map_map]
        exact List.mergeSort_perm _ _
      · rw [List.map_map]
        exact hidn
      · exact ((q_aq.2 ⟨m, hs5.re [3, 2, 4, 0, 1]⟩).re [2, 1, 0]).drop
end Go.Proofs.YtidlldnlphdhcaaGreatDoor
namespace Go.Proofs.YtidlldnlphdhcaaGreatDoor
open Go.H Go.Proofs
set_option linter.unusedSimpArgs false
set_option linter.unusedVariables false
set_option synthInstance.maxSize 100000
set_option synthInstance.maxHeartbeats 400000
theorem info_nil {h : Heap} {R : List Asn} (hs : sat h R) {Q : Value → Heap → Prop} (hq : ∀ h', sat h' R → Q (.tuple #[.agg #[.int .i64 0, .string (ByteArray.mk #[]), .bool false, .bool false], .bool false]) h') : HCalls Tryz.prog 97 #[.pointer none] h Q := by
  refine q_en none h Q ?_
  unfold q_eo
  refine q_ae hs fun b h1 hs1 => ?_
  simp only [HM.ite_apply, Option.isNone_none, if_true]
  refine storeN_all' hs1 rfl rfl fun h2 hs2 => ?_
  refine q_au (ts := [.int .i64, .str, .bool, .bool]) (0, ByteArray.mk #[], false, false, ()) hs2 rfl ?_
  exact hq h2 hs2.drop
end Go.Proofs.YtidlldnlphdhcaaGreatDoor
namespace Go.Proofs.YtidlldnlphdhcaaGreatDoor
open Go.H Go.Proofs
set_option linter.unusedSimpArgs false
set_option linter.unusedVariables false
set_option synthInstance.maxSize 100000
set_option synthInstance.maxHeartbeats 400000
variable {h : Heap} {R : List Asn}
theorem eq_of_keys {α β : Type} {f : α → β} {xs ys : List α} (hp : xs.Perm ys) (hn : (ys.map f).Nodup) (he : xs.map f = ys.map f) : xs = ys := by
  refine List.ext_getElem hp.length_eq fun i h1 h2 => ?_
  have hm : xs[i] ∈ ys := hp.mem_iff.1 (List.getElem_mem h1)
  have hk : f xs[i] = f ys[i] := by
    have := List.getElem_of_eq he (i := i) (by simpa using h1)
    simpa using this
  obtain ⟨j, hj, hje⟩ := List.getElem_of_mem hm
  have hij : j = i := by
    refine (List.getElem_inj (xs := ys.map f) (i := j) (j := i) (h₀ := by simpa using hj) (h₁ := by simpa using h2) hn).1 ?_
    simp only [List.getElem_map]
    rw [hje, hk]
  subst hij
  exact hje.symm
theorem sortI_rising {l : List Int} (hr : l.Pairwise (· < ·)) : sortI l = l :=
  List.mergeSort_of_pairwise (hr.imp fun {a b} hab => by simpa using (show a ≤ b by omega))
theorem rising_nodup {l : List Int} (hr : l.Pairwise (· < ·)) : l.Nodup := hr.imp fun {a b} hab => by omega
theorem list_is {L : List (Nat × SesS)} {xs : List InT} (hr : (L.map (·.2.id)).Pairwise (· < ·)) (h1 : xs.map (·.1) = sortI (L.map (·.2.id))) (h2 : xs.Perm (L.map fun p => infoOf p.2)) : xs = L.map fun p => infoOf p.2 := by
  have e : (L.map fun p => infoOf p.2).map (·.1) = L.map (·.2.id) := by rw [List.map_map]; rfl
  refine eq_of_keys h2 (f := (·.1)) ?_ ?_
  · rw [e]; exact rising_nodup hr
  · rw [e, h1, sortI_rising hr]
def infoT : Option InT → (Int × ByteArray × Bool × Bool × Unit) × Bool × Unit
  | some x => ((x.1, x.2.1, x.2.2.1, x.2.2.2, ()), true, ())
  | none => ((0, ByteArray.mk #[], false, false, ()), false, ())
abbrev infoV (o : Option InT) : Value := .tuple (KTup.vals [.agg [.int .i64, .str, .bool, .bool], .one .bool] (infoT o)).toArray
theorem info_spec {b : Nat} {s : SesS} {ob ib : Nat} (hs : sat h (cells b (sesC s ob ib) :: R)) {Q : Value → Heap → Prop} (hq : ∀ h', sat h' (cells b (sesC s ob ib) :: R) → Q (infoV (some (infoOf s))) h') :
    HCalls Tryz.prog 97 #[at0 b] h Q := by
  refine q_en (some ⟨b, 0, none⟩) h Q ?_
  unfold q_eo
  refine q_ae hs fun x1 h1 hs1 => ?_
  (try dsimp only); rw [HM.ite_apply, if_neg (by simp)]
  refine ⟨_, rfl, ?_⟩
  refine q_er (ts := [.int .i64, .str, .bool, .bool]) (s.id, s.client, s.keep, s.on, ()) (fun j v hv => ?_) ?_
  · rw [q_aa, q_aa, (hs1.p1).cell]
    match j, hv with
    | 0, hv => exact hv
    | 1, hv => exact hv
    | 2, hv => exact hv
    | 3, hv => exact hv
    | j + 4, hv => cases (show (none : Option Value) = some v from hv)
  refine storeN_all' hs1 rfl rfl fun h2 hs2 => ?_
  refine q_au (ts := [.int .i64, .str, .bool, .bool]) (s.id, s.client, s.keep, s.on, ()) hs2 rfl ?_
  exact hq h2 hs2.drop
theorem info_at {b : Nat} {last : Int} {L : List (Nat × SesS)} {p : Nat × SesS} (hp : p ∈ L) (hs : sat h (tabA b last L :: R)) {Q : Value → Heap → Prop} (hq : ∀ h', sat h' (tabA b last L :: R) → Q (infoV (some (infoOf p.2))) h') :
    HCalls Tryz.prog 97 #[at0 p.1] h Q := by
  obtain ⟨l1, l2, rfl⟩ := List.append_of_mem hp
  obtain ⟨m, ob, ib, hs1⟩ := tab_open hs
  refine info_spec (s := p.2) (hs1.re [2, 0, 1]) fun h' hs2 => hq h' ?_
  exact tab_shut (o := p.2.out) (hs2.re [1, 2, 0])
theorem Find_spec {b : Nat} {last : Int} {L : List (Nat × SesS)} {c : ByteArray} (hs : sat h (tabA b last L :: R)) {Q : Value → Heap → Prop}
    (hno : (∀ p ∈ L, p.2.client ≠ c) → ∀ h', sat h' (tabA b last L :: R) → Q (infoV none) h') (hyes : ∀ p ∈ L, p.2.client = c → ∀ h', sat h' (tabA b last L :: R) → Q (infoV (some (infoOf p.2))) h') :
    HCalls Tryz.prog 55 #[at0 b, .string c] h Q := by
  refine q_fc _ c h Q ?_
  unfold q_b7
  refine q_ae hs fun x1 h1 hs1 => ?_
  have fin : ∀ {o : Option InT} {h' : Heap}, (∀ h', sat h' (tabA b last L :: R) → Q (infoV o) h') → sat h' (tabA b last L :: cells x1 #[.int .i64 0, .string (ByteArray.mk #[]), .bool false, .bool false] :: R) →
      (HM.bind (α := Unit) (HM.storeN ⟨x1, 0, none⟩ [.int .i64 (infoT o).1.1, .string (infoT o).1.2.1, .bool (infoT o).1.2.2.1, .bool (infoT o).1.2.2.2.1]) fun (_ : Unit) =>
        HM.bind (α := Int × ByteArray × Bool × Bool × Unit) (HM.loadN [.int .i64, .str, .bool, .bool] ⟨x1, 0, none⟩) fun (x4 : Int × ByteArray × Bool × Bool × Unit) =>
        HM.pure ((x4.1, x4.2.1, x4.2.2.1, x4.2.2.2.1, ()), (infoT o).2.1, ())) h' fun x h' => Q (.tuple #[.agg #[.int .i64 x.1.1, .string x.1.2.1, .bool x.1.2.2.1, .bool x.1.2.2.2.1], .bool x.2.1]) h' := fun hq' hs' => by
    refine storeN_all' hs'.p1 rfl rfl fun h3 hs3 => ?_
    refine q_au (ts := [.int .i64, .str, .bool, .bool]) (infoT _).1 hs3 rfl ?_
    exact hq' h3 hs3.drop
  refine q_ad (fun x h' => (x = none ∧ (∀ p ∈ L, p.2.client ≠ c) ∧ sat h' (tabA b last L :: cells x1 #[.int .i64 0, .string (ByteArray.mk #[]), .bool false, .bool false] :: R)) ∨
    (∃ p, p ∈ L ∧ x = some ⟨p.1, 0, none⟩ ∧ p.2.client = c ∧ sat h' (tabA b last L :: cells x1 #[.int .i64 0, .string (ByteArray.mk #[]), .bool false, .bool false] :: R))) ?_ ?_
  · exact of_spec hs1.p1 (fun hn h' hs' => ⟨none, rfl, .inl ⟨rfl, hn, hs'⟩⟩) (fun p hp hc h' hs' => ⟨some ⟨p.1, 0, none⟩, rfl, .inr ⟨p, hp, rfl, hc, hs'⟩⟩)
  rintro x h2 (⟨rfl, hn, hs2⟩ | ⟨p, hp, rfl, hc, hs2⟩)
  · refine q_az (info_nil hs2 fun h3 hs3 => ⟨infoT none, rfl, ?_⟩)
    exact fin (o := none) (hno hn) hs3
  · refine q_az (info_at hp hs2 fun h3 hs3 => ⟨infoT (some (infoOf p.2)), rfl, ?_⟩)
    exact fin (o := some (infoOf p.2)) (hyes p hp hc) hs3
end Go.Proofs.YtidlldnlphdhcaaGreatDoor
namespace Go.Proofs.YtidlldnlphdhcaaGreatDoor
open Go.H Go.Proofs
set_option linter.unusedSimpArgs false
set_option linter.unusedVariables false
set_option maxRecDepth 100000
variable {h : Heap} {R : List Asn}
theorem osend_spec {b : Nat} {o : OutS} {m : MsT} (hs : sat h (outA b o :: R)) (hok : FlowOK o) {Q : Value → Heap → Prop}
    (hq : ∀ S h', sat h' (outA b (sendF o m).1.1 :: pksA .u8 S (sendF o m).1.2 :: R) → Q (.tuple #[.slice S.a S.len S.cap, .int .u8 (sendF o m).2]) h') :
    HCalls Tryz.prog 81 #[at0 b, vMs m] h Q := by
  refine q_f2 (some ⟨b, 0, none⟩) (toU m) h Q ?_
  obtain ⟨pb, fl, wt, hs0⟩ := q_ay.1 hs
  have hwl : wt.len = o.waiting.length := (hs0.re [3, 0, 1, 2]).own_len
  unfold q_ct
  refine q_ae hs0 fun mb h1 hs1' => ?_
  have hs1 : sat h1 (cells mb (encM m).toArray :: cells b #[at0 pb, .int .i64 o.most, .bool o.on, .slice fl.a fl.len fl.cap, .slice wt.a wt.len wt.cap] :: poolA pb o.pool :: ownS encF 7 fl o.flights :: ownS encM 5 wt o.waiting :: R) := hs1'
  clear hs1' hs0 hs
  have hM : cellH h1 ⟨mb, 2, none⟩ = some (.int .i64 m.2.2.1) := hs1.cell 2
  have stay : ∀ {c : Int}, sendF o m = ((o, []), c) → Q (.tuple #[.slice none 0 0, .int .u8 c]) h1 := fun {c} he => by
    have := hq ⟨none, 0, 0⟩ h1
    rw [he] at this
    exact this ((pks_nil (q_ay.2 ⟨pb, fl, wt, hs1.drop⟩)).p1)
  (try dsimp only); rw [HM.ite_apply, if_neg (by simp)]
  refine cut (fun x h' => h' = h1 ∧ x.1 = decide (m.2.2.1 < 0 ∨ 2 < m.2.2.1)) ?_ ?_
  · intro K hK
    refine ⟨m.2.2.1, by rw [q_aa]; exact hM, ?_⟩
    (try dsimp only); rw [HM.ite_apply]
    by_cases h0 : m.2.2.1 < 0
    · rw [if_pos (by simpa using h0)]
      exact hK _ _ ⟨rfl, by simp [h0]⟩
    · rw [if_neg (by simpa using h0)]
      exact ⟨m.2.2.1, by rw [q_aa]; exact hM, hK _ _ ⟨rfl, by simp [h0]⟩⟩
  rintro ⟨x, ⟨⟩⟩ h2 ⟨rfl, hx⟩
  simp only at hx
  subst hx
  (try dsimp only); rw [HM.ite_apply]
  by_cases hbad : m.2.2.1 < 0 ∨ 2 < m.2.2.1
  · rw [if_pos (by simpa using hbad)]
    exact stay (by unfold sendF; rw [if_pos hbad])
  rw [if_neg (by simpa using hbad)]
  refine cut (fun x h' => h' = h2 ∧ x.1 = decide (m.2.2.1 = 0 ∧ o.on = false)) ?_ ?_
  · intro K hK
    refine ⟨m.2.2.1, by rw [q_aa]; exact hM, ?_⟩
    (try dsimp only); rw [HM.ite_apply]
    by_cases h0 : m.2.2.1 = 0
    · rw [if_pos (by simpa using h0)]
      refine ⟨_, rfl, o.on, by rw [q_aa]; exact hs1.p1.cell 2, hK _ _ ⟨rfl, ?_⟩⟩
      cases o.on <;> simp [h0]
    · rw [if_neg (by simpa using h0)]
      exact hK _ _ ⟨rfl, by simp [h0]⟩
  rintro ⟨x, ⟨⟩⟩ h3 ⟨rfl, hx⟩
  simp only at hx
  subst hx
  (try dsimp only); rw [HM.ite_apply]
  by_cases hoff : m.2.2.1 = 0 ∧ o.on = false
  · rw [if_pos (by simpa using hoff)]
    exact stay (by unfold sendF; rw [if_neg hbad, if_pos hoff])
  rw [if_neg (by simpa using hoff)]
  refine ⟨_, rfl, wt, by rw [q_aa]; exact hs1.p1.cell 4, ?_⟩
  (try dsimp only); rw [HM.ite_apply]
  by_cases hfull : 256 ≤ o.waiting.length
  · rw [if_pos (by rw [hwl]; simp only [decide_eq_true_eq]; omega)]
    exact stay (by unfold sendF; rw [if_neg hbad, if_neg hoff, if_pos hfull])
  rw [if_neg (by rw [hwl]; simp only [decide_eq_true_eq]; omega)]
  refine ⟨_, rfl, wt, by rw [q_aa]; exact hs1.p1.cell 4, ?_⟩
  refine q_au (ts := [.str, .str, .int .i64, .bool, .str]) (toU m) hs1 rfl ?_
  refine q_ae hs1 fun x14 h4 hs2' => ?_
  have hs2 : sat h4 (cells x14 (encM m).toArray :: cells mb (encM m).toArray :: cells b #[at0 pb, .int .i64 o.most, .bool o.on, .slice fl.a fl.len fl.cap, .slice wt.a wt.len wt.cap] :: poolA pb o.pool :: ownS encF 7 fl o.flights :: ownS encM 5 wt o.waiting :: R) := hs2'
  clear hs2'
  refine ⟨wt, by rw [q_aa]; exact hs2.p2.cell 4, rfl, ?_⟩
  (try dsimp only); rw [HM.bind_apply]
  refine q_ds (enc := encM) (ys := [m]) eMs_len eMs_cell rfl hs2.p5 rfl ?_ (by decide) (by decide) (by omega) fun wt' h5 hs3 => ?_
  · simp only [srcSlc, Nat.one_mul, List.flatMap_cons, List.flatMap_nil, List.append_nil]
    exact hs2.reads rfl
  refine ⟨_, rfl, ?_⟩
  (try dsimp only); rw [HM.bind_apply, q_aa]
  refine q_ag hs3.p3 (by simp) rfl fun h6 hs4 => ?_
  have hs5 : sat h6 (outA b { o with waiting := o.waiting ++ [m] } :: pksA .u8 ⟨none, 0, 0⟩ [] :: R) := by
    refine (pks_nil (q_ay.2 ⟨pb, fl, wt', ?_⟩)).p1
    exact (hs4.re [0, 4, 5, 1, 2, 3]).p4.p5.drop.drop
  have hw := hok.wait (m := m) ⟨by omega, by omega⟩ hfull
  have he : sendF o m = (goOnF { o with waiting := o.waiting ++ [m] }, 0) := by unfold sendF; rw [if_neg hbad, if_neg hoff, if_neg hfull]
  rw [he] at hq
  refine q_ab (goOn_spec hs5 hw (by simp) fun h7 S hs6 => ⟨S, rfl, ?_⟩)
  exact hq S h7 hs6
theorem bounded_of {n : Int} {Q : Value → Heap → Prop} (hq : Q (.int .i64 (max 1 (min n 64))) h) : HCalls Tryz.prog 117 #[.int .i64 n] h Q := by
  refine q_c2 n h Q ?_
  unfold q_dz
  have e : (if 1 < (if 64 < n then (64 : Int) else n) then (if 64 < n then 64 else n) else 1) = max 1 (min n 64) := by
    split <;> split <;> omega
  rw [e]
  exact hq
abbrev FlU := Int × ByteArray × ByteArray × Int × Bool × ByteArray × Bool × Unit
abbrev toFU (f : FlT) : FlU := (f.1, f.2.1.1, f.2.1.2.1, f.2.1.2.2.1, f.2.1.2.2.2.1, f.2.1.2.2.2.2, f.2.2, ())
theorem obegin_spec {b : Nat} {o : OutS} {most : Int} (hs : sat h (outA b o :: R)) (hok : FlowOK o) {Q : Value → Heap → Prop}
    (hq : ∀ S h', sat h' (outA b (beginF o most).1 :: pksA .u8 S (beginF o most).2 :: R) → Q (.slice S.a S.len S.cap) h') :
    HCalls Tryz.prog 73 #[at0 b, .int .i64 most] h Q := by
  refine q_ff (some ⟨b, 0, none⟩) most h Q ?_
  obtain ⟨pb, fl, wt, hs0⟩ := q_ay.1 hs
  unfold q_c
  (try dsimp only); rw [HM.ite_apply, if_neg (by simp)]
  refine q_ab (bounded_of ⟨_, rfl, ?_⟩)
  refine ⟨_, rfl, ?_⟩
  (try dsimp only); rw [HM.bind_apply, q_aa]
  refine q_ag hs0 (by simp) rfl fun h1 hs1 => ?_
  refine ⟨_, rfl, ?_⟩
  (try dsimp only); rw [HM.bind_apply, q_aa]
  refine q_ag hs1 (by simp) rfl fun h2 hs2' => ?_
  have hs2 : sat h2 (cells b #[at0 pb, .int .i64 (max 1 (min most 64)), .bool true, .slice fl.a fl.len fl.cap, .slice wt.a wt.len wt.cap] :: poolA pb o.pool :: ownS encF 7 fl o.flights :: ownS encM 5 wt o.waiting :: R) := hs2'
  clear hs2' hs1 hs0 hs
  refine ⟨_, rfl, fl, by rw [q_aa]; exact hs2.cell 3, ?_⟩
  have hfl : fl.len = o.flights.length := hs2.p2.own_len
  have hf64 := hok.f64
  (try dsimp only); rw [HM.bind_apply]
  refine loop_for o.flights.length (fun i x h' => x.2.1 = (i : Int) ∧ sat h' (cells b #[at0 pb, .int .i64 (max 1 (min most 64)), .bool true, .slice fl.a fl.len fl.cap, .slice wt.a wt.len wt.cap] :: poolA pb o.pool :: ownS encF 7 fl o.flights :: ownS encM 5 wt o.waiting :: pksA .u8 x.1 ((o.flights.take i).map againF) :: R))
    ⟨rfl, by simpa using (pks_nil (k := .u8) hs2).re [1, 2, 3, 4, 0]⟩ (fun i x h hi hJ => by rw [hJ.1, hfl]; exact decide_eq_decide.2 (by omega)) (fun x h hJ K hd => ?_) (fun i x h hlt hJ K hnx hd => ?_)
  · obtain ⟨hx, hs3⟩ := hJ
    rw [List.take_length] at hs3
    refine hd _ _ ?_
    have hs4 : sat h (outA b { o with on := true, most := max 1 (min most 64) } :: pksA .u8 x.1 (o.flights.map againF) :: R) := q_ay.2 ⟨pb, fl, wt, hs3⟩
    have h1 : FlowOK { o with on := true, most := max 1 (min most 64) } := ⟨hok.pm, hok.pk, by simp only; omega, by simp only; omega, hok.ids, hok.wl, hok.fq, hok.wq⟩
    refine q_ab (goOn_spec hs4 h1 (by rw [List.length_map]; omega) fun h7 S hs6 => ⟨S, rfl, ?_⟩)
    exact hq S h7 hs6
  · obtain ⟨out, ci, ⟨⟩⟩ := x
    obtain ⟨hx, hs3⟩ := hJ
    simp only at hx hs3
    subst hx
    have hy := List.getElem?_eq_getElem hlt
    have htk : (o.flights.take (i + 1)).map againF = (o.flights.take i).map againF ++ [againF o.flights[i]] := by rw [List.take_add_one, hy, List.map_append]; rfl
    generalize o.flights[i] = f at hy htk
    (try dsimp only); rw [HM.bind_apply]
    refine q_bi (hs3.p2.own_row eF_len) hy fun a ha => ?_
    refine q_er (ts := [.int .i64, .str, .str, .int .i64, .bool, .str, .bool]) (toFU f) ha ?_
    refine q_ae hs3 fun x10 h4 hs4 => ?_
    (try dsimp only); rw [HM.bind_apply]
    refine storeN_all' hs4 rfl rfl fun h5 hs5' => ?_
    have hs5 : sat h5 (cells x10 (encF f).toArray :: cells b #[at0 pb, .int .i64 (max 1 (min most 64)), .bool true, .slice fl.a fl.len fl.cap, .slice wt.a wt.len wt.cap] :: poolA pb o.pool :: ownS encF 7 fl o.flights :: ownS encM 5 wt o.waiting :: pksA .u8 out ((o.flights.take i).map againF) :: R) := hs5'
    clear hs5' hs4
    refine ⟨f.2.2, by rw [q_aa]; exact hs5.cell 6, ?_⟩
    have hbl : ((o.flights.take i).map againF).length ≤ 64 := by rw [List.length_map, List.length_take]; omega
    refine cut (fun z h' => sat h' (pksA .u8 z.1 ((o.flights.take (i + 1)).map againF) :: cells b #[at0 pb, .int .i64 (max 1 (min most 64)), .bool true, .slice fl.a fl.len fl.cap, .slice wt.a wt.len wt.cap] :: poolA pb o.pool :: ownS encF 7 fl o.flights :: ownS encM 5 wt o.waiting :: R)) ?_ ?_
    · intro K2 hK2
      rw [htk] at hK2
      (try dsimp only); rw [HM.ite_apply]
      unfold againF at hK2
      by_cases hr : f.2.2 = true
      · rw [if_pos hr]
        rw [if_pos hr] at hK2
        refine ⟨f.1, by rw [q_aa]; exact hs5.cell 0, ?_⟩
        have hs6 := pkB_none (k := .u8) (o := ackO 6 f.1 0) rfl rfl hs5
        refine pks_push (t := (⟨none, 0, 0⟩, ⟨none, 0, 0⟩, ackO 6 f.1 0)) (hs6.re [6, 0, 1, 2, 3, 4, 5]) rfl (by decide) (by omega) fun s' h6 hs7 => ?_
        exact hK2 _ _ hs7.p1.drop
      · rw [if_neg hr]
        rw [if_neg hr] at hK2
        refine q_er (ts := [.str, .str, .int .i64, .bool, .str]) (toU f.2.1) (fun j v hv => ?_) ?_
        · rw [q_aa, Addr.add_at, hs5.cell]
          match j, hv with
          | 0, hv => exact hv
          | 1, hv => exact hv
          | 2, hv => exact hv
          | 3, hv => exact hv
          | 4, hv => exact hv
          | n + 5, hv => exact absurd hv (by show ¬ (encM f.2.1)[n + 5]? = some v; simp)
        refine ⟨f.1, by rw [q_aa]; exact hs5.cell 0, ?_⟩
        refine q_ab (packet_of (m := f.2.1) (id := f.1) (dup := true) hs5 fun c p h6 hs6 => ⟨pkT (pubO f.2.1 f.1 true) c p, rfl, ?_⟩)
        refine pks_push (t := (c, p, pubO f.2.1 f.1 true)) (hs6.re [6, 0, 1, 2, 3, 4, 5]) rfl (by decide) (by omega) fun s' h7 hs7 => ?_
        exact hK2 _ _ hs7.p1.drop
    rintro ⟨out', ⟨⟩⟩ h6 hs6
    exact hnx _ _ ⟨by rw [q_al (by omega) (by omega)]; rfl, hs6.re [1, 2, 3, 4, 0]⟩
end Go.Proofs.YtidlldnlphdhcaaGreatDoor
namespace Go.H
set_option linter.unusedSimpArgs false
set_option linter.unusedVariables false
section
variable {α : Type} {enc : α → List Value} {size : Nat} {h : Heap} {s : Slc} {xs : List α} {R : List Asn}
def delS (elem : TypeId) (size bytes : Nat) (zero : Array Value) (p0 : Slc) (p1 : Int) (p2 : Int) : HM (Slc × Unit) :=
  HM.bind (HM.slice p0 (some p1) (some p2) (some ((p0.len : Nat) : Int)) size) fun x1 =>
  HM.ite (p1 == p2) (
  HM.pure (p0, ())) (
  HM.bind (HM.slice p0 none (some p1) none size) fun x2 =>
  HM.bind (HM.slice p0 (some p2) none none size) fun x3 =>
  HM.bind (HM.append elem size bytes zero x2 x3.len (srcSlc size x3)) fun x4 =>
  HM.bind (HM.slice x4 (some ((x4.len : Nat) : Int)) (some ((p0.len : Nat) : Int)) none size) fun x5 =>
  HM.bind (HM.clearS zero x5) fun _ =>
  HM.pure (x4, ()))
theorem take_flat (henc : ∀ x, (enc x).length = size) : ∀ (l : List α) (n : Nat), (l.flatMap enc).take (n * size) = (l.take n).flatMap enc ∧ (l.flatMap enc).drop (n * size) = (l.drop n).flatMap enc := by
  intro l
  induction l with
  | nil => intro n; simp
  | cons x l ih =>
    intro n
    cases n with
    | zero => simp
    | succ n =>
      have hx := henc x
      rw [List.flatMap_cons, Nat.succ_mul, List.take_succ_cons, List.drop_succ_cons, List.flatMap_cons]
      refine ⟨?_, ?_⟩
      · rw [List.take_append, hx, List.take_of_length_le (by omega), show n * size + size - size = n * size from by omega, (ih n).1]
      · rw [List.drop_append, hx, List.drop_of_length_le (by omega), show n * size + size - size = n * size from by omega, (ih n).2, List.nil_append]
theorem delete_own (henc : ∀ x, (enc x).length = size) (hcell : ∀ x, ∀ v ∈ enc x, v.oneCell' = true) {elem : TypeId} {bytes : Nat} {zero : Array Value} (hz : zero.size = size) (hzc : zero.toList.all (fun v => v.oneCell') = true) (hsz : 0 < size)
    {i : Nat} (hs : sat h (ownS enc size s xs :: R)) (hi : i < xs.length) {Q : Slc × Unit → Heap → Prop}
    (hq : ∀ s' h', sat h' (ownS enc size s' (xs.eraseIdx i) :: R) → Q (s', ()) h') : delS elem size bytes zero s (i : Int) ((i : Int) + 1) h Q := by
  have hl := hs.own_len
  have hc := hs.own_le
  have hzc : ∀ v ∈ (Builtin.zeroCells zero 1).toList, v.oneCell' = true := by
    intro v hv
    rw [Array.mem_toList_iff] at hv
    unfold Builtin.zeroCells at hv
    obtain ⟨j, -, rfl⟩ := Array.mem_map.1 hv
    have hj : j % zero.size < zero.size := Nat.mod_lt _ (by omega)
    rw [getElem!_pos zero _ hj]
    exact List.all_eq_true.1 hzc _ (by rw [Array.mem_toList_iff]; exact Array.getElem_mem hj)
  have hzl : (Builtin.zeroCells zero 1).toList.length = size := by simp [Builtin.zeroCells, hz]
  rcases q_bq hs with ⟨-, -, rfl, -⟩ | ⟨b, o, cs, ho, hs1⟩
  · simp at hi
  have hsa := ho.a
  have hcs := ho.csize
  unfold delS
  refine ⟨i, i + 1, s.len, ⟨rfl, hc⟩, ⟨by omega, by omega⟩, ⟨rfl, by omega⟩, ?_⟩
  (try dsimp only); rw [HM.ite_apply, if_neg (by simp; omega)]
  refine ⟨0, i, s.cap, rfl, ⟨rfl, by omega⟩, rfl, ?_⟩
  refine ⟨i + 1, s.len, s.cap, rfl, ⟨rfl, rfl⟩, ⟨by omega, by omega⟩, ?_⟩
  have e2 : sliceOf s 0 i s.cap size = ⟨some ⟨b, o * size, none⟩, i, s.cap⟩ := by
    unfold sliceOf
    rw [hsa, if_neg (by omega)]
    simp [Addr.add_at]
  have e3 : (sliceOf s (i + 1) s.len s.cap size).len = s.len - (i + 1) := rfl
  have hmul : s.len * size = i * size + size + (s.len - (i + 1)) * size := by
    rw [← Nat.succ_mul, ← Nat.add_mul]; congr 1; omega
  have hle : (o + s.len) * size ≤ cs.size := Nat.le_trans (Nat.mul_le_mul_right _ (by omega)) hcs
  have hoadd : (o + s.len) * size = o * size + s.len * size := Nat.add_mul ..
  have hfl := q_at henc (xs.drop (i + 1))
  rw [List.length_drop, ← hl] at hfl
  have hdr : (xs.drop (i + 1)).flatMap enc = (xs.flatMap enc).drop ((i + 1) * size) := ((take_flat henc xs (i + 1)).2).symm
  rw [e2]
  (try dsimp only); rw [HM.bind_apply, e3]
  refine ⟨fun _ => ?_, fun hcap => absurd hcap (by simp only; omega)⟩
  refine ⟨((xs.drop (i + 1)).flatMap enc).toArray, ?_, ?_⟩
  · unfold srcSlc
    have ha : (sliceOf s (i + 1) s.len s.cap size).a = some ⟨b, if s.cap = i + 1 then o * size else o * size + (i + 1) * size, none⟩ := by
      unfold sliceOf
      simp only [hsa]
      split <;> simp [Addr.add_at]
    rw [ha, e3]
    refine ⟨by simpa using hfl, fun j v hv => ?_⟩
    have hv' : ((xs.drop (i + 1)).flatMap enc)[j]? = some v := by simpa using hv
    have hj := (List.getElem?_eq_some_iff.1 hv').1
    rw [hfl] at hj
    rw [if_neg (by intro e; rw [show s.len - (i + 1) = 0 by omega] at hj; omega)]
    rw [Addr.add_at, hs1.cell]
    rw [hdr, ← ho.front, List.getElem?_drop, List.getElem?_take_of_lt (by rw [Nat.succ_mul]; omega), List.getElem?_drop] at hv'
    rw [show o * size + (i + 1) * size + j = o * size + ((i + 1) * size + j) by omega]
    simpa using hv'
  dsimp only
  rw [Addr.add_at]
  have hin1 : o * size + i * size + ((xs.drop (i + 1)).flatMap enc).length ≤ cs.size := by rw [hfl]; omega
  refine ⟨by
    have := q_c5 (o := o * size + i * size) (vs := (xs.drop (i + 1)).flatMap enc) hs1 hin1 (fun v hv => by
      obtain ⟨x, _, hx⟩ := List.mem_flatMap.1 hv
      exact hcell x v hx)
    simpa using this, ?_⟩
  obtain ⟨cs1, f1, f2, hs2⟩ := sat.setCells ((xs.drop (i + 1)).flatMap enc) cs (o * size + i * size) 0 hs1 (by omega)
  have e4 : i + (s.len - (i + 1)) = s.len - 1 := by omega
  rw [e4]
  refine ⟨s.len - 1, s.len, s.cap, rfl, ⟨rfl, hc⟩, ⟨rfl, by omega⟩, ?_⟩
  have e5 : sliceOf ⟨some ⟨b, o * size, none⟩, s.len - 1, s.cap⟩ (s.len - 1) s.len s.cap size = ⟨some ⟨b, o * size + (s.len - 1) * size, none⟩, 1, s.cap - (s.len - 1)⟩ := by
    unfold sliceOf
    rw [if_neg (by omega)]
    simp only [Option.map_some, Addr.add_at]
    congr 1
    omega
  rw [e5]
  (try dsimp only); rw [HM.bind_apply]
  unfold HM.clearS
  dsimp only
  rw [if_neg (by decide)]
  have hmul2 : s.len * size = (s.len - 1) * size + size := by
    rw [← Nat.succ_mul]; congr 1; omega
  have hin2 : o * size + (s.len - 1) * size + (Builtin.zeroCells zero 1).toList.length ≤ cs1.size := by rw [hzl, f1]; omega
  refine ⟨by
    have := q_c5 (o := o * size + (s.len - 1) * size) (vs := (Builtin.zeroCells zero 1).toList) hs2 hin2 hzc
    simpa using this, ?_⟩
  obtain ⟨cs2, g1, g2, hs3⟩ := sat.setCells (Builtin.zeroCells zero 1).toList cs1 (o * size + (s.len - 1) * size) 0 hs2 (by omega)
  refine hq _ _ (q_cq (b := b) (o := o) (cs := cs2) ⟨rfl, by simp only; omega, ?_, by rw [g1, f1]; exact hcs, ?_⟩ hs3)
  · rw [List.length_eraseIdx_of_lt hi]; simp only; omega
  rw [g2, Nat.add_zero, List.append_assoc]
  have hcl1 : cs1.toList.length = cs.size := by simp [f1]
  have hcl : cs.toList.length = cs.size := by simp
  have t1 : ((cs1.toList.take (o * size + (s.len - 1) * size) ++ ((Builtin.zeroCells zero 1).toList ++ cs1.toList.drop (o * size + (s.len - 1) * size + (Builtin.zeroCells zero 1).toList.length))).drop (o * size)).take ((s.len - 1) * size)
      = (cs1.toList.drop (o * size)).take ((s.len - 1) * size) := by
    rw [List.drop_append_of_le_length (by rw [List.length_take, hcl1]; omega), List.take_append_of_le_length (by rw [List.length_drop, List.length_take, hcl1]; omega), List.drop_take, List.take_take]
    congr 1
    omega
  rw [t1, f2, Nat.add_zero, List.append_assoc]
  rw [List.drop_append_of_le_length (by rw [List.length_take, hcl]; omega), List.drop_take, show o * size + i * size - o * size = i * size by omega]
  have t2 : (cs.toList.drop (o * size)).take (i * size) = (xs.take i).flatMap enc := by
    rw [← (take_flat henc xs i).1, ← ho.front, List.take_take]
    congr 1
    omega
  rw [t2, List.eraseIdx_eq_take_drop_succ, List.flatMap_append, ← List.append_assoc]
  rw [List.take_append_of_le_length, List.take_of_length_le]
  · rw [List.length_append, hfl, q_at henc, List.length_take, Nat.min_eq_left (by omega)]; omega
  · rw [List.length_append, hfl, q_at henc, List.length_take, Nat.min_eq_left (by omega)]; omega
end
end Go.H
namespace Go.Proofs.YtidlldnlphdhcaaGreatDoor
open Go.H Go.Proofs
set_option linter.unusedSimpArgs false
set_option linter.unusedVariables false
set_option maxRecDepth 100000
variable {h : Heap} {R : List Asn}
theorem addr_add_add (a : Addr) (m n : Nat) : (a.add m).add n = a.add (m + n) := by
  unfold Addr.add
  by_cases hn : n = 0
  · subst hn; simp
  · by_cases hm : m = 0
    · subst hm; simp
    · rw [if_neg hn, if_neg hm, if_neg (by omega), Nat.add_assoc]
theorem erase_one {xs : List FlT} (hn : (xs.map (·.1)).Nodup) : ∀ {i : Nat} {f : FlT}, xs[i]? = some f → xs.eraseIdx i = xs.filter fun g => decide (g.1 ≠ f.1) := by
  induction xs with
  | nil => intro i f hf; simp at hf
  | cons x xs ih =>
    intro i f hf
    rw [List.map_cons, List.nodup_cons] at hn
    cases i with
    | zero =>
      rw [List.getElem?_cons_zero] at hf
      cases hf
      rw [List.eraseIdx_cons_zero, List.filter_cons, if_neg (by simp)]
      refine (List.filter_eq_self.2 fun g hg => ?_).symm
      simp only [decide_eq_true_eq]
      intro e
      exact hn.1 (e ▸ List.mem_map_of_mem hg)
    | succ i =>
      rw [List.getElem?_cons_succ] at hf
      have hx : x.1 ≠ f.1 := fun e => hn.1 (e ▸ List.mem_map_of_mem (List.mem_of_getElem? hf))
      rw [List.eraseIdx_cons_succ, List.filter_cons, if_pos (by simpa using hx), ih hn.2 hf]
theorem set_one {xs : List FlT} (hn : (xs.map (·.1)).Nodup) : ∀ {i : Nat} {f : FlT}, xs[i]? = some f → xs.set i (f.1, f.2.1, true) = xs.map fun g => if g.1 = f.1 then (g.1, g.2.1, true) else g := by
  induction xs with
  | nil => intro i f hf; simp at hf
  | cons x xs ih =>
    intro i f hf
    rw [List.map_cons, List.nodup_cons] at hn
    cases i with
    | zero =>
      rw [List.getElem?_cons_zero] at hf
      cases hf
      rw [List.set_cons_zero, List.map_cons, if_pos rfl]
      congr 1
      conv => lhs; rw [← List.map_id xs]
      refine List.map_congr_left fun g hg => ?_
      rw [if_neg (fun e : g.1 = x.1 => hn.1 (e ▸ List.mem_map_of_mem hg))]
      rfl
    | succ i =>
      rw [List.getElem?_cons_succ] at hf
      have hx : x.1 ≠ f.1 := fun e => hn.1 (e ▸ List.mem_map_of_mem (List.mem_of_getElem? hf))
      rw [List.set_cons_succ, List.map_cons, if_neg hx, ih hn.2 hf]
theorem find_one {xs : List FlT} {id : Int} (hn : (xs.map (·.1)).Nodup) {i : Nat} {f : FlT} (hf : xs[i]? = some f) (he : f.1 = id) : xs.find? (fun g => decide (g.1 = id)) = some f := by
  induction xs generalizing i with
  | nil => simp at hf
  | cons x xs ih =>
    rw [List.map_cons, List.nodup_cons] at hn
    cases i with
    | zero =>
      rw [List.getElem?_cons_zero] at hf
      cases hf
      rw [List.find?_cons_of_pos (by simpa using he)]
    | succ i =>
      rw [List.getElem?_cons_succ] at hf
      have hx : x.1 ≠ id := fun e => hn.1 ((e.trans he.symm) ▸ List.mem_map_of_mem (List.mem_of_getElem? hf))
      rw [List.find?_cons_of_neg (by simpa using hx), ih hn.2 hf]
theorem find_none {xs : List FlT} {id : Int} (hn : ∀ f ∈ xs, f.1 ≠ id) : xs.find? (fun g => decide (g.1 = id)) = none :=
  List.find?_eq_none.2 fun f hf => by simpa using hn f hf
theorem FlowOK.nd {o : OutS} (h : FlowOK o) : (o.flights.map (·.1)).Nodup := by rw [h.ids]; exact h.pk.nodup
theorem af1_spec {cb : Nat} {cs : Array Value} {id : Int} {f : FlT} (hs : sat h (cells cb cs :: R)) (hc : cs[4]? = some (.int .i64 id)) {Q : Value → Heap → Prop} (hq : ∀ h', sat h' (cells cb cs :: R) → Q (.bool (f.1 == id)) h') :
    HCalls Tryz.prog 162 #[.agg (encF f).toArray, at0 cb] h Q := by
  refine q_dn (toFU f) ⟨cb, 0, none⟩ h Q ?_
  unfold q_be
  refine q_ae hs fun x1 h1 hs1 => ?_
  refine ⟨f.1, by rw [q_aa]; exact hs1.cell 0, id, by rw [q_aa]; exact (hs1.p1.cell 4).trans hc, ?_⟩
  exact hq h1 hs1.drop
theorem idxf_spec {cb : Nat} {cs : Array Value} {id : Int} {s : Slc} {xs : List FlT} (hs : sat h (cells cb cs :: ownS encF 7 s xs :: R)) (hl : xs.length ≤ 300) (hc : cs[4]? = some (.int .i64 id)) {Q : Value → Heap → Prop}
    (hno : (∀ f ∈ xs, f.1 ≠ id) → ∀ h', sat h' (cells cb cs :: ownS encF 7 s xs :: R) → Q (.int .i64 (-1)) h')
    (hyes : ∀ (i : Nat) (f : FlT), xs[i]? = some f → f.1 = id → ∀ h', sat h' (cells cb cs :: ownS encF 7 s xs :: R) → Q (.int .i64 i) h') :
    HCalls Tryz.prog 161 #[.slice s.a s.len s.cap, .func (.func 162) #[] #[at0 cb]] h Q := by
  refine q_d s _ h Q ?_
  unfold q_a5
  (try dsimp only); rw [HM.bind_apply]
  have hsl : s.len = xs.length := hs.p1.own_len
  refine loop_for xs.length (fun i x h' => x.1 = (i : Int) ∧ (∀ f ∈ xs.take i, f.1 ≠ id) ∧ sat h' (cells cb cs :: ownS encF 7 s xs :: R))
    ⟨rfl, by simp, hs⟩ (fun i x h hi hJ => by rw [hJ.1, hsl]; exact decide_eq_decide.2 (by omega)) (fun x h hJ K hd => ?_) (fun i x h hlt hJ K hnx hd => ?_)
  · obtain ⟨hx, hn, hs1⟩ := hJ
    rw [List.take_length] at hn
    exact hd _ _ (hno hn _ hs1)
  · obtain ⟨ci, ⟨⟩⟩ := x
    obtain ⟨hx, hn, hs1⟩ := hJ
    simp only at hx
    subst hx
    have hy := List.getElem?_eq_getElem hlt
    have htk : xs.take (i + 1) = xs.take i ++ [xs[i]] := by rw [List.take_add_one, hy]; rfl
    generalize xs[i] = f at hy htk
    (try dsimp only); rw [HM.bind_apply]
    refine q_bi (hs1.p1.own_row eF_len) hy fun a ha => ?_
    refine q_er (ts := [.int .i64, .str, .str, .int .i64, .bool, .str, .bool]) (toFU f) ha ?_
    refine ⟨_, _, _, rfl, Tryz.call162, ?_⟩
    refine af1_spec (f := f) hs1 hc fun h2 hs2 => ⟨_, rfl, ?_⟩
    (try dsimp only); rw [HM.ite_apply]
    by_cases e : f.1 = id
    · rw [if_pos (by simpa using e)]
      exact hd _ _ (hyes i f hy e _ hs2)
    · rw [if_neg (by simpa using e)]
      refine hnx _ _ ⟨by rw [q_al (by omega) (by omega)]; rfl, fun g hg => ?_, hs2⟩
      rw [htk] at hg
      rcases List.mem_append.1 hg with hg | hg
      · exact hn g hg
      · rw [List.mem_singleton.1 hg]; exact e
theorem fdelete_spec {s : Slc} {xs : List FlT} {i : Nat} (hs : sat h (ownS encF 7 s xs :: R)) (hi : i < xs.length) {Q : Value → Heap → Prop}
    (hq : ∀ (s' : Slc) h', sat h' (ownS encF 7 s' (xs.eraseIdx i) :: R) → Q (.slice s'.a s'.len s'.cap) h') :
    HCalls Tryz.prog 211 #[.slice s.a s.len s.cap, .int .i64 i, .int .i64 ((i : Int) + 1)] h Q := by
  refine slices_Delete_calls s i _ h Q ?_
  exact delete_own (zero := #[.int .i64 0, .string (ByteArray.mk #[]), .string (ByteArray.mk #[]), .int .i64 0, .bool false, .string (ByteArray.mk #[]), .bool false]) eF_len eF_cell rfl rfl (by decide) hs hi fun s' h' hs' => hq s' h' hs'
theorem oover_spec {b : Nat} {o : OutS} {i : Nat} {f : FlT} (hs : sat h (outA b o :: R)) (hok : FlowOK o) (hf : o.flights[i]? = some f) {Q : Value → Heap → Prop}
    (hq : ∀ h', sat h' (outA b (overF o f.1) :: R) → Q (.tuple #[]) h') : HCalls Tryz.prog 163 #[at0 b, .int .i64 i] h Q := by
  refine q_f0 (some ⟨b, 0, none⟩) i h Q ?_
  obtain ⟨pb, fl, wt, hs1⟩ := q_ay.1 hs
  unfold q_cr
  have hil := (List.getElem?_eq_some_iff.1 hf).1
  have hf64 := hok.f64
  refine ⟨_, rfl, some ⟨pb, 0, none⟩, by rw [q_aa]; exact hs1.cell 0, _, rfl, fl, by rw [q_aa]; exact hs1.cell 3, ?_⟩
  (try dsimp only); rw [HM.bind_apply]
  refine q_bi (hs1.p2.own_row eF_len) hf fun a ha => ?_
  refine ⟨f.1, ha 0 _ rfl, ?_⟩
  refine q_ab (Free_spec hs1.p1 fun h2 hs2 => ⟨_, rfl, ?_⟩)
  refine ⟨_, rfl, fl, by rw [q_aa]; exact hs2.p1.cell 3, ?_⟩
  have w : IntKind.wrap .i64 ((i : Int) + 1) = (i : Int) + 1 := q_al (by omega) (by omega)
  (try dsimp only); rw [w]
  refine q_ab (fdelete_spec hs2.p2 hil fun s' h3 hs3 => ⟨s', rfl, ?_⟩)
  refine ⟨_, rfl, ?_⟩
  (try dsimp only); rw [HM.bind_apply, q_aa]
  refine q_ag hs3.p2 (by simp) rfl fun h4 hs4 => ?_
  refine hq h4 (q_ay.2 ⟨pb, s', wt, ?_⟩)
  rw [erase_one hok.nd hf] at hs4
  exact hs4.re [0, 2, 1, 3]
set_option maxHeartbeats 1000000 in
theorem oans_spec {b : Nat} {o : OutS} {p : Pk} (hs : sat h (outA b o :: R)) (hok : FlowOK o) {Q : Value → Heap → Prop}
    (hq : ∀ S h', sat h' (outA b (ansF o p.1 p.2.2.2.2.1 p.2.2.2.2.2.2.2.1).1.1 :: pksA .u8 S (ansF o p.1 p.2.2.2.2.1 p.2.2.2.2.2.2.2.1).1.2 :: R) → Q (.tuple #[.slice S.a S.len S.cap, .int .u8 (ansF o p.1 p.2.2.2.2.1 p.2.2.2.2.2.2.2.1).2]) h') :
    HCalls Tryz.prog 108 #[at0 b, vPkK .u8 p] h Q := by
  refine q_e1 (some ⟨b, 0, none⟩) p h Q ?_
  unfold q_bv
  refine q_ae hs fun cb h1 hs1' => ?_
  have hs1 : sat h1 (cells cb (encPkK .u8 p).toArray :: outA b o :: R) := hs1'
  clear hs1' hs
  have k0 : ∀ {h' : Heap} {R' : List Asn}, sat h' (cells cb (encPkK .u8 p).toArray :: R') → cellH h' ⟨cb, 0, none⟩ = some (.int .i64 p.1) := fun hs => hs.cell 0
  have k4 : ∀ {h' : Heap} {R' : List Asn}, sat h' (cells cb (encPkK .u8 p).toArray :: R') → cellH h' ⟨cb, 4, none⟩ = some (.int .i64 p.2.2.2.2.1) := fun hs => hs.cell 4
  have k7 : ∀ {h' : Heap} {R' : List Asn}, sat h' (cells cb (encPkK .u8 p).toArray :: R') → cellH h' ⟨cb, 7, none⟩ = some (.int .u8 p.2.2.2.2.2.2.2.1) := fun hs => hs.cell 7
  have g4 : (encPkK .u8 p).toArray[4]? = some (.int .i64 p.2.2.2.2.1) := rfl
  generalize hk : p.1 = k at *
  generalize hid : p.2.2.2.2.1 = id at *
  generalize hcd : p.2.2.2.2.2.2.2.1 = c at *
  generalize (encPkK .u8 p).toArray = cs at *
  have stay : ∀ {cc : Int} {h' : Heap}, sat h' (cells cb cs :: outA b o :: R) → ansF o k id c = ((o, []), cc) → Q (.tuple #[.slice none 0 0, .int .u8 cc]) h' := fun {cc h'} hs he => by
    have := hq ⟨none, 0, 0⟩ h'
    rw [he] at this
    exact this ((pks_nil hs.drop).p1)
  (try dsimp only); rw [HM.ite_apply, if_neg (by simp)]
  refine cut (fun x h' => h' = h1 ∧ x.1 = decide (o.on = false ∨ (k ≠ 4 ∧ k ≠ 5 ∧ k ≠ 7))) ?_ ?_
  · intro K hK
    obtain ⟨pb, fl, wt, hs2⟩ := q_ay.1 hs1.p1
    refine ⟨_, rfl, o.on, by rw [q_aa]; exact hs2.cell 2, ?_⟩
    (try dsimp only); rw [HM.ite_apply]
    cases hon : o.on with
    | false => rw [if_pos (by rfl)]; exact hK _ _ ⟨rfl, by simp [hon]⟩
    | true =>
      rw [if_neg (by simp)]
      refine ⟨k, by rw [q_aa]; exact k0 hs1, ?_⟩
      (try dsimp only); rw [HM.ite_apply]
      by_cases h4 : k = 4
      · rw [if_neg (by simp [h4])]; exact hK _ _ ⟨rfl, by simp [h4, hon]⟩
      · rw [if_pos (by simp [h4])]
        refine ⟨k, by rw [q_aa]; exact k0 hs1, ?_⟩
        (try dsimp only); rw [HM.ite_apply]
        by_cases h5 : k = 5
        · rw [if_neg (by simp [h5])]; exact hK _ _ ⟨rfl, by simp [h5, hon]⟩
        · rw [if_pos (by simp [h5])]
          refine ⟨k, by rw [q_aa]; exact k0 hs1, hK _ _ ⟨rfl, ?_⟩⟩
          by_cases h7 : k = 7 <;> simp [h4, h5, h7, hon]
  rintro ⟨x, ⟨⟩⟩ h2 ⟨rfl, hx⟩
  simp only at hx
  subst hx
  (try dsimp only); rw [HM.ite_apply]
  by_cases hbad : o.on = false ∨ (k ≠ 4 ∧ k ≠ 5 ∧ k ≠ 7)
  · rw [if_pos (by simpa using hbad)]
    exact stay hs1 (by unfold ansF; rw [if_pos hbad])
  rw [if_neg (by simpa using hbad)]
  obtain ⟨pb, fl, wt, hs2⟩ := q_ay.1 hs1.p1
  refine ⟨_, rfl, fl, by rw [q_aa]; exact hs2.cell 3, ?_⟩
  have hf64 := hok.f64
  refine q_ab (idxf_spec (hs2.re [4, 2, 0, 1, 3]) (by omega) g4 (fun hno h3 hs3 => ⟨_, rfl, ?_⟩) (fun i f hf he h3 hs3' => ⟨_, rfl, ?_⟩))
  · (try dsimp only); rw [HM.ite_apply, if_pos (by decide)]
    refine stay (sat.p1 (q_ay.2 ⟨pb, fl, wt, hs3.re [2, 3, 1, 4, 0]⟩)) ?_
    unfold ansF
    rw [if_neg hbad, find_none hno]
  have hs3 : sat h3 (cells b #[at0 pb, .int .i64 o.most, .bool o.on, .slice fl.a fl.len fl.cap, .slice wt.a wt.len wt.cap] :: cells cb cs :: poolA pb o.pool :: ownS encF 7 fl o.flights :: ownS encM 5 wt o.waiting :: R) := hs3'.re [2, 0, 3, 1, 4]
  clear hs3'
  have hback : sat h3 (cells cb cs :: outA b o :: R) := sat.p1 (q_ay.2 ⟨pb, fl, wt, hs3.re [0, 2, 3, 4, 1]⟩)
  have hfind := find_one hok.nd hf he
  have hfm := List.mem_of_getElem? hf
  have hans : ansF o k id c = (if k = 4 then (if f.2.1.2.2.1 ≠ 1 then ((o, []), 130) else (goOnF (overF o id), 0))
      else if k = 5 then
        (if f.2.1.2.2.1 ≠ 2 ∨ (128 ≤ c ∧ f.2.2 = true) then ((o, []), 130)
        else if 128 ≤ c then (goOnF (overF o id), 0)
        else (((goOnF (relF o id)).1, ackO 6 id 0 :: (goOnF (relF o id)).2), 0))
      else (if f.2.2 = false then ((o, []), 130) else (goOnF (overF o id), 0))) := by
    unfold ansF
    rw [if_neg hbad, hfind]
  (try dsimp only); rw [HM.ite_apply, if_neg (by simp)]
  refine ⟨_, rfl, fl, by rw [q_aa]; exact hs3.cell 3, ?_⟩
  (try dsimp only); rw [HM.bind_apply]
  refine idx_own eF_len hs3.p3 hf fun a ha hst => ?_
  have aq : cellH h3 ((a.add 1).add 2) = some (.int .i64 f.2.1.2.2.1) := by rw [addr_add_add]; exact ha 3 _ rfl
  have ar : cellH h3 (a.add 6) = some (.bool f.2.2) := ha 6 _ rfl
  refine ⟨k, by rw [q_aa]; exact k0 hs3.p1, ?_⟩
  refine cut (fun z h' => match z with
    | .inl x => ∃ (o' : OutS) (os : List PkO), FlowOK o' ∧ os.length ≤ 10 ∧ ansF o k id c = (((goOnF o').1, os ++ (goOnF o').2), 0) ∧ sat h' (outA b o' :: pksA .u8 x.1 os :: R)
    | .inr y => y.1 = ⟨none, 0, 0⟩ ∧ ansF o k id c = ((o, []), y.2.1) ∧ sat h' (cells cb cs :: outA b o :: R)) ?_ ?_
  · intro K hK
    have bad : ansF o k id c = ((o, []), 130) → K (.inr (⟨none, 0, 0⟩, 130, ())) h3 := fun e => hK _ _ ⟨rfl, e, hback⟩
    have good : ∀ {K2 : KTup [] → Heap → Prop}, (∀ h', sat h' (outA b (overF o id) :: pksA .u8 ⟨none, 0, 0⟩ [] :: R) → K2 () h') → HCalls Tryz.prog 163 #[.pointer (some ⟨b, 0, none⟩), .int .i64 i] h3 (KTup.un [] K2) := fun hK2 =>
      oover_spec hback.p1 hok hf fun h' hs' => ⟨(), rfl, hK2 h' (by rw [he] at hs'; exact (pks_nil hs'.p1.drop).p1)⟩
    have hov := hok.over id
    (try dsimp only); rw [HM.ite_apply]
    by_cases h4 : k = 4
    · rw [if_pos (by simp [h4])]
      rw [if_pos h4] at hans
      refine ⟨_, rfl, f.2.1.2.2.1, aq, ?_⟩
      (try dsimp only); rw [HM.ite_apply]
      by_cases hq1 : f.2.1.2.2.1 = 1
      · rw [if_neg (by simp [hq1])]
        rw [if_neg (by simp [hq1])] at hans
        refine q_az (good fun h' hs' => ?_)
        exact hK _ _ ⟨overF o id, [], hov, by simp, hans, hs'⟩
      · rw [if_pos (by simp [hq1])]
        rw [if_pos hq1] at hans
        exact bad hans
    rw [if_neg (by simp [h4])]
    rw [if_neg h4] at hans
    refine cut (fun z h' => match z with
      | .inl x => ∃ (o' : OutS) (os : List PkO), FlowOK o' ∧ os.length ≤ 10 ∧ ansF o k id c = (((goOnF o').1, os ++ (goOnF o').2), 0) ∧ sat h' (outA b o' :: pksA .u8 x.1 os :: R)
      | .inr (.inl x) => False
      | .inr (.inr y) => y.1 = ⟨none, 0, 0⟩ ∧ ansF o k id c = ((o, []), y.2.1) ∧ sat h' (cells cb cs :: outA b o :: R)) ?_ ?_
    · intro K2 hK2
      have bad : ansF o k id c = ((o, []), 130) → K2 (.inr (.inr (⟨none, 0, 0⟩, 130, ()))) h3 := fun e => hK2 _ _ ⟨rfl, e, hback⟩
      (try dsimp only); rw [HM.ite_apply]
      by_cases h5 : k = 5
      · rw [if_pos (by simp [h5])]
        rw [if_pos h5] at hans
        refine ⟨_, rfl, f.2.1.2.2.1, aq, ?_⟩
        refine cut (fun z h' => h' = h3 ∧ z.1 = decide (f.2.1.2.2.1 ≠ 2 ∨ (128 ≤ c ∧ f.2.2 = true))) ?_ ?_
        · intro K3 hK3
          (try dsimp only); rw [HM.ite_apply]
          by_cases hq2 : f.2.1.2.2.1 = 2
          · rw [if_neg (by simp [hq2])]
            refine cut (fun z h' => h' = h3 ∧ z.1 = decide (128 ≤ c ∧ f.2.2 = true)) ?_ ?_
            · intro K4 hK4
              refine ⟨c, by rw [q_aa]; exact k7 hs3.p1, ?_⟩
              (try dsimp only); rw [HM.ite_apply]
              by_cases hc1 : 128 ≤ c
              · rw [if_pos (by simpa using hc1)]
                refine ⟨_, rfl, f.2.2, ar, hK4 _ _ ⟨rfl, ?_⟩⟩
                simp [hc1]
              · rw [if_neg (by simpa using hc1)]
                exact hK4 _ _ ⟨rfl, by simp [hc1]⟩
            rintro ⟨z, ⟨⟩⟩ h4 ⟨rfl, hz⟩
            simp only at hz
            refine hK3 _ _ ⟨rfl, ?_⟩
            simp only [hz]
            simp [hq2]
          · rw [if_pos (by simp [hq2])]
            exact hK3 _ _ ⟨rfl, by simp [hq2]⟩
        rintro ⟨z, ⟨⟩⟩ h4 ⟨rfl, hz⟩
        simp only at hz
        subst hz
        (try dsimp only); rw [HM.ite_apply]
        by_cases hb2 : f.2.1.2.2.1 ≠ 2 ∨ (128 ≤ c ∧ f.2.2 = true)
        · rw [if_pos (decide_eq_true hb2)]
          rw [if_pos hb2] at hans
          exact bad hans
        rw [if_neg (by rw [decide_eq_true_eq]; exact hb2)]
        rw [if_neg hb2] at hans
        refine ⟨c, by rw [q_aa]; exact k7 hs3.p1, ?_⟩
        refine cut (fun z h' => ∃ (o' : OutS) (os : List PkO), FlowOK o' ∧ os.length ≤ 10 ∧ ansF o k id c = (((goOnF o').1, os ++ (goOnF o').2), 0) ∧ sat h' (outA b o' :: pksA .u8 z.1 os :: R)) ?_ ?_
        · intro K3 hK3
          (try dsimp only); rw [HM.ite_apply]
          by_cases hc1 : 128 ≤ c
          · rw [if_pos (by simpa using hc1)]
            rw [if_pos hc1] at hans
            refine q_az (good fun h' hs' => ?_)
            exact hK3 _ _ ⟨overF o id, [], hov, by simp, hans, hs'⟩
          · rw [if_neg (by simpa using hc1)]
            rw [if_neg hc1] at hans
            refine ⟨_, rfl, ?_⟩
            (try dsimp only); rw [HM.bind_apply]
            refine hst 6 (.bool true) (f.1, f.2.1, true) _ (by decide) rfl rfl fun h5 hs5 => ?_
            rw [set_one hok.nd hf, he] at hs5
            have hs6 : sat h5 (cells cb cs :: outA b (relF o id) :: R) := sat.p1 (q_ay.2 ⟨pb, fl, wt, hs5.re [1, 3, 0, 4, 2]⟩)
            refine ⟨id, by rw [q_aa]; exact k4 hs6, ?_⟩
            have hs7 := pks_nil (k := .u8) (pkB_none (k := .u8) (o := ackO 6 id 0) rfl rfl hs6)
            refine pks_push (t := (⟨none, 0, 0⟩, ⟨none, 0, 0⟩, ackO 6 id 0)) hs7 rfl (by decide) (by decide) fun s' h6 hs8 => ?_
            have hq2 : f.2.1.2.2.1 = 2 := Classical.not_not.1 fun e => hb2 (.inl e)
            have hrel : FlowOK (relF o id) := hok.rel fun g hg e => by rw [hok.one hg hfm (e.trans he.symm)]; exact hq2
            exact hK3 _ _ ⟨relF o id, [ackO 6 id 0], hrel, by simp, hans, hs8.p1.drop.re [1, 0]⟩
        rintro ⟨z, ⟨⟩⟩ h4 ⟨o', os, g1, g2, g3, g4⟩
        exact hK2 _ _ ⟨o', os, g1, g2, g3, g4⟩
      · rw [if_neg (by simp [h5])]
        rw [if_neg h5] at hans
        refine ⟨_, rfl, f.2.2, ar, ?_⟩
        (try dsimp only); rw [HM.ite_apply]
        cases hr : f.2.2 with
        | false =>
          rw [if_pos (by rfl)]
          rw [if_pos hr] at hans
          exact bad hans
        | true =>
          rw [if_neg (by simp)]
          rw [if_neg (by simp [hr])] at hans
          refine q_az (good fun h' hs' => ?_)
          exact hK2 _ _ ⟨overF o id, [], hov, by simp, hans, hs'⟩
    rintro z h4 hz
    match z, hz with
    | .inl (x, ()), hz => exact hK _ _ hz
    | .inr (.inr (y1, y2, ())), hz => exact hK _ _ hz
  rintro z h4 hz
  match z, hz with
  | .inl (x, ()), ⟨o', os, g1, g2, g3, g4⟩ =>
    refine q_ab (goOn_spec g4 g1 (by omega) fun h7 S hs6 => ⟨S, rfl, ?_⟩)
    have := hq S h7
    rw [g3] at this
    exact this hs6
  | .inr (y1, y2, ()), ⟨g1, g2, g3⟩ =>
    simp only at g1 g2
    subst g1
    exact stay g3 g2
end Go.Proofs.YtidlldnlphdhcaaGreatDoor
namespace Go.Proofs.YtidlldnlphdhcaaGreatDoor
open Go.H Go.Proofs
set_option linter.unusedSimpArgs false
set_option linter.unusedVariables false
set_option maxRecDepth 100000
variable {h h0 : Heap} {L L' L1 L2 L3 R : List Asn} {Q : Value → Heap → Prop}
theorem osend_w {b : Nat} {o : OutS} {m : MsT} (hok : FlowOK o) (hq : ∀ S : Slc, At (outA b (sendF o m).1.1 :: pksA .u8 S (sendF o m).1.2 :: L1) (Q (.tuple #[.slice S.a S.len S.cap, .int .u8 (sendF o m).2]))) (hx : Has L (outA b o) L1 := by repeat (first | with_reducible exact Go.H.has0 | apply Go.H.hasS)) :
    FW Tryz.prog 81 #[at0 b, vMs m] L Q := fun h hs => osend_spec (hx.s hs) hok fun S h' hs' => hq S h' hs'
theorem obegin_w {b : Nat} {o : OutS} {most : Int} (hok : FlowOK o) (hq : ∀ S : Slc, At (outA b (beginF o most).1 :: pksA .u8 S (beginF o most).2 :: L1) (Q (.slice S.a S.len S.cap))) (hx : Has L (outA b o) L1 := by repeat (first | with_reducible exact Go.H.has0 | apply Go.H.hasS)) :
    FW Tryz.prog 73 #[at0 b, .int .i64 most] L Q := fun h hs => obegin_spec (hx.s hs) hok fun S h' hs' => hq S h' hs'
theorem oans_w {b : Nat} {o : OutS} {p : Pk} (hok : FlowOK o) (hq : ∀ S : Slc, At (outA b (ansF o p.1 p.2.2.2.2.1 p.2.2.2.2.2.2.2.1).1.1 :: pksA .u8 S (ansF o p.1 p.2.2.2.2.1 p.2.2.2.2.2.2.2.1).1.2 :: L1) (Q (.tuple #[.slice S.a S.len S.cap, .int .u8 (ansF o p.1 p.2.2.2.2.1 p.2.2.2.2.2.2.2.1).2])))
    (hx : Has L (outA b o) L1 := by repeat (first | with_reducible exact Go.H.has0 | apply Go.H.hasS)) : FW Tryz.prog 108 #[at0 b, vPkK .u8 p] L Q := fun h hs => oans_spec (hx.s hs) hok fun S h' hs' => hq S h' hs'
theorem inTake_w {f : Nat} {s : PoolS} {p : Pk} {why : Int} (hq : ∀ S : Slc, At (flowA f ⟨s.most, s.taken, (takeR s p.1 p.2.2.2.1 p.2.2.2.2.1 why).2.2.2⟩ :: pksA .u8 S (ackL (takeR s p.1 p.2.2.2.1 p.2.2.2.2.1 why).2.1 p.2.2.2.2.1) :: L1)
      (Q (.tuple #[.bool (takeR s p.1 p.2.2.2.1 p.2.2.2.2.1 why).1, .slice S.a S.len S.cap, .int .u8 (takeR s p.1 p.2.2.2.1 p.2.2.2.2.1 why).2.2.1]))) (hx : Has L (flowA f s) L1 := by repeat (first | with_reducible exact Go.H.has0 | apply Go.H.hasS)) :
    FW Tryz.prog 107 #[at0 f, vPkK .u8 p, .int .u8 why] L Q := fun h hs => by
  refine infTake_spec (hx.s hs) (fun hn h' hs' => ?_) (fun k c hy b h' hs' => ?_)
  · have := hq ⟨none, 0, 0⟩
    rw [hn] at this
    exact this h' (pks_nil hs').p1
  · have := hq ⟨some ⟨b, 0, none⟩, 1, 1⟩
    rw [hy] at this
    refine this h' ?_
    have h1 : sat h' (ownS (encPkK .u8) 26 ⟨some ⟨b, 0, none⟩, 1, 1⟩ [pkF (⟨none, 0, 0⟩, ⟨none, 0, 0⟩, ackO k p.2.2.2.2.1 c)] :: flowA f ⟨s.most, s.taken, (takeR s p.1 p.2.2.2.1 p.2.2.2.2.1 why).2.2.2⟩ :: L1) :=
      q_cq (o := 0) ⟨rfl, Nat.le_refl _, rfl, by simp, by rfl⟩ hs'
    have h2 : sat h' (pksA .u8 ⟨some ⟨b, 0, none⟩, 1, 1⟩ [ackO k p.2.2.2.2.1 c] :: flowA f ⟨s.most, s.taken, (takeR s p.1 p.2.2.2.1 p.2.2.2.2.1 why).2.2.2⟩ :: L1) :=
      pks_iff.2 ⟨[(⟨none, 0, 0⟩, ⟨none, 0, 0⟩, ackO k p.2.2.2.2.1 c)], rfl, (bigA_sing.2 (pkB_none (o := ackO k p.2.2.2.2.1 c) rfl rfl h1)).p1⟩
    exact h2.p1
theorem tab_ids {b : Nat} {last : Int} {A : List SesS} (hs : sat h (tabB b last A :: R)) : (A.map (·.id)).Nodup := by
  obtain ⟨X, rfl, h1⟩ := q_ax.1 hs
  obtain ⟨m, h2⟩ := q_aq.1 h1
  have := h2.p1.map_nodup
  rw [List.map_map] at this
  rw [List.map_map]
  exact this
def tabH (b : Nat) (last : Int) (A : List SesS) (s : SesS) (ob ib : Nat) : Asn := exA fun x : List (Nat × SesS) × List (Nat × SesS) × Nat × Nat => stars [pr ((x.1 ++ (x.2.2.1, s) :: x.2.1).map (·.2) = A),
  cells x.2.2.1 (sesC s ob ib), cells b #[.int .i64 last, .map (some x.2.2.2)], mapA eKI eVP x.2.2.2 ((x.1 ++ (x.2.2.1, s) :: x.2.1).map sesE), bigA (fun p => sesA p.1 p.2) (x.1 ++ x.2.1)]
theorem tabH_iff {b : Nat} {last : Int} {A : List SesS} {s : SesS} {ob ib : Nat} : sat h (tabH b last A s ob ib :: R) ↔ ∃ (l1 l2 : List (Nat × SesS)) (nb m : Nat), (l1 ++ (nb, s) :: l2).map (·.2) = A ∧
    sat h (cells nb (sesC s ob ib) :: cells b #[.int .i64 last, .map (some m)] :: mapA eKI eVP m ((l1 ++ (nb, s) :: l2).map sesE) :: bigA (fun p => sesA p.1 p.2) (l1 ++ l2) :: R) := by
  unfold tabH
  rw [sat.ex_iff]
  simp only [sat.stars_iff, List.cons_append, List.nil_append, sat.pr_iff]
  exact ⟨fun ⟨x, hh⟩ => ⟨x.1, x.2.1, x.2.2.1, x.2.2.2, hh⟩, fun ⟨a, b, c, d, hh⟩ => ⟨(a, b, c, d), hh⟩⟩
theorem q_hh {b : Nat} {last : Int} {A : List SesS} {s : SesS} (hm : s ∈ A) : ∀ h R, sat h (tabB b last A :: R) → ∃ ob ib : Nat, sat h (outA ob s.out :: flowA ib s.inn :: tabH b last A s ob ib :: R) := by
  intro h R hs
  obtain ⟨X, rfl, h1⟩ := q_ax.1 hs
  obtain ⟨⟨nb, s'⟩, hp, rfl⟩ := List.mem_map.1 hm
  obtain ⟨l1, l2, rfl⟩ := List.append_of_mem hp
  obtain ⟨m, ob, ib, h2⟩ := tab_open h1
  refine ⟨ob, ib, ?_⟩
  have h3 : sat h (tabH b last ((l1 ++ (nb, s') :: l2).map (·.2)) s' ob ib :: outA ob s'.out :: flowA ib s'.inn :: R) := tabH_iff.2 ⟨l1, l2, nb, m, rfl, h2.re [2, 3, 4, 5, 0, 1]⟩
  exact h3.re [1, 2, 0]
theorem setS_mid {l1 l2 : List SesS} {s : SesS} {f : SesS → SesS} (hn : ((l1 ++ s :: l2).map (·.id)).Nodup) : setS s.id f (l1 ++ s :: l2) = l1 ++ f s :: l2 := by
  unfold setS
  rw [List.map_append, List.map_cons, List.nodup_append] at hn
  have e1 : l1.map (fun x => if x.id = s.id then f x else x) = l1 := by
    have : l1.map (fun x => if x.id = s.id then f x else x) = l1.map id := List.map_congr_left fun x hx => if_neg (hn.2.2 _ (List.mem_map_of_mem hx) _ (List.mem_cons_self ..))
    rw [this, List.map_id]
  have e2 : l2.map (fun x => if x.id = s.id then f x else x) = l2 := by
    have : l2.map (fun x => if x.id = s.id then f x else x) = l2.map id := List.map_congr_left fun x hx => by
      rw [if_neg (fun e : x.id = s.id => (List.nodup_cons.1 hn.2.1).1 (e ▸ List.mem_map_of_mem (f := (·.id)) hx))]; rfl
    rw [this, List.map_id]
  rw [List.map_append, List.map_cons, e1, e2, if_pos rfl]
theorem tabH_close {b ob ib : Nat} {last : Int} {A : List SesS} {s : SesS} {o : OutS} {i : PoolS} : ∀ h, sat h (outA ob o :: flowA ib i :: tabH b last A s ob ib :: R) → sat h (tabB b last (setS s.id (fun x => { x with out := o, inn := i }) A) :: R) := by
  intro h hs
  obtain ⟨l1, l2, nb, m, rfl, h1⟩ := tabH_iff.1 (hs.re [2, 0, 1])
  have hnd : (((l1 ++ (nb, s) :: l2).map (·.2)).map (·.id)).Nodup := by
    have := (h1.re [2, 0, 1]).map_nodup
    rw [List.map_map] at this
    rw [List.map_map]
    exact this
  rw [List.map_append, List.map_cons] at hnd
  rw [List.map_append, List.map_cons]
  have e0 := setS_mid (f := fun x => { x with out := o, inn := i }) hnd
  rw [e0]
  refine q_ax.2 ⟨l1 ++ (nb, { s with out := o, inn := i }) :: l2, by simp, q_aq.2 ⟨m, ?_⟩⟩
  have e : (l1 ++ (nb, { s with out := o, inn := i }) :: l2).map sesE = (l1 ++ (nb, s) :: l2).map sesE := by simp [sesE]
  rw [e]
  have h2 : sat h (sesA nb { s with out := o, inn := i } :: bigA (fun p => sesA p.1 p.2) (l1 ++ l2) :: cells b #[.int .i64 last, .map (some m)] :: mapA eKI eVP m ((l1 ++ (nb, s) :: l2).map sesE) :: R) :=
    q_b8.2 ⟨ob, ib, h1.re [0, 4, 5, 3, 1, 2]⟩
  have h3 : sat h (bigA (fun p => sesA p.1 p.2) (l1 ++ (nb, { s with out := o, inn := i }) :: l2) :: cells b #[.int .i64 last, .map (some m)] :: mapA eKI eVP m ((l1 ++ (nb, s) :: l2).map sesE) :: R) := q_an.2 h2
  exact h3.re [1, 2, 0]
theorem Out_w {b ob ib : Nat} {last : Int} {A : List SesS} {s : SesS} (hq : At (outA ob s.out :: flowA ib s.inn :: tabH b last A s ob ib :: L3) (Q (at0 ob))) (hx : Has L (outA ob s.out) L1 := by repeat (first | with_reducible exact Go.H.has0 | apply Go.H.hasS)) (hy : Has L1 (flowA ib s.inn) L2 := by repeat (first | with_reducible exact Go.H.has0 | apply Go.H.hasS)) (hz : Has L2 (tabH b last A s ob ib) L3 := by repeat (first | with_reducible exact Go.H.has0 | apply Go.H.hasS)) :
    FW Tryz.prog 56 #[at0 b, .int .i64 s.id] L Q := fun h hs => by
  have h1 := (hx.then3 hy hz).s hs
  have h2 := hq h h1
  obtain ⟨l1, l2, nb, m, rfl, h3⟩ := tabH_iff.1 (h1.re [2, 0, 1])
  exact Out_open (p := (nb, s)) (o := s.out) rfl (h3.re [4, 5, 0, 1, 2, 3]) h2
theorem In_w {b ob ib : Nat} {last : Int} {A : List SesS} {s : SesS} (hq : At (outA ob s.out :: flowA ib s.inn :: tabH b last A s ob ib :: L3) (Q (at0 ib))) (hx : Has L (outA ob s.out) L1 := by repeat (first | with_reducible exact Go.H.has0 | apply Go.H.hasS)) (hy : Has L1 (flowA ib s.inn) L2 := by repeat (first | with_reducible exact Go.H.has0 | apply Go.H.hasS)) (hz : Has L2 (tabH b last A s ob ib) L3 := by repeat (first | with_reducible exact Go.H.has0 | apply Go.H.hasS)) :
    FW Tryz.prog 106 #[at0 b, .int .i64 s.id] L Q := fun h hs => by
  have h1 := (hx.then3 hy hz).s hs
  have h2 := hq h h1
  obtain ⟨l1, l2, nb, m, rfl, h3⟩ := tabH_iff.1 (h1.re [2, 0, 1])
  exact In_open (p := (nb, s)) (o := s.out) rfl (h3.re [4, 5, 0, 1, 2, 3]) h2
theorem getS_some {k : Int} {A : List SesS} {s : SesS} (h : getS k A = some s) : s ∈ A ∧ s.id = k := ⟨List.mem_of_find?_eq_some h, by simpa using List.find?_some h⟩
theorem getS_none {k : Int} {A : List SesS} (h : getS k A = none) : ∀ s ∈ A, s.id ≠ k := fun s hs => by simpa using List.find?_eq_none.1 h s hs
theorem getS_uniq {k : Int} {A : List SesS} {s t : SesS} (hn : (A.map (·.id)).Nodup) (h : getS k A = some s) (ht : t ∈ A) (hk : t.id = k) : t = s := by
  obtain ⟨h1, h2⟩ := getS_some h
  obtain ⟨l1, l2, rfl⟩ := List.append_of_mem h1
  rw [List.map_append, List.map_cons, List.nodup_append] at hn
  rcases List.mem_append.1 ht with hm | hm
  · exact absurd (hk.trans h2.symm) (hn.2.2 _ (List.mem_map_of_mem hm) _ (List.mem_cons_self ..))
  · rcases List.mem_cons.1 hm with rfl | hm
    · rfl
    · exact absurd (List.mem_map_of_mem (f := (·.id)) hm) (by rw [hk, ← h2]; exact (List.nodup_cons.1 hn.2.1).1)
theorem filter_mid {l1 l2 : List SesS} {s : SesS} (hn : ((l1 ++ s :: l2).map (·.id)).Nodup) : (l1 ++ s :: l2).filter (fun x => decide (x.id ≠ s.id)) = l1 ++ l2 := by
  rw [List.map_append, List.map_cons, List.nodup_append] at hn
  rw [List.filter_append, List.filter_cons_of_neg (by simp)]
  have e1 : l1.filter (fun x => decide (x.id ≠ s.id)) = l1 := List.filter_eq_self.2 fun x hx => by
    have := hn.2.2 _ (List.mem_map_of_mem (f := (·.id)) hx) _ (List.mem_cons_self ..)
    simpa using this
  have e2 : l2.filter (fun x => decide (x.id ≠ s.id)) = l2 := List.filter_eq_self.2 fun x hx => by
    have : x.id ≠ s.id := fun e => (List.nodup_cons.1 hn.2.1).1 (e ▸ List.mem_map_of_mem (f := (·.id)) hx)
    simpa using this
  rw [e1, e2]
theorem sEnd_w {b : Nat} {last : Int} {A : List SesS} {k : Int} (hq : At (tabB b last (endT k A).2 :: L1) (Q (.bool (endT k A).1))) (hx : Has L (tabB b last A) L1 := by repeat (first | with_reducible exact Go.H.has0 | apply Go.H.hasS)) : FW Tryz.prog 95 #[at0 b, .int .i64 k] L Q := fun h hs => by
  have h1 := hx.s hs
  have hnd := tab_ids h1
  obtain ⟨X, rfl, h2⟩ := q_ax.1 h1
  unfold endT at hq
  have none_of : (∀ p ∈ X, p.2.id ≠ k) → getS k (X.map (·.2)) = none := fun hno => List.find?_eq_none.2 fun s hs => by
    obtain ⟨p, hp, rfl⟩ := List.mem_map.1 hs
    simpa using hno p hp
  have some_of : ∀ p ∈ X, p.2.id = k → getS k (X.map (·.2)) = some p.2 := fun p hp hk => by
    cases hg : getS k (X.map (·.2)) with
    | none => exact absurd hk (getS_none hg p.2 (List.mem_map_of_mem hp))
    | some s => rw [getS_uniq hnd hg (List.mem_map_of_mem hp) hk]
  refine End_spec h2 (fun hno => ?_) (fun p hp hk hoff => ?_) (fun l1 p l2 he hk hon hkeep h' hs' => ?_) (fun l1 p l2 he hk hon hkeep h' hs' => ?_)
  · rw [none_of hno] at hq
    exact hq h h1
  · rw [some_of p hp hk] at hq
    simp only [hoff, if_true] at hq
    exact hq h h1
  · subst he
    rw [some_of p (by simp) hk] at hq
    simp only [hon, hkeep, if_true, if_neg (show ¬ (true = false) by decide)] at hq
    refine hq h' (q_ax.2 ⟨_, ?_, hs'⟩)
    subst hk
    rw [List.map_append, List.map_cons, List.map_append, List.map_cons]
    rw [List.map_append, List.map_cons] at hnd
    rw [setS_mid hnd]
    rfl
  · subst he
    rw [some_of p (by simp) hk] at hq
    simp only [hon, hkeep, if_neg (show ¬ (true = false) by decide), if_neg (show ¬ (false = true) by decide)] at hq
    refine hq h' (q_ax.2 ⟨_, ?_, hs'⟩)
    subst hk
    rw [List.map_append, List.map_append, List.map_cons]
    rw [List.map_append, List.map_cons] at hnd
    rw [filter_mid hnd]
end Go.Proofs.YtidlldnlphdhcaaGreatDoor
namespace Go.Proofs.YtidlldnlphdhcaaGreatDoor
open Go.H Go.Proofs
set_option linter.unusedSimpArgs false
set_option linter.unusedVariables false
set_option maxRecDepth 100000
variable {h h0 : Heap} {R : List Asn}
def insF (f : ByteArray) : List ByteArray → List ByteArray
  | [] => [f]
  | x :: l => if x = f then x :: l else if ltS f x then f :: x :: l else x :: insF f l
structure FiS (f : ByteArray) (F : List ByteArray) (k : Nat) (put : Bool) (nx : List ByteArray) : Prop where
  eq : nx ++ (if put = true then F.drop k else insF f (F.drop k)) = insF f F
  no : put = false → nx = F.take k
  len : nx.length ≤ k + 1
theorem FiS.nil (f : ByteArray) (F : List ByteArray) : FiS f F 0 false [] := ⟨by simp, by simp, by simp⟩
theorem FiS.step {f : ByteArray} {F nx : List ByteArray} {k : Nat} {put : Bool} {y : ByteArray} (h : FiS f F k put nx) (hy : F[k]? = some y) :
    FiS f F (k + 1) ((put || decide (y = f)) || (!(put || decide (y = f)) && decide (ltS f y))) ((if (!(put || decide (y = f)) && decide (ltS f y)) = true then nx ++ [f] else nx) ++ [y]) := by
  have hlt := (List.getElem?_eq_some_iff.1 hy).1
  have hdr : F.drop k = y :: F.drop (k + 1) := by
    rw [List.drop_eq_getElem_cons hlt]
    rw [List.getElem?_eq_getElem hlt] at hy
    rw [Option.some.inj hy]
  have htk : F.take (k + 1) = F.take k ++ [y] := by rw [List.take_add_one, hy]; rfl
  obtain ⟨he, hn, hl⟩ := h
  rw [hdr] at he
  cases put with
  | true =>
    simp only [if_true] at he
    refine ⟨by simpa using he, by simp, by simp; omega⟩
  | false =>
    have hnx := hn rfl
    have hln : nx.length ≤ k := by rw [hnx]; simp; omega
    simp only [Bool.false_eq_true, if_false] at he
    have hi : insF f (y :: F.drop (k + 1)) = if y = f then y :: F.drop (k + 1) else if ltS f y then f :: y :: F.drop (k + 1) else y :: insF f (F.drop (k + 1)) := rfl
    rw [hi] at he
    by_cases h1 : y = f
    · rw [if_pos h1] at he
      refine ⟨by simpa [h1] using he, by simp [h1], by simp [h1]; omega⟩
    · rw [if_neg h1] at he
      by_cases h2 : ltS f y
      · rw [if_pos h2] at he
        refine ⟨by simpa [h1, h2] using he, by simp [h1, h2], by simp [h1, h2]; omega⟩
      · rw [if_neg h2] at he
        refine ⟨by simpa [h1, h2] using he, by simp [h1, h2, htk, hnx], by simp [h1, h2]; omega⟩
theorem FiS.done {f : ByteArray} {F nx : List ByteArray} {put : Bool} (h : FiS f F F.length put nx) : (if put = true then nx else nx ++ [f]) = insF f F := by
  obtain ⟨he, hn, hl⟩ := h
  rw [List.drop_length] at he
  cases put with
  | true => simpa using he
  | false => simpa [insF] using he
end Go.Proofs.YtidlldnlphdhcaaGreatDoor
namespace Go.Proofs.YtidlldnlphdhcaaGreatDoor
open Go.H Go.Proofs
set_option linter.unusedSimpArgs false
set_option linter.unusedVariables false
set_option maxRecDepth 100000
variable {h h0 : Heap} {L L' L1 L2 L3 R : List Asn} {Q : Value → Heap → Prop}
instance : Enc encE 3 := ⟨eE_len, eE_cell, by decide⟩
instance : Enc encG 3 := ⟨eG_len, eG_cell, by decide⟩
instance : Enc encN 4 := ⟨eN_len, eN_cell, by decide⟩
instance : Enc eS 1 := ⟨q_et, eS_cell, by decide⟩
theorem ofS_some {c : ByteArray} {A : List SesS} {s : SesS} (h : ofS c A = some s) : s ∈ A ∧ s.client = c := ⟨List.mem_of_find?_eq_some h, by simpa using List.find?_some h⟩
theorem ofS_none {c : ByteArray} {A : List SesS} (h : ofS c A = none) : ∀ s ∈ A, s.client ≠ c := fun s hs => by simpa using List.find?_eq_none.1 h s hs
theorem nodup_one {α β : Type} {f : α → β} {A : List α} (hn : (A.map f).Nodup) {s t : α} (hs : s ∈ A) (ht : t ∈ A) (e : f s = f t) : s = t := by
  obtain ⟨l1, l2, rfl⟩ := List.append_of_mem hs
  rw [List.map_append, List.map_cons, List.nodup_append] at hn
  rcases List.mem_append.1 ht with hm | hm
  · exact absurd e.symm (hn.2.2 _ (List.mem_map_of_mem hm) _ (List.mem_cons_self ..))
  · rcases List.mem_cons.1 hm with rfl | hm
    · rfl
    · exact absurd (List.mem_map_of_mem (f := f) hm) (by rw [← e]; exact (List.nodup_cons.1 hn.2.1).1)
theorem ofS_uniq {c : ByteArray} {A : List SesS} {s : SesS} (hn : (A.map (·.client)).Nodup) (hs : s ∈ A) (hc : s.client = c) : ofS c A = some s := by
  cases hg : ofS c A with
  | none => exact absurd hc (ofS_none hg s hs)
  | some t =>
    obtain ⟨h1, h2⟩ := ofS_some hg
    rw [nodup_one (f := (·.client)) hn h1 hs (h2.trans hc.symm)]
theorem sFind_w {b : Nat} {last : Int} {A : List SesS} {c : ByteArray} (hn : (A.map (·.client)).Nodup) (hq : At (tabB b last A :: L1) (Q (infoV ((ofS c A).map infoOf)))) (hx : Has L (tabB b last A) L1 := by repeat (first | with_reducible exact Go.H.has0 | apply Go.H.hasS)) :
    FW Tryz.prog 55 #[at0 b, .string c] L Q := fun h hs => by
  obtain ⟨X, rfl, h1⟩ := q_ax.1 (hx.s hs)
  refine Find_spec h1 (fun hno h' hs' => ?_) (fun p hp hc h' hs' => ?_)
  · have e : ofS c (X.map (·.2)) = none := List.find?_eq_none.2 fun s hs => by
      obtain ⟨p, hp, rfl⟩ := List.mem_map.1 hs
      simpa using hno p hp
    rw [e] at hq
    exact hq h' (q_ax.2 ⟨X, rfl, hs'⟩)
  · rw [ofS_uniq hn (List.mem_map_of_mem hp) hc] at hq
    exact hq h' (q_ax.2 ⟨X, rfl, hs'⟩)
def beginT (last : Int) (A : List SesS) (c : ByteArray) (clean keep : Bool) : (Int × Int × Bool) × Int × List SesS :=
  if ¬ goodName c then ((133, 0, false), last, A)
  else match ofS c A with
    | some s => if clean = false then ((0, s.id, true), last, setS s.id (fun s => { s with on := true, keep := keep }) A)
      else ((0, last + 1, false), last + 1, A.filter (fun x => decide (x.id ≠ s.id)) ++ [newS (last + 1) c keep])
    | none => if 32 ≤ A.length then ((151, 0, false), last, A) else ((0, last + 1, false), last + 1, A ++ [newS (last + 1) c keep])
theorem sBegin_w {b : Nat} {last : Int} {A : List SesS} {c : ByteArray} {clean keep : Bool} (ht : U8 h0) (hsz : c.size ≤ 9223372036854775807) (hl0 : 0 ≤ last) (hl1 : last < 4611686018427387904) (hid : ∀ s ∈ A, s.id ≤ last) (hn : (A.map (·.client)).Nodup)
    (hq : At (tabB b (beginT last A c clean keep).2.1 (beginT last A c clean keep).2.2 :: old h0 :: L2) (Q (.tuple #[.int .i64 (beginT last A c clean keep).1.2.1, .bool (beginT last A c clean keep).1.2.2, .int .u8 (beginT last A c clean keep).1.1])))
    (hx : Has L (tabB b last A) L1 := by repeat (first | with_reducible exact Go.H.has0 | apply Go.H.hasS)) (hy : Has L1 (old h0) L2 := by repeat (first | with_reducible exact Go.H.has0 | apply Go.H.hasS)) :
    FW Tryz.prog 69 #[at0 b, .string c, .bool clean, .bool keep] L Q := fun h hs => by
  have hg := (hx.then hy).s hs
  have hnd := tab_ids hg
  obtain ⟨X, rfl, h1⟩ := q_ax.1 hg
  unfold beginT at hq
  have none_of : (∀ p ∈ X, p.2.client ≠ c) → ofS c (X.map (·.2)) = none := fun hno => List.find?_eq_none.2 fun s hs => by
    obtain ⟨p, hp, rfl⟩ := List.mem_map.1 hs
    simpa using hno p hp
  refine Begin_spec h1 ht hsz hl0 hl1 (fun p hp => hid p.2 (List.mem_map_of_mem hp)) (fun hb h' hs' => ?_) (fun hgn hno hl h' hs' => ?_) (fun hgn hcl l1 p l2 he hc h' hs' => ?_) (fun hgn L0 hL nb h' hs' => ?_)
  · rw [if_pos hb] at hq
    exact hq h' (q_ax.2 ⟨X, rfl, hs'⟩)
  · rw [if_neg (by simpa using hgn), none_of hno] at hq
    simp only [List.length_map, if_pos hl] at hq
    exact hq h' (q_ax.2 ⟨X, rfl, hs'⟩)
  · subst he
    rw [if_neg (by simpa using hgn), ofS_uniq hn (s := p.2) (by simp) hc] at hq
    simp only [hcl, if_true] at hq
    refine hq h' (q_ax.2 ⟨_, ?_, hs'⟩)
    rw [List.map_append, List.map_cons, List.map_append, List.map_cons]
    rw [List.map_append, List.map_cons] at hnd
    rw [setS_mid hnd]
  · rw [if_neg (by simpa using hgn)] at hq
    rcases hL with ⟨hno, hl, rfl⟩ | ⟨hcl, l1, p, l2, rfl, hc, rfl⟩
    · rw [none_of hno] at hq
      simp only [List.length_map, if_neg (show ¬ 32 ≤ L0.length by omega)] at hq
      exact hq h' (q_ax.2 ⟨_, by simp, hs'⟩)
    · rw [ofS_uniq hn (s := p.2) (by simp) hc] at hq
      simp only [hcl, if_neg (show ¬ (true = false) by decide)] at hq
      refine hq h' (q_ax.2 ⟨_, ?_, hs'⟩)
      rw [List.map_append, List.map_cons] at hnd
      have e0 := filter_mid hnd
      rw [← List.map_cons, ← List.map_append] at e0
      rw [e0, List.map_append, List.map_append]
      rfl
theorem sList_w {b : Nat} {last : Int} {A : List SesS} (hl1 : last < 4611686018427387904) (hid : ∀ s ∈ A, 0 ≤ s.id ∧ s.id ≤ last) (hlen : A.length ≤ 32) (hr : (A.map (·.id)).Pairwise (· < ·))
    (hq : ∀ S : Slc, At (ownS encN 4 S (A.map infoOf) :: tabB b last A :: L1) (Q (.slice S.a S.len S.cap))) (hx : Has L (tabB b last A) L1 := by repeat (first | with_reducible exact Go.H.has0 | apply Go.H.hasS)) : FW Tryz.prog 42 #[at0 b] L Q := fun h hs => by
  obtain ⟨X, rfl, h1⟩ := q_ax.1 (hx.s hs)
  refine List_spec h1 hl1 (fun p hp => hid p.2 (List.mem_map_of_mem hp)) (by simpa using hlen) fun sl xs h' e1 e2 hs' => ?_
  have e := list_is (by rw [List.map_map] at hr; exact hr) e1 e2
  subst e
  have := hq sl h'
  rw [List.map_map] at this
  exact this ((q_ax.2 ⟨X, rfl, hs'.p1⟩ : sat h' (tabB b last (X.map (·.2)) :: _)).p1)
theorem sNew_w (hq : ∀ b, At (tabB b 0 [] :: L) (Q (at0 b))) : FW Tryz.prog 27 #[] L Q := fun h hs => sesNew_spec hs fun b h' hs' => hq b h' (q_ax.2 ⟨[], rfl, hs'⟩)
theorem kNew_w (hq : ∀ b, At (keptA b [] :: L) (Q (ptr0 b))) : FW Tryz.prog 29 #[.int .i64 64] L Q := fun h hs => retNew_spec hs 64 fun b h' hs' => hq b h' (q_fh.2 ⟨[], Sto.nil (by decide), hs'⟩)
theorem kSet_w {b : Nat} {K : List MsgT} {m : MsgT} (ht : TP h0) (hsz : m.1.size ≤ 9223372036854775807) (hq : At (keptA b (setR 64 K m).2 :: old h0 :: L2) (Q (.int .u8 (setR 64 K m).1))) (hx : Has L (keptA b K) L1 := by repeat (first | with_reducible exact Go.H.has0 | apply Go.H.hasS)) (hy : Has L1 (old h0) L2 := by repeat (first | with_reducible exact Go.H.has0 | apply Go.H.hasS)) :
    FW Tryz.prog 79 #[ptr0 b, vM m] L Q := fun h hs => by
  obtain ⟨l, hl, h1⟩ := q_fh.1 ((hx.then hy).s hs)
  have hset := hl.set m
  refine Set_spec h1 ht hsz fun h' hs' => ?_
  rw [hset.1]
  exact hq h' (q_fh.2 ⟨_, hset.2, hs'⟩)
theorem kMatch_w {b : Nat} {K : List MsgT} {f : ByteArray} (ht : TP h0) (hsz : f.size ≤ 9223372036854775807) (hq : ∀ S : Slc, At (ownS encG 3 S (hitR K f) :: keptA b K :: old h0 :: L2) (Q (.slice S.a S.len S.cap))) (hx : Has L (keptA b K) L1 := by repeat (first | with_reducible exact Go.H.has0 | apply Go.H.hasS)) (hy : Has L1 (old h0) L2 := by repeat (first | with_reducible exact Go.H.has0 | apply Go.H.hasS)) :
    FW Tryz.prog 110 #[ptr0 b, .string f] L Q := fun h hs => by
  obtain ⟨l, hl, h1⟩ := q_fh.1 ((hx.then hy).s hs)
  refine Match_st h1 ht hsz (hl.lenL (by decide)).1 hl.small fun sl h' hs' => ?_
  rw [hl.hit f] at hs'
  exact hq sl h' ((q_fh.2 ⟨l, hl, hs'.p1⟩ : sat h' (keptA b K :: _)).p1)
theorem trNew_w (hq : ∀ b, At (trieA b [] :: L) (Q (at9 b))) : FW Tryz.prog 28 #[] L Q := fun h hs => tNew_spec hs fun b h' hs' => hq b h' hs'
theorem trMatch_w {t : Nat} {E : List Ent} {n : ByteArray} (ht : TP h0) (hsz : n.size ≤ 9223372036854775807) (hl : E.length ≤ 10000) (hq : ∀ S : Slc, At (ownS encE 3 S (E.filter fun x => matchB x.2.1 n) :: trieA t E :: old h0 :: L2) (Q (.slice S.a S.len S.cap))) (hx : Has L (trieA t E) L1 := by repeat (first | with_reducible exact Go.H.has0 | apply Go.H.hasS)) (hy : Has L1 (old h0) L2 := by repeat (first | with_reducible exact Go.H.has0 | apply Go.H.hasS)) :
    FW Tryz.prog 80 #[at9 t, .string n] L Q := fun h hs => tMatch_spec ht hsz hl ((hx.then hy).s hs) fun S h' hs' => hq S h' hs'
theorem trDrop_w {t : Nat} {E : List Ent} {id : Int} (ht : TP h0) (hl : E.length ≤ 10000) (hq : At (trieA t (dropL id E) :: old h0 :: L2) (Q (.int .i64 ((ofL9 id E).length : Nat)))) (hx : Has L (trieA t E) L1 := by repeat (first | with_reducible exact Go.H.has0 | apply Go.H.hasS)) (hy : Has L1 (old h0) L2 := by repeat (first | with_reducible exact Go.H.has0 | apply Go.H.hasS)) :
    FW Tryz.prog 71 #[at9 t, .int .i64 id] L Q := fun h hs => tDrop_spec ht hl ((hx.then hy).s hs) fun h' hs' => hq h' hs'
theorem trRemove_w {t : Nat} {E : List Ent} {id : Int} {f : ByteArray} (ht : TP h0) (hsz : f.size ≤ 16777216) (hl : E.length ≤ 10000) (hq : At (trieA t (delL E id f) :: old h0 :: L2) (Q (.bool (decide ((delL E id f).length < E.length))))) (hx : Has L (trieA t E) L1 := by repeat (first | with_reducible exact Go.H.has0 | apply Go.H.hasS)) (hy : Has L1 (old h0) L2 := by repeat (first | with_reducible exact Go.H.has0 | apply Go.H.hasS)) :
    FW Tryz.prog 111 #[at9 t, .int .i64 id, .string f] L Q := fun h hs => tRemove_spec ht hsz (by omega) ((hx.then hy).s hs) fun h' hs' => hq h' hs'
theorem asc_find {E : List Ent} {i : Nat} {x : Ent} {k : Int × ByteArray} (ha : Asc E) (hi : E[i]? = some x) (hk : keyE x = k) : E.findIdx? (fun x => decide (keyE x = k)) = some i := by
  rw [List.findIdx?_eq_some_iff_getElem]
  obtain ⟨hlt, hx⟩ := List.getElem?_eq_some_iff.1 hi
  refine ⟨hlt, by simp [hx, hk], fun j hj hc => ?_⟩
  have h1 := List.pairwise_iff_getElem.1 ha j i (by omega) hlt hj
  simp only [decide_eq_true_eq] at hc
  rw [hx, hk, hc] at h1
  exact absurd h1 (ordK.irr _)
theorem trAdd_w {t : Nat} {E : List Ent} {id q : Int} {f : ByteArray} (ht : TP h0) (hsz : f.size ≤ 9223372036854775807) (hl : E.length ≤ 10000) (hq : At (trieA t (addE E id f q).2 :: old h0 :: L2) (Q (.int .u8 (addE E id f q).1))) (hx : Has L (trieA t E) L1 := by repeat (first | with_reducible exact Go.H.has0 | apply Go.H.hasS)) (hy : Has L1 (old h0) L2 := by repeat (first | with_reducible exact Go.H.has0 | apply Go.H.hasS)) :
    FW Tryz.prog 109 #[at9 t, vEnt id f q] L Q := fun h hs => by
  have h1 := (hx.then hy).s hs
  have hgood := trie_good h1
  unfold addE at hq
  refine tAdd_spec ht hsz (by omega) h1 (fun hb h' hs' => ?_) (fun hb hqs h' hs' => ?_) (fun hb q0 q1 i x hi hk h' hs' => ?_) (fun hb q0 q1 hno hc h' hs' => ?_) (fun hb q0 q1 hno hc h' hs' => ?_)
  · rw [if_pos hb] at hq; exact hq h' hs'
  · rw [if_neg (by simp [hb]), if_pos hqs] at hq; exact hq h' hs'
  · rw [if_neg (by simp [hb]), if_neg (by omega)] at hq
    have hf : E.findIdx? (fun x => decide (keyE x = (id, f))) = some i := asc_find hgood.2 hi hk
    rw [hf] at hq
    exact hq h' hs'
  · rw [if_neg (by simp [hb]), if_neg (by omega), List.findIdx?_eq_none_iff.2 (fun x hx => by simpa using hno x hx)] at hq
    simp only [if_pos hc] at hq
    exact hq h' hs'
  · rw [if_neg (by simp [hb]), if_neg (by omega), List.findIdx?_eq_none_iff.2 (fun x hx => by simpa using hno x hx)] at hq
    simp only [if_neg (show ¬ 64 ≤ cntL E id by omega)] at hq
    exact hq h' hs'
end Go.Proofs.YtidlldnlphdhcaaGreatDoor
namespace Go.Proofs.YtidlldnlphdhcaaGreatDoor
open Go.H Go.Proofs
set_option linter.unusedSimpArgs false
set_option linter.unusedVariables false
set_option maxRecDepth 100000
variable {h h0 : Heap} {L L' L1 L2 L3 R : List Asn} {Q : Value → Heap → Prop}
def sesP (id : Int) (ps : List PkO) (l : List (Int × Tup tC)) : List OutO := (l.filter fun x => decide (x.2.1 = id)).flatMap fun x => ps.map fun p => ⟨x.1, p, false⟩
theorem conn_filter {id : Int} {l : List ConnS} : (l.map connE).filter (fun x => decide (x.2.1 = id)) = (l.filter fun x => decide (x.ses = id)).map connE := by
  rw [List.filter_map]; rfl
theorem sesP_all {id : Int} {ps : List PkO} {l : List ConnS} {done : List (Int × Tup tC)} (hp : done.Perm (l.map connE)) (hu : (l.filter fun x => decide (x.ses = id)).length ≤ 1) : sesP id ps done = toSes l id ps := by
  unfold sesP toSes
  have h1 := hp.filter fun x => decide (x.2.1 = id)
  rw [conn_filter] at h1
  generalize l.filter (fun x => decide (x.ses = id)) = k at hu h1
  match k, hu with
  | [], _ => rw [List.Perm.eq_nil h1]; rfl
  | [x], _ =>
    rw [List.map_cons, List.map_nil, List.perm_singleton] at h1
    rw [h1]; rfl
theorem first_met {id : Int} {l : List ConnS} {done rest : List (Int × Tup tC)} {q : Int × Tup tC} (hp : (done ++ q :: rest).Perm (l.map connE)) (hu : (l.filter fun x => decide (x.ses = id)).length ≤ 1) (hq : q.2.1 = id) : done.filter (fun x => decide (x.2.1 = id)) = [] := by
  have h1 := (hp.filter fun x => decide (x.2.1 = id)).length_eq
  rw [conn_filter, List.length_map, List.filter_append, List.filter_cons_of_pos (by simpa using hq), List.length_append, List.length_cons] at h1
  exact List.length_eq_zero_iff.1 (by omega)
def restP (c : Bool) (A : Asn) (L : List Asn) : List Asn := match c with
  | true => A :: L
  | false => L
theorem restP_sub {c : Bool} {A : Asn} {L : List Asn} : Sub (restP c A L) L := by
  cases c
  · exact Sub.rfl
  · exact Sub.drop Sub.rfl
theorem thA_of {t b : Nat} {full : Bool} {os os' : List OutO} {ps : List MsT} {so sp : Slc} (e : os' = os) (hs : sat h (cells t #[at0 b, .bool full, .slice so.a so.len so.cap, .slice sp.a sp.len sp.cap] :: outsA .u8 so os :: ownS encM 5 sp ps :: R)) : sat h (thA t b full os' ps :: R) := by
  subst e; exact q_ez.2 ⟨so, sp, hs⟩
theorem sesP_nil {id : Int} {ps : List PkO} {os : List OutO} : os ++ sesP id ps [] = os := List.append_nil _
theorem q_dy {t b : Nat} {full : Bool} {T : TurnS} {id : Int} {S : Slc} {ps : List PkO} (hu : (T.b.conns.filter fun x => decide (x.ses = id)).length ≤ 1) (hb : T.outs.length + ps.length ≤ 100000000)
    (hq : At (turnA t b full (sendAllB id ps T) :: L2) (Q (.tuple #[]))) (hx : Has L (turnA t b full T) L1 := by repeat (first | with_reducible exact Go.H.has0 | apply Go.H.hasS)) (hy : Has L1 (pksA .u8 S ps) L2 := by repeat (first | with_reducible exact Go.H.has0 | apply Go.H.hasS)) :
    FW Tryz.prog 72 #[at0 t, .int .i64 id, .slice S.a S.len S.cap] L Q := by
  refine fun h hs => q_e5 (some ⟨t, 0, none⟩) id S h Q ((?_ : W (turnA t b full T :: pksA .u8 S ps :: L2) _ _) h ((hx.then hy).s hs))
  clear hs h hx hy
  unfold q_bx
  refine W.nonnil ?_
  refine W.cv2 (fun h R => q_bs.1) ?_
  refine W.opn2 (fun h R => q_ez.1) fun so sp => ?_
  refine W.load (v := some ⟨b, 0, none⟩) ?_
  refine W.nonnil ?_
  refine W.opn (fun h R => q_gm.1) fun p => ?_
  refine W.load (v := some p.cm) ?_
  refine W.range fun it => ?_
  refine W.cls3 (A := thA t b full (T.outs ++ sesP id ps []) T.pubs) (fun h hs => thA_of sesP_nil hs) ?_
  refine W.mapw (ek := eKI) (ev := eVC) (r := p.cm) (l := T.b.conns.map connE) (fun done _ => thA t b full (T.outs ++ sesP id ps done) T.pubs :: cells b (brkC p) :: tabB p.tb T.b.last T.b.ses :: trieA p.sb T.b.subs :: keptA p.kb T.b.kept :: restP (done.filter fun x => decide (x.2.1 = id)).isEmpty (pksA .u8 S ps) L2) ?_ (fun done s hp K hd => ?_) (fun done q rest s hp K hnx hd => ?_)
  · show Sub _ (_ :: thA t b full (T.outs ++ sesP id ps []) T.pubs :: cells b (brkC p) :: tabB p.tb T.b.last T.b.ses :: trieA p.sb T.b.subs :: keptA p.kb T.b.kept :: pksA .u8 S ps :: L2)
    repeat (first | with_reducible exact Go.H.Sub.rfl | with_reducible exact Go.H.Sub.nil | refine Go.H.Sub.cons (by repeat (first | with_reducible exact Go.H.has0 | apply Go.H.hasS)) ?_ | refine Go.H.Sub.drop ?_)
  · refine W.ff rfl (W.pure (hd () _ (W.pure ?_)))
    rw [sesP_all hp hu]
    refine At.cls5 (A := brkA b T.b) (fun h hs => q_gm.2 ⟨p, hs⟩) (At.cls2 (A := turnA t b full (sendAllB id ps T)) (fun h hs => q_bs.2 hs) (At.sub hq (Sub.cons has0 restP_sub)) (hasS has0) has0)
  · refine W.tt rfl ?_
    refine W.entry (x := q.1) (y := q.2) ?_
    refine W.newc fun x11 => ?_
    refine W.storeN ?_
    refine W.load (v := q.2.1) ?_
    by_cases hqs : q.2.1 = id
    · refine W.bt (by simpa using hqs) ?_
      have hnil := first_met hp hu hqs
      have e0 : sesP id ps done = [] := by unfold sesP; rw [hnil]; rfl
      have hn := hnx ()
      dsimp only at hn ⊢
      have e2 : (done ++ [q]).filter (fun x => decide (x.2.1 = id)) = [q] := by rw [List.filter_append, hnil, List.filter_cons_of_pos (by simpa using hqs)]; rfl
      have e3 : sesP id ps (done ++ [q]) = ps.map fun p => ⟨q.1, p, false⟩ := by unfold sesP; rw [e2]; exact List.append_nil _
      rw [e3, e2] at hn
      rw [e0, hnil]
      refine W.opnp (fun h R => pks_iff.1) (fun PT hPT => ?_) (hx := (by repeat (first | with_reducible exact Go.H.has0 | apply Go.H.hasS) : Has (_ :: _ :: _ :: _ :: _ :: _ :: _ :: pksA .u8 S ps :: L2) _ _))
      subst hPT
      refine W.bbind ?_
      refine W.fact (own_len' (enc := encPkK .u8) (size := 26) (s := S) (xs := PT.map pkF)) fun hl => ?_
      rw [List.length_map] at hl hb
      refine W.for PT.length (fun i s => s.1 = (i : Int)) (fun i _ => thA t b full (T.outs ++ (PT.take i).map fun z => ⟨q.1, z.2.2, false⟩) T.pubs :: ownS (encPkK .u8) 26 S (PT.map pkF) :: bigA (pkB .u8) (PT.drop i) :: itA eKI eVC p.cm (T.b.conns.map connE) it (done ++ [q]) rest :: cells b (brkC p) :: tabB p.tb T.b.last T.b.ses :: trieA p.sb T.b.subs :: keptA p.kb T.b.kept :: L2) rfl ?_ (fun i s hi hI => by rw [hI, hl]; exact decide_eq_decide.2 (by omega)) (fun s hI K2 hd2 => ?_) (fun i s hlt hI K2 hnx2 hd2 => ?_)
      · show Sub _ (thA t b full (T.outs ++ []) T.pubs :: ownS (encPkK .u8) 26 S (PT.map pkF) :: bigA (pkB .u8) PT :: itA eKI eVC p.cm (T.b.conns.map connE) it (done ++ [q]) rest :: cells b (brkC p) :: tabB p.tb T.b.last T.b.ses :: trieA p.sb T.b.subs :: keptA p.kb T.b.kept :: L2)
        repeat (first | with_reducible exact Go.H.Sub.rfl | with_reducible exact Go.H.Sub.nil | refine Go.H.Sub.cons (by repeat (first | with_reducible exact Go.H.has0 | apply Go.H.hasS)) ?_ | refine Go.H.Sub.drop ?_)
      · refine W.pure (hd2 _ _ (W.bpure (W.pure ?_)))
        have e4 : (PT.take PT.length).map (fun z : Slc × Slc × PkO => (⟨q.1, z.2.2, false⟩ : OutO)) = (PT.map (·.2.2)).map fun p => ⟨q.1, p, false⟩ := by rw [List.take_length, List.map_map]; rfl
        rw [e4]
        refine At.sub hn ?_
        show Sub _ (_ :: _ :: _ :: _ :: _ :: _ :: L2)
        repeat (first | with_reducible exact Go.H.Sub.rfl | with_reducible exact Go.H.Sub.nil | refine Go.H.Sub.cons (by repeat (first | with_reducible exact Go.H.has0 | apply Go.H.hasS)) ?_ | refine Go.H.Sub.drop ?_)
      · have hi : (PT.map pkF)[i]? = some (pkF PT[i]) := by simp [hlt]
        refine W.idx (enc := encPkK .u8) (xs := PT.map pkF) (i := i) (by simpa using hlt) (fun a ha => ?_) (he := hI)
        refine W.loadeN (x := pkF PT[i]) (v := pkF PT[i]) ha hi ?_
        refine W.newc fun x18 => ?_
        refine W.storeN ?_
        refine W.loadN (v := pkF PT[i]) ?_
        rw [List.drop_eq_getElem_cons hlt]
        refine W.cv2 (fun h R => q_ao.1) ?_
        refine W.callN (send0_w (full := full) (os := T.outs ++ (PT.take i).map fun z => ⟨q.1, z.2.2, false⟩) (ps := T.pubs) (b := b) (o := PT[i].2.2) (ci := PT[i].1) (pi := PT[i].2.1) (by rw [List.length_append, List.length_map, List.length_take]; omega) (At.unN ?_))
        have hn2 := hnx2 (IntKind.wrap .i64 (s.1 + 1), ()) (by simp only [hI]; rw [q_al (by omega) (by omega)]; rfl)
        have e4 : T.outs ++ (PT.take (i + 1)).map (fun z : Slc × Slc × PkO => (⟨q.1, z.2.2, false⟩ : OutO)) = (T.outs ++ (PT.take i).map fun z => ⟨q.1, z.2.2, false⟩) ++ [⟨q.1, PT[i].2.2, false⟩] := by
          rw [List.take_succ_eq_append_getElem hlt, List.map_append, ← List.append_assoc]; rfl
        rw [e4] at hn2
        exact W.pure hn2.sub
    · refine W.bf (by simpa using hqs) ?_
      refine W.bpure (W.pure ?_)
      have e5 : (done ++ [q]).filter (fun x => decide (x.2.1 = id)) = done.filter (fun x => decide (x.2.1 = id)) := by rw [List.filter_append, List.filter_cons_of_neg (by simpa using hqs), List.filter_nil, List.append_nil]
      have e6 : sesP id ps (done ++ [q]) = sesP id ps done := by unfold sesP; rw [e5]
      have hn := hnx ()
      rw [e6, e5] at hn
      refine At.sub hn ?_
      repeat (first | with_reducible exact Go.H.Sub.rfl | with_reducible exact Go.H.Sub.nil | refine Go.H.Sub.cons (by repeat (first | with_reducible exact Go.H.has0 | apply Go.H.hasS)) ?_ | refine Go.H.Sub.drop ?_)
end Go.Proofs.YtidlldnlphdhcaaGreatDoor
namespace Go.Proofs.YtidlldnlphdhcaaGreatDoor
open Go.H Go.Proofs
set_option linter.unusedSimpArgs false
set_option linter.unusedVariables false
set_option maxRecDepth 100000
variable {h h0 : Heap} {L L' L1 L2 L3 R : List Asn} {Q : Value → Heap → Prop}
theorem setS_congr {A : List SesS} {s : SesS} {k : Int} {f g : SesS → SesS} (hn : (A.map (·.id)).Nodup) (hm : s ∈ A) (hk : s.id = k) (e : f s = g s) : setS k f A = setS k g A := by
  unfold setS
  refine List.map_congr_left fun x hx => ?_
  by_cases hxk : x.id = k
  · rw [if_pos hxk, if_pos hxk, nodup_one (f := (·.id)) hn hx hm (hxk.trans hk.symm)]; exact e
  · rw [if_neg hxk, if_neg hxk]
theorem q_ia {b ob ib : Nat} {last k : Int} {A : List SesS} {s : SesS} {o : OutS} (hn : (A.map (·.id)).Nodup) (hm : s ∈ A) (hk : s.id = k) : ∀ h, sat h (outA ob o :: flowA ib s.inn :: tabH b last A s ob ib :: R) → sat h (tabB b last (setS k (setOut o) A) :: R) := fun h hs => by
  have h1 := tabH_close h hs
  rw [hk, setS_congr (f := fun x => { x with out := o, inn := s.inn }) (g := setOut o) hn hm hk rfl] at h1
  exact h1
theorem tabH_inn {b ob ib : Nat} {last k : Int} {A : List SesS} {s : SesS} {i : PoolS} (hn : (A.map (·.id)).Nodup) (hm : s ∈ A) (hk : s.id = k) : ∀ h, sat h (outA ob s.out :: flowA ib i :: tabH b last A s ob ib :: R) → sat h (tabB b last (setS k (setInn i) A) :: R) := fun h hs => by
  have h1 := tabH_close h hs
  rw [hk, setS_congr (f := fun x => { x with out := s.out, inn := i }) (g := setInn i) hn hm hk rfl] at h1
  exact h1
theorem Out_w2 {b ob ib : Nat} {last k : Int} {A : List SesS} {s : SesS} (hk : s.id = k) (hq : At (outA ob s.out :: flowA ib s.inn :: tabH b last A s ob ib :: L3) (Q (at0 ob))) (hx : Has L (outA ob s.out) L1 := by repeat (first | with_reducible exact Go.H.has0 | apply Go.H.hasS)) (hy : Has L1 (flowA ib s.inn) L2 := by repeat (first | with_reducible exact Go.H.has0 | apply Go.H.hasS)) (hz : Has L2 (tabH b last A s ob ib) L3 := by repeat (first | with_reducible exact Go.H.has0 | apply Go.H.hasS)) :
    FW Tryz.prog 56 #[at0 b, .int .i64 k] L Q := by subst hk; exact Out_w hq hx hy hz
theorem In_w2 {b ob ib : Nat} {last k : Int} {A : List SesS} {s : SesS} (hk : s.id = k) (hq : At (outA ob s.out :: flowA ib s.inn :: tabH b last A s ob ib :: L3) (Q (at0 ib))) (hx : Has L (outA ob s.out) L1 := by repeat (first | with_reducible exact Go.H.has0 | apply Go.H.hasS)) (hy : Has L1 (flowA ib s.inn) L2 := by repeat (first | with_reducible exact Go.H.has0 | apply Go.H.hasS)) (hz : Has L2 (tabH b last A s ob ib) L3 := by repeat (first | with_reducible exact Go.H.has0 | apply Go.H.hasS)) :
    FW Tryz.prog 106 #[at0 b, .int .i64 k] L Q := by subst hk; exact In_w hq hx hy hz
theorem grp_lt {i : Int} {tk rs : List Ent} {e : Ent} {rest : List Ent} (hz : tk ++ rs = e :: rest) (he : e.1 = i) (hs : (tk ++ rs).Pairwise fun a b => a.1 ≤ b.1) (h1 : ∀ y ∈ tk, y.1 = i) (h2 : ∀ y ∈ rs.head?, y.1 ≠ i) : 0 < tk.length ∧ ∀ y ∈ rs, i < y.1 := by
  match tk, h1, hz with
  | [], _, hz =>
    rw [List.nil_append] at hz
    subst hz
    exact absurd he (h2 e (by simp))
  | y0 :: tk, h1, hz =>
    refine ⟨by simp, ?_⟩
    have h0 := h1 y0 (List.mem_cons_self ..)
    rw [List.cons_append, List.pairwise_cons] at hs
    match rs, h2, hs with
    | [], _, _ => intro y hy; cases hy
    | z :: rs, h2, hs =>
      have hz1 := hs.1 z (List.mem_append_right _ (List.mem_cons_self ..))
      have hz2 := h2 z (by simp)
      have hp := (List.pairwise_append.1 hs.2).2.1
      rw [List.pairwise_cons] at hp
      intro y hy
      rcases List.mem_cons.1 hy with rfl | hy
      · omega
      · have := hp.1 y hy; omega
theorem maxq_snoc {tk : List Ent} {y : Ent} : maxq (tk ++ [y]) = max (maxq tk) y.2.2 := by unfold maxq; rw [List.foldl_append]; rfl
theorem hand_w {t b : Nat} {full : Bool} {T : TurnS} {m : MsT} (ht : TP h0) (hok : BrkH T.b) (hb : T.outs.length ≤ 50000000) (hm : m.1.size ≤ 9223372036854775807)
    (hq : At (turnA t b full (handB m T) :: old h0 :: L2) (Q (.tuple #[]))) (hx : Has L (turnA t b full T) L1 := by repeat (first | with_reducible exact Go.H.has0 | apply Go.H.hasS)) (hy : Has L1 (old h0) L2 := by repeat (first | with_reducible exact Go.H.has0 | apply Go.H.hasS)) :
    FW Tryz.prog 43 #[at0 t, vMs m] L Q := by
  refine fun h hs => q_g8 (some ⟨t, 0, none⟩) (toU m) h Q ((?_ : W (turnA t b full T :: old h0 :: L2) _ _) h ((hx.then hy).s hs))
  clear hs h hx hy
  unfold q_dk
  refine W.newc fun x1 => ?_
  refine W.load (v := m.2.2.2.1) ?_
  refine W.cut (fun _ => turnA t b full (keepB m T) :: cells x1 (aS7 (toU m)) :: old h0 :: L2) (fun K hK => ?_) (fun _ => ?_)
  · refine W.ite (fun hr => ?_) (fun hr => ?_)
    · have e : keepB m T = tKept (setR 64 T.b.kept (m.1, m.2.1, m.2.2.1, ())).2 T := if_pos hr
      rw [e] at hK
      refine W.nonnil ?_
      refine W.opn3 (fun h R => q_ak) fun so sp p => ?_
      refine W.load (v := some ⟨b, 0, none⟩) ?_
      refine W.nonnil ?_
      refine W.load ?_
      refine W.load (v := m.1) ?_
      refine W.load (v := m.2.1) ?_
      refine W.load (v := m.2.2.1) ?_
      refine W.call1 (kSet_w (b := p.kb) (K := T.b.kept) (m := (m.1, m.2.1, m.2.2.1, ())) ht hm (At.un (W.pure ?_)))
      refine At.turn (tKept (setR 64 T.b.kept (m.1, m.2.1, m.2.2.1, ())).2 T) so sp p ?_
      exact (hK ()).sub
    · have e : keepB m T = T := if_neg (by rw [hr]; decide)
      rw [e] at hK
      exact W.pure (hK ()).sub
  have hk := keepB_ok (m := m) hok
  have hfin : (idsL none (T.b.subs.filter fun x => matchB x.2.1 m.1)).foldl (handOne m (T.b.subs.filter fun x => matchB x.2.1 m.1)) (keepB m T) = handB m T := rfl
  rw [← hk.subs] at hfin
  have hok0 := hk.ok
  have hb0 : (keepB m T).outs.length ≤ 50000000 := Nat.le_trans hk.outs hb
  clear hk
  generalize keepB m T = T0 at *
  refine W.nonnil ?_
  refine W.opn3 (fun h R => q_ak) fun so sp p => ?_
  refine W.load (v := some ⟨b, 0, none⟩) ?_
  refine W.nonnil ?_
  refine W.load ?_
  refine W.load (v := m.1) ?_
  refine W.fact (fun h R hs => (trie_good (t := p.sb) (L := T0.b.subs) hs).2) fun hasc => ?_
  refine W.call1 (trMatch_w (t := p.sb) (E := T0.b.subs) (n := m.1) ht hm hok0.subs (fun S => At.un (x := S) ?_))
  refine W.turn T0 so sp p ?_
  have hsub : ∀ e ∈ T0.b.subs.filter (fun x => matchB x.2.1 m.1), e ∈ T0.b.subs := fun e he => (List.mem_filter.1 he).1
  have hMs : (T0.b.subs.filter fun x => matchB x.2.1 m.1).Pairwise fun a b => a.1 ≤ b.1 := (asc_le hasc).filter _
  have hMl : (T0.b.subs.filter fun x => matchB x.2.1 m.1).length ≤ 10000 := Nat.le_trans (List.length_filter_le _ _) hok0.subs
  generalize T0.b.subs.filter (fun x => matchB x.2.1 m.1) = M at *
  clear hasc
  refine W.loop (γ := List Ent × TurnS) (fun g s => (∃ done, M = done ++ g.1 ∧ ∀ a ∈ done, ∀ y ∈ g.1, a.1 < y.1) ∧ (idsL none g.1).foldl (handOne m M) g.2 = handB m T ∧ BrkH g.2.b ∧ g.2.b.subs = T0.b.subs ∧ g.2.outs.length + 320 * g.1.length ≤ 53200000)
    (fun g s => turnA t b full g.2 :: ownS encE 3 s.1 g.1 :: cells x1 (aS7 (toU m)) :: old h0 :: L2) (fun g => g.1.length) (M, T0) ⟨⟨[], rfl, by simp⟩, hfin, hok0, rfl, by simp only; omega⟩ ?_ ?_
  · show Sub _ (turnA t b full T0 :: ownS encE 3 S M :: cells x1 (aS7 (toU m)) :: old h0 :: L2)
    repeat (first | with_reducible exact Go.H.Sub.rfl | with_reducible exact Go.H.Sub.nil | refine Go.H.Sub.cons (by repeat (first | with_reducible exact Go.H.has0 | apply Go.H.hasS)) ?_ | refine Go.H.Sub.drop ?_)
  rintro ⟨rest, T1⟩ s ⟨⟨done, hMd, hdr⟩, hfold, hok1, hsb, hb1⟩ K h1 h2
  simp only at hMd hdr hfold hok1 hsb hb1
  refine W.fact (own_len' (enc := encE) (size := 3) (s := s.1) (xs := rest)) fun hl => ?_
  cases rest with
  | nil =>
    refine W.ff (by rw [hl]; rfl) (W.pure (h2 _ _ (W.pure ?_)))
    have hfold : T1 = handB m T := hfold
    rw [hfold]
    exact hq.sub
  | cons e rest' =>
    refine W.tt (by rw [hl]; exact decide_eq_true (by simp only [List.length_cons]; omega)) ?_
    refine W.idx (enc := encE) (xs := e :: rest') (i := 0) (by simp) (fun a ha => ?_)
    refine W.loade (k := 0) (x := e) (v := e.1) ha rfl ?_
    refine W.cutx (X := List Ent × List Ent) (fun z a => z.1 ++ z.2 = e :: rest' ∧ (∀ y ∈ z.1, y.1 = e.1) ∧ (∀ y ∈ z.2.head?, y.1 ≠ e.1) ∧ a.1 = maxq z.1) (fun z a => turnA t b full T1 :: ownS encE 3 a.2.1 z.2 :: cells x1 (aS7 (toU m)) :: old h0 :: L2) (fun K2 hK2 => ?_) (fun z a hz => ?_)
    · refine W.loop0 (γ := List Ent × List Ent) (fun z s => z.1 ++ z.2 = e :: rest' ∧ (∀ y ∈ z.1, y.1 = e.1) ∧ s.1 = maxq z.1) (fun z s => turnA t b full T1 :: ownS encE 3 s.2.1 z.2 :: cells x1 (aS7 (toU m)) :: old h0 :: L2) (fun z => z.2.length) ([], e :: rest') ⟨rfl, by simp, rfl⟩ ?_ ?_
      · show Sub _ (turnA t b full T1 :: ownS encE 3 s.1 (e :: rest') :: cells x1 (aS7 (toU m)) :: old h0 :: L2)
        repeat (first | with_reducible exact Go.H.Sub.rfl | with_reducible exact Go.H.Sub.nil | refine Go.H.Sub.cons (by repeat (first | with_reducible exact Go.H.has0 | apply Go.H.hasS)) ?_ | refine Go.H.Sub.drop ?_)
      rintro ⟨tk, rs⟩ s2 ⟨hz1, hz2, hz3⟩ K3 k1 k2
      simp only at hz1 hz2 hz3
      refine W.fact (own_len' (enc := encE) (size := 3) (s := s2.2.1) (xs := rs)) fun hl2 => ?_
      cases rs with
      | nil => exact W.bf (by rw [hl2]; rfl) (W.bpure (W.ff rfl (W.pure (k2 _ _ (hK2 (tk, []) _ ⟨hz1, hz2, by simp, hz3⟩).sub))))
      | cons y rs' =>
        refine W.bt (by rw [hl2]; exact decide_eq_true (by simp only [List.length_cons]; omega)) ?_
        refine W.bbind (W.idx (enc := encE) (xs := y :: rs') (i := 0) (by simp) (fun a2 ha2 => ?_))
        refine W.bbind (W.loade (k := 0) (x := y) (v := y.1) ha2 rfl ?_)
        refine W.bpure ?_
        by_cases hy : y.1 = e.1
        · refine W.tt (by simpa using hy) ?_
          refine W.idx (enc := encE) (xs := y :: rs') (i := 0) (by simp) (fun a3 ha3 => ?_)
          refine W.loade (k := 2) (x := y) (v := y.2.2) ha3 rfl ?_
          refine W.sls (enc := encE) (xs := y :: rs') (lo := 1) (hi := (y :: rs').length) (by simp) (Nat.le_refl _) (fun s' => ?_) ⟨rfl, by simp⟩ (fun c _ e => e.symm)
          rw [List.take_length, List.drop_one, List.tail_cons]
          have f1 : ∀ z ∈ tk ++ [y], z.1 = e.1 := fun z hz => by
            rcases List.mem_append.1 hz with hz | hz
            · exact hz2 z hz
            · rw [List.mem_singleton.1 hz]; exact hy
          have f2 : (if s2.1 < y.2.2 then y.2.2 else s2.1) = maxq (tk ++ [y]) := by
            rw [maxq_snoc, ← hz3]; split <;> omega
          have f3 : tk ++ [y] ++ rs' = e :: rest' := by rw [List.append_assoc]; exact hz1
          exact W.pure (k1 (tk ++ [y], rs') _ (Nat.lt_succ_self _) ⟨f3, f1, f2⟩).sub
        · have f4 : ∀ z ∈ (y :: rs').head?, z.1 ≠ e.1 := by simpa using hy
          exact W.ff (by simpa using hy) (W.pure (k2 _ _ (hK2 (tk, y :: rs') _ ⟨hz1, hz2, f4, hz3⟩).sub))
    · obtain ⟨tk, rs⟩ := z
      obtain ⟨hz1, hz2, hz3, hz4⟩ := hz
      simp only at hz1 hz2 hz3 hz4
      have hg := grp_lt hz1 rfl (by rw [hz1]; rw [hMd] at hMs; exact (List.pairwise_append.1 hMs).2.1) hz2 hz3
      have hqos : qosL M e.1 = maxq tk := by
        rw [hMd, ← hz1]
        refine qos_group (fun y hy => ?_) hz2 (fun y hy => ?_)
        · have := hdr y hy e (List.mem_cons_self ..); omega
        · have := hg.2 y hy; omega
      have hmin : (if a.1 < m.2.2.1 then a.1 else m.2.2.1) = min m.2.2.1 (qosL M e.1) := by rw [hqos, hz4]; split <;> omega
      obtain ⟨s3, hs3, hid⟩ := hok1.live e (by rw [hsb]; refine hsub e ?_; rw [hMd]; exact List.mem_append_right _ (List.mem_cons_self ..))
      have hfo := q_ic (hok1.flow s3 hs3) (m.1, m.2.1, min m.2.2.1 (qosL M e.1), false, e0S)
      have e9 : handOne m M T1 e.1 = sendAllB e.1 (sendF s3.out (m.1, m.2.1, min m.2.2.1 (qosL M e.1), false, e0S)).1.2 (tSes (setS e.1 (setOut (sendF s3.out (m.1, m.2.1, min m.2.2.1 (qosL M e.1), false, e0S)).1.1) T1.b.ses) T1) := by
        unfold handOne outOp
        rw [getS_of hok1.nd hs3 hid]
      have hok2 := handOne_ok (m := m) (l := M) T1 e.1 hok1
      have hlz := congrArg List.length hz1
      simp only [List.length_append, List.length_cons] at hlz hb1
      have hnext : ∀ s', At (turnA t b full (handOne m M T1 e.1) :: ownS encE 3 s' rs :: cells x1 (aS7 (toU m)) :: old h0 :: L2) (K (.inl (s', ()))) := fun s' => by
        refine h1 (rs, handOne m M T1 e.1) (s', ()) ?_ ⟨⟨done ++ tk, ?_, ?_⟩, ?_, hok2.ok, hok2.subs.trans hsb, ?_⟩
        · simp only [List.length_cons]; have := hg.1; omega
        · rw [hMd, ← hz1, List.append_assoc]
        · intro x hx y hy
          rcases List.mem_append.1 hx with hx | hx
          · exact hdr x hx y (by rw [← hz1]; exact List.mem_append_right _ hy)
          · rw [hz2 x hx]; exact hg.2 y hy
        · rw [idsL_group rfl hz1 hz2 hz3] at hfold
          exact hfold
        · have := hok2.outs
          have := hg.1
          simp only
          omega
      rw [e9] at hnext
      clear hq hfold hdr h1 h2
      refine W.nonnil ?_
      refine W.opn3 (fun h R => q_ak) fun so sp p => ?_
      refine W.load (v := some ⟨b, 0, none⟩) ?_
      refine W.nonnil ?_
      refine W.load (v := some ⟨p.tb, 0, none⟩) ?_
      refine W.load (v := m.1) ?_
      refine W.load (v := m.2.1) ?_
      refine W.load (v := m.2.2.1) ?_
      rw [hmin]
      refine W.opn2 (fun h R => q_hh hs3 h R) fun ob ib => ?_
      refine W.both ?_ ?_
      · refine W.call1 (Out_w2 hid (At.un ?_))
        repeat (first | refine W.bpure ?_ | refine W.bbind ?_ | refine W.newc fun _ => ?_ | refine W.load ?_ | refine W.load0 ?_ | refine W.loadx ?_ | (refine W.loadN ?_; try dsimp only) | (refine W.loadNo ?_; try dsimp only) | refine W.storeN ?_ | refine W.store ?_ | refine W.store0 ?_ | refine W.storex ?_ | refine W.req ?_ rfl | refine W.bt rfl ?_ | refine W.bf rfl ?_ | refine W.tt rfl ?_ | refine W.ff rfl ?_ | refine W.inl ?_ | refine W.inr ?_ | refine W.nonnil ?_ | refine W.bf (Go.H.nbq _) ?_ | refine W.ff (Go.H.nbq _) ?_ | refine W.bf (Go.H.nbd rfl) ?_ | refine W.ff (Go.H.nbd rfl) ?_)
        refine W.callN (osend_w (b := ob) (o := s3.out) (m := (m.1, m.2.1, min m.2.2.1 (qosL M e.1), false, e0S)) (hok1.flow s3 hs3) (fun S2 => At.unN (x := (S2, (sendF s3.out (m.1, m.2.1, min m.2.2.1 (qosL M e.1), false, e0S)).2, ())) ?_))
        refine W.cls3 (A := tabB p.tb T1.b.last (setS e.1 (setOut (sendF s3.out (m.1, m.2.1, min m.2.2.1 (qosL M e.1), false, e0S)).1.1) T1.b.ses)) (fun h hs => q_ia hok1.nd hs3 hid h hs) ?_
        refine W.turn (tSes (setS e.1 (setOut (sendF s3.out (m.1, m.2.1, min m.2.2.1 (qosL M e.1), false, e0S)).1.1) T1.b.ses) T1) so sp p ?_
        refine W.callN (q_dy (T := (tSes (setS e.1 (setOut (sendF s3.out (m.1, m.2.1, min m.2.2.1 (qosL M e.1), false, e0S)).1.1) T1.b.ses) T1)) (id := e.1) (ps := (sendF s3.out (m.1, m.2.1, min m.2.2.1 (qosL M e.1), false, e0S)).1.2) (hok1.one e.1) (by have := hfo.2; show T1.outs.length + _ ≤ _; omega) (At.unN ?_))
        exact W.pure (hnext _).sub
      · repeat (first | refine W.bpure ?_ | refine W.bbind ?_ | refine W.newc fun _ => ?_ | refine W.load ?_ | refine W.load0 ?_ | refine W.loadx ?_ | (refine W.loadN ?_; try dsimp only) | (refine W.loadNo ?_; try dsimp only) | refine W.storeN ?_ | refine W.store ?_ | refine W.store0 ?_ | refine W.storex ?_ | refine W.req ?_ rfl | refine W.bt rfl ?_ | refine W.bf rfl ?_ | refine W.tt rfl ?_ | refine W.ff rfl ?_ | refine W.inl ?_ | refine W.inr ?_ | refine W.nonnil ?_ | refine W.bf (Go.H.nbq _) ?_ | refine W.ff (Go.H.nbq _) ?_ | refine W.bf (Go.H.nbd rfl) ?_ | refine W.ff (Go.H.nbd rfl) ?_)
        refine W.call1 (Out_w2 hid (At.un ?_))
        repeat (first | refine W.bpure ?_ | refine W.bbind ?_ | refine W.newc fun _ => ?_ | refine W.load ?_ | refine W.load0 ?_ | refine W.loadx ?_ | (refine W.loadN ?_; try dsimp only) | (refine W.loadNo ?_; try dsimp only) | refine W.storeN ?_ | refine W.store ?_ | refine W.store0 ?_ | refine W.storex ?_ | refine W.req ?_ rfl | refine W.bt rfl ?_ | refine W.bf rfl ?_ | refine W.tt rfl ?_ | refine W.ff rfl ?_ | refine W.inl ?_ | refine W.inr ?_ | refine W.nonnil ?_ | refine W.bf (Go.H.nbq _) ?_ | refine W.ff (Go.H.nbq _) ?_ | refine W.bf (Go.H.nbd rfl) ?_ | refine W.ff (Go.H.nbd rfl) ?_)
        refine W.callN (osend_w (b := ob) (o := s3.out) (m := (m.1, m.2.1, min m.2.2.1 (qosL M e.1), false, e0S)) (hok1.flow s3 hs3) (fun S2 => At.unN (x := (S2, (sendF s3.out (m.1, m.2.1, min m.2.2.1 (qosL M e.1), false, e0S)).2, ())) ?_))
        refine W.cls3 (A := tabB p.tb T1.b.last (setS e.1 (setOut (sendF s3.out (m.1, m.2.1, min m.2.2.1 (qosL M e.1), false, e0S)).1.1) T1.b.ses)) (fun h hs => q_ia hok1.nd hs3 hid h hs) ?_
        refine W.turn (tSes (setS e.1 (setOut (sendF s3.out (m.1, m.2.1, min m.2.2.1 (qosL M e.1), false, e0S)).1.1) T1.b.ses) T1) so sp p ?_
        refine W.callN (q_dy (T := (tSes (setS e.1 (setOut (sendF s3.out (m.1, m.2.1, min m.2.2.1 (qosL M e.1), false, e0S)).1.1) T1.b.ses) T1)) (id := e.1) (ps := (sendF s3.out (m.1, m.2.1, min m.2.2.1 (qosL M e.1), false, e0S)).1.2) (hok1.one e.1) (by have := hfo.2; show T1.outs.length + _ ≤ _; omega) (At.unN ?_))
        exact W.pure (hnext _).sub
end Go.Proofs.YtidlldnlphdhcaaGreatDoor
namespace Go.Proofs.YtidlldnlphdhcaaGreatDoor
open Go.H Go.Proofs
set_option linter.unusedSimpArgs false
set_option linter.unusedVariables false
set_option maxRecDepth 100000
variable {h h0 : Heap} {L L' L1 L2 L3 R : List Asn} {Q : Value → Heap → Prop}
theorem publish_w {t b : Nat} {full : Bool} {T : TurnS} {m : MsT} (ht : TP h0) (hok : BrkH T.b) (hb : T.outs.length ≤ 50000000) (hp : T.pubs.length ≤ 1000000000) (hm : m.1.size ≤ 9223372036854775807)
    (hq : At (turnA t b full (publishB m T) :: old h0 :: L2) (Q (.tuple #[]))) (hx : Has L (turnA t b full T) L1 := by repeat (first | with_reducible exact Go.H.has0 | apply Go.H.hasS)) (hy : Has L1 (old h0) L2 := by repeat (first | with_reducible exact Go.H.has0 | apply Go.H.hasS)) :
    FW Tryz.prog 96 #[at0 t, vMs m] L Q := by
  refine fun h hs => q_e6 (some ⟨t, 0, none⟩) (toU m) h Q ((?_ : W (turnA t b full T :: old h0 :: L2) _ _) h ((hx.then hy).s hs))
  clear hs h hx hy
  have hpl : ((handB m T).pubs.length + 1) * 64 ≤ 140737488355328 := by rw [handB_pubs]; omega
  have hq : At (turnA t b full (⟨(handB m T).b, (handB m T).outs, (handB m T).pubs ++ [m]⟩ : TurnS) :: old h0 :: L2) (Q (.tuple #[])) := hq
  unfold q_by
  refine W.newc fun x1 => ?_
  refine W.loadN (v := toU m) ?_
  refine W.callN (hand_w (m := m) ht hok hb hm (At.unN ?_))
  generalize handB m T = T1 at *
  refine W.nonnil ?_
  refine W.opn3 (fun h R => q_ak) fun so sp p => ?_
  refine W.loadx (b := t) (i := 3) (v := sp) ?_
  refine W.loadN (v := toU m) ?_
  refine W.newc fun x7 => ?_
  refine W.loadx (b := t) (i := 3) (v := sp) ?_
  refine W.req ?_ rfl
  refine W.app1b (xs := T1.pubs) (enc := encM) (s := sp) m (fun s' => ?_) hpl
  refine W.nonnil ?_
  refine W.storex (b := t) (i := 3) (cs' := #[at0 b, .bool full, .slice so.a so.len so.cap, .slice s'.a s'.len s'.cap]) ?_
  refine W.turn (⟨T1.b, T1.outs, T1.pubs ++ [m]⟩ : TurnS) so s' p ?_
  exact W.pure hq.sub
theorem q_d2 (l : List ConnS) (c : Int) : mget (l.map connE) c = (getC c l).map connT := by
  unfold mget getC
  induction l with
  | nil => rfl
  | cons x l ih =>
    rw [List.map_cons, List.find?_cons, List.find?_cons]
    by_cases hx : x.c = c
    · simp [hx]
    · simp only [connE, hx, decide_false]
      exact ih
theorem mdel_conn {l : List ConnS} {c : Int} (hn : (l.map (·.c)).Nodup) : mdel (l.map connE) c = (l.filter fun y => decide (y.c ≠ c)).map connE := by
  have hn' : ((l.map connE).map (·.1)).Nodup := by rw [List.map_map]; exact hn
  rw [q_bh hn', List.filter_map]
  rfl
theorem conn_nd {m : Nat} {l : List ConnS} (hs : sat h (mapA eKI eVC m (l.map connE) :: R)) : (l.map (·.c)).Nodup := by
  have := hs.map_nodup
  rw [List.map_map] at this
  exact this
theorem kKI : KeyLaw (Instr.sameNow (.int .i64)) eKI := key_int .i64
theorem end_w {t b : Nat} {full : Bool} {T : TurnS} {c : Int} {will : Bool} (ht : TP h0) (hok : BrkH T.b) (hb : T.outs.length ≤ 50000000) (hp : T.pubs.length ≤ 1000000000)
    (hq : At (turnA t b full (endB full c will T) :: old h0 :: L2) (Q (.tuple #[]))) (hx : Has L (turnA t b full T) L1 := by repeat (first | with_reducible exact Go.H.has0 | apply Go.H.hasS)) (hy : Has L1 (old h0) L2 := by repeat (first | with_reducible exact Go.H.has0 | apply Go.H.hasS)) :
    FW Tryz.prog 54 #[at0 t, .int .i64 c, .bool will] L Q := by
  refine fun h hs => q_h9 (some ⟨t, 0, none⟩) c will h Q ((?_ : W (turnA t b full T :: old h0 :: L2) _ _) h ((hx.then hy).s hs))
  clear hs h hx hy
  unfold endB at hq
  unfold q_ec
  refine W.nonnil ?_
  refine W.opn3 (fun h R => q_ak) fun so sp p => ?_
  refine W.load (v := some ⟨b, 0, none⟩) ?_
  refine W.nonnil ?_
  refine W.load (v := some p.cm) ?_
  refine W.fact (fun h R hs => conn_nd (m := p.cm) (l := T.b.conns) hs) fun hnd => ?_
  refine W.lookup (kind := .agg tC) kKI c ?_
  rw [q_d2]
  cases hg : getC c T.b.conns with
  | none =>
    rw [hg] at hq
    refine W.newc fun x6 => ?_
    refine W.storeN ?_
    refine W.tt rfl ?_
    refine W.turn T so sp p ?_
    exact W.pure hq.sub
  | some x =>
    rw [hg] at hq
    simp only at hq
    refine W.newc fun x6 => ?_
    refine W.storeN ?_
    refine W.cells (b := x6) (lS4 (connT x)).toArray ?_
    refine W.ff rfl ?_
    refine W.nonnil ?_
    refine W.load (v := some ⟨b, 0, none⟩) ?_
    refine W.nonnil ?_
    refine W.load (v := some p.cm) ?_
    refine W.mdel kKI c ?_
    rw [mdel_conn hnd]
    refine W.nonnil ?_
    refine W.load (v := some ⟨b, 0, none⟩) ?_
    refine W.nonnil ?_
    refine W.load (v := some ⟨p.tb, 0, none⟩) ?_
    refine W.load (v := x.ses) ?_
    refine W.call1 (sEnd_w (b := p.tb) (A := T.b.ses) (k := x.ses) (At.un ?_))
    have h1 := endS_ok (k := x.ses) (hok.conn fun y => decide (y.c ≠ c)) (hok.gone hg)
    rw [endS_eq] at hq h1
    simp only at hq h1
    refine W.cut (fun _ => turnA t b full (tB ⟨T.b.last, (endT x.ses T.b.ses).2, if (endT x.ses T.b.ses).1 = true then dropL x.ses T.b.subs else T.b.subs, T.b.kept, T.b.conns.filter fun y => decide (y.c ≠ c)⟩ T) :: cells x6 (lS4 (connT x)).toArray :: old h0 :: L2) (fun K hK => ?_) (fun _ => ?_)
    · refine W.ite (fun hd => ?_) (fun hd => ?_)
      · rw [if_pos hd] at hK
        refine W.nonnil ?_
        refine W.load (v := some ⟨b, 0, none⟩) ?_
        refine W.nonnil ?_
        refine W.load ?_
        refine W.load (v := x.ses) ?_
        refine W.call1 (trDrop_w (t := p.sb) (E := T.b.subs) (id := x.ses) ht hok.subs (At.un (W.pure ?_)))
        refine At.turn (tB ⟨T.b.last, (endT x.ses T.b.ses).2, dropL x.ses T.b.subs, T.b.kept, T.b.conns.filter fun y => decide (y.c ≠ c)⟩ T) so sp p ?_
        exact (hK ()).sub
      · rw [if_neg (by rw [hd]; decide)] at hK
        refine W.pure ?_
        refine At.turn (tB ⟨T.b.last, (endT x.ses T.b.ses).2, T.b.subs, T.b.kept, T.b.conns.filter fun y => decide (y.c ≠ c)⟩ T) so sp p ?_
        exact (hK ()).sub
    have hwx := (hok.wl x (q_d8 hg).1).1
    clear hnd hg
    generalize (if (endT x.ses T.b.ses).1 = true then dropL x.ses T.b.subs else T.b.subs) = subs' at *
    generalize (endT x.ses T.b.ses).2 = ses' at *
    generalize T.b.conns.filter (fun y => decide (y.c ≠ c)) = conns' at *
    cases will with
    | false =>
      rw [if_neg (by simp)] at hq
      exact W.bf rfl (W.bpure (W.bf rfl (W.bpure (W.pure hq.sub))))
    | true =>
      refine W.bt rfl ?_
      refine W.bbind (W.load (v := x.hasWill) ?_)
      cases hwl : x.hasWill with
      | false =>
        rw [if_neg (by simp [hwl])] at hq
        exact W.bf rfl (W.bpure (W.bf rfl (W.bpure (W.pure hq.sub))))
      | true =>
        refine W.bt rfl ?_
        refine W.bbind (W.nonnil ?_)
        refine W.opn3 (fun h R => q_ak) fun so2 sp2 p2 => ?_
        refine W.bbind (W.load (v := full) ?_)
        refine W.bpure ?_
        refine W.turn (tB ⟨T.b.last, ses', subs', T.b.kept, conns'⟩ T) so2 sp2 p2 ?_
        cases full with
        | true =>
          rw [if_neg (by simp)] at hq
          exact W.bf rfl (W.bpure (W.pure hq.sub))
        | false =>
          rw [if_pos ⟨rfl, hwl, rfl⟩] at hq
          refine W.bt rfl ?_
          refine W.bbind (W.loadNo (v := toU x.will) ?_)
          refine W.bbind (W.callN (publish_w (T := tB ⟨T.b.last, ses', subs', T.b.kept, conns'⟩ T) (m := x.will) ht h1.1 hb hp hwx (At.unN ?_)))
          exact W.bpure (W.pure hq.sub)
theorem W.pk0 {α : Type} {m : HM α} {Q' : α → Heap → Prop} {k : IntKind} (o : PkO) (hc : o.codes = []) (hp : o.props = []) (hw : W (pkB k (⟨none, 0, 0⟩, ⟨none, 0, 0⟩, o) :: L) m Q') : W L m Q' := fun h hs => hw h (pkB_none hc hp hs)
theorem refuse_w {t b : Nat} {full : Bool} {T : TurnS} {c code : Int} (ht : TP h0) (hok : BrkH T.b) (hb : T.outs.length < 50000000) (hp : T.pubs.length ≤ 1000000000)
    (hq : At (turnA t b full (refuseB full c code T) :: old h0 :: L2) (Q (.tuple #[]))) (hx : Has L (turnA t b full T) L1 := by repeat (first | with_reducible exact Go.H.has0 | apply Go.H.hasS)) (hy : Has L1 (old h0) L2 := by repeat (first | with_reducible exact Go.H.has0 | apply Go.H.hasS)) :
    FW Tryz.prog 68 #[at0 t, .int .i64 c, .int .u8 code] L Q := by
  refine fun h hs => q_fi (some ⟨t, 0, none⟩) c code h Q ((?_ : W (turnA t b full T :: old h0 :: L2) _ _) h ((hx.then hy).s hs))
  clear hs h hx hy
  unfold refuseB at hq
  unfold q_cd
  refine W.pk0 (k := .u8) (ackO 14 0 code) rfl rfl ?_
  refine W.callN (close_w (T := T) (c := c) (o := ackO 14 0 code) (ci := ⟨none, 0, 0⟩) (pi := ⟨none, 0, 0⟩) (by omega) (At.unN ?_))
  refine W.callN (end_w (T := sendB ⟨c, ackO 14 0 code, true⟩ T) (c := c) (will := true) ht hok (by show (T.outs ++ [_]).length ≤ _; rw [List.length_append]; simp only [List.length_cons, List.length_nil]; omega) hp (At.unN ?_))
  exact W.pure hq.sub
end Go.Proofs.YtidlldnlphdhcaaGreatDoor
namespace Go.Proofs.YtidlldnlphdhcaaGreatDoor
open Go.H Go.Proofs
set_option linter.unusedSimpArgs false
set_option linter.unusedVariables false
set_option maxRecDepth 100000
variable {h h0 : Heap} {L L' L1 L2 L3 R : List Asn} {Q : Value → Heap → Prop}
abbrev pkI (p : Pk) (pl : List PropT) (sl : List SubT) (fl : List ByteArray) : PkI :=
  { kind := p.1, retain := p.2.2.1, qos := p.2.2.2.1, id := p.2.2.2.2.1, topic := p.2.2.2.2.2.1, payload := p.2.2.2.2.2.2.1, code := p.2.2.2.2.2.2.2.1, props := pl,
    client := p.2.2.2.2.2.2.2.2.2.2.1, clean := p.2.2.2.2.2.2.2.2.2.2.2.1, hasWill := p.2.2.2.2.2.2.2.2.2.2.2.2.2.1,
    will := (p.2.2.2.2.2.2.2.2.2.2.2.2.2.2.1, p.2.2.2.2.2.2.2.2.2.2.2.2.2.2.2.1, p.2.2.2.2.2.2.2.2.2.2.2.2.2.2.2.2.1, p.2.2.2.2.2.2.2.2.2.2.2.2.2.2.2.2.2.1, e0S), subs := sl, filters := fl }
theorem checkName_w {s : ByteArray} (ht : TP h0) (hsz : s.size ≤ 9223372036854775807) (hq : At (old h0 :: L1) (Q (.int .u8 (nameC s)))) (hx : Has L (old h0) L1 := by repeat (first | with_reducible exact Go.H.has0 | apply Go.H.hasS)) : FW Tryz.prog 12 #[.string s] L Q := fun h hs =>
  q_c0 (hx.s hs) ht hsz fun h' hs' => hq h' hs'
theorem setS_id {k : Int} {A : List SesS} : setS k (fun s => s) A = A := by
  unfold setS
  simp
theorem ansF_bad {o : OutS} {k id c : Int} (h : (ansF o k id c).2 ≠ 0) : (ansF o k id c).1.1 = o := by
  unfold ansF at h ⊢
  split at h
  · rw [if_pos (by assumption)]
  · rw [if_neg (by assumption)]
    split at h
    · rfl
    · split at h
      · rw [if_pos (by assumption)]; split at h
        · rw [if_pos (by assumption)]
        · exact absurd rfl h
      · rw [if_neg (by assumption)]; split at h
        · rw [if_pos (by assumption)]; split at h
          · rw [if_pos (by assumption)]
          · split at h <;> exact absurd rfl h
        · rw [if_neg (by assumption)]; split at h
          · rw [if_pos (by assumption)]
          · exact absurd rfl h
theorem take_w {t b : Nat} {full : Bool} {T : TurnS} {x : ConnS} {p : Pk} {pl : List PropT} {sl : List SubT} {fl : List ByteArray} (ht : TP h0) (hok : BrkH T.b) (hc : getC x.c T.b.conns = some x) (hb : T.outs.length < 40000000) (hp : T.pubs.length ≤ 1000000000) (hsz : p.2.2.2.2.2.1.size ≤ 9223372036854775807)
    (hq : At (turnA t b full (takeB full x (pkI p pl sl fl) T) :: old h0 :: L2) (Q (.tuple #[]))) (hx : Has L (turnA t b full T) L1 := by repeat (first | with_reducible exact Go.H.has0 | apply Go.H.hasS)) (hy : Has L1 (old h0) L2 := by repeat (first | with_reducible exact Go.H.has0 | apply Go.H.hasS)) :
    FW Tryz.prog 63 #[at0 t, .int .i64 x.c, vPkK .u8 p] L Q := by
  refine fun h hs => q_g4 (some ⟨t, 0, none⟩) x.c p h Q ((?_ : W (turnA t b full T :: old h0 :: L2) _ _) h ((hx.then hy).s hs))
  clear hs h hx hy
  obtain ⟨s, hs, hid⟩ := hok.cl x (q_d8 hc).1
  unfold takeB at hq
  simp only [getS_of hok.nd hs hid] at hq
  unfold q_di
  refine W.newc fun x1 => ?_
  refine W.cutk (fun r => r.1 = (decide (p.1 = 3) && !nameOK p.2.2.2.2.2.1)) (fun K hK => ?_) (fun r hr => ?_)
  · refine W.load (v := p.1) ?_
    refine W.ite (fun h3 => ?_) (fun h3 => ?_)
    · refine W.load (v := p.2.2.2.2.2.1) ?_
      refine W.call1 (checkName_w ht hsz (At.un ?_))
      refine W.pure (At.sub (hK _ ?_))
      simp only [beq_iff_eq] at h3
      simp only [h3, decide_true, Bool.true_and]
      unfold nameC
      cases nameOK p.2.2.2.2.2.1 <;> rfl
    · refine W.pure (hK _ ?_)
      simp only [beq_eq_false_iff_ne, ne_eq] at h3
      simp [h3]
  obtain ⟨r, _⟩ := r
  simp only at hr
  subst hr
  by_cases hbad : p.1 = 3 ∧ nameOK p.2.2.2.2.2.1 = false
  · rw [if_pos hbad] at hq
    refine W.tt (by simp [hbad.1, hbad.2]) ?_
    refine W.callN (refuse_w (T := T) (c := x.c) (code := 144) ht hok (by omega) hp (At.unN ?_))
    exact W.pure hq.sub
  rw [if_neg hbad] at hq
  refine W.ff (by
    by_cases e : p.1 = 3
    · have : nameOK p.2.2.2.2.2.1 = true := by
        cases hn : nameOK p.2.2.2.2.2.1
        · exact absurd ⟨e, hn⟩ hbad
        · rfl
      simp [this]
    · simp [e]) ?_
  refine W.nonnil ?_
  refine W.opn3 (fun h R => q_ak) fun so sp q => ?_
  refine W.load (v := full) ?_
  refine W.cutk (fun r => r.1 = if full = true then 151 else 0) (fun K hK => W.ite (fun e => W.pure (hK _ (if_pos e).symm)) (fun e => W.pure (hK _ (if_neg (by simp [e])).symm))) (fun r hr => ?_)
  obtain ⟨why, _⟩ := r
  simp only at hr
  rw [← hr] at hq
  clear hr hbad
  refine W.nonnil ?_
  refine W.load (v := some ⟨b, 0, none⟩) ?_
  refine W.nonnil ?_
  refine W.load (v := some q.cm) ?_
  refine W.lookup (kind := .agg tC) kKI x.c ?_
  rw [q_d2, hc]
  refine W.nonnil ?_
  refine W.load (v := some ⟨b, 0, none⟩) ?_
  refine W.nonnil ?_
  refine W.load (v := some ⟨q.tb, 0, none⟩) ?_
  refine W.loadN (v := p) ?_
  refine W.opn2 (fun h R => q_hh hs h R) fun ob ib => ?_
  refine W.call1 (In_w2 (k := x.ses) hid (At.un ?_))
  refine W.loadN (v := p) ?_
  refine W.req ?_ rfl
  refine W.callN (inTake_w (f := ib) (s := s.inn) (p := p) (why := why) (fun S => At.unN (x := ((takeR s.inn p.1 p.2.2.2.1 p.2.2.2.2.1 why).1, S, (takeR s.inn p.1 p.2.2.2.1 p.2.2.2.2.1 why).2.2.1, ())) ?_))
  generalize hR : takeR s.inn p.1 p.2.2.2.1 p.2.2.2.2.1 why = r at hq ⊢
  refine W.cls3 (A := tabB q.tb T.b.last (setS x.ses (setInn ⟨s.inn.most, s.inn.taken, r.2.2.2⟩) T.b.ses)) (fun h hs' => tabH_inn hok.nd hs hid h hs') ?_
  refine W.turn (tSes (setS x.ses (setInn ⟨s.inn.most, s.inn.taken, r.2.2.2⟩) T.b.ses) T) so sp q ?_
  have hok1 : BrkH (tSes (setS x.ses (setInn ⟨s.inn.most, s.inn.taken, r.2.2.2⟩) T.b.ses) T).b := hok.setI
  by_cases hcode : r.2.2.1 = 0
  · rw [if_neg (by simpa using hcode)] at hq
    refine W.ff (by simp [hcode]) ?_
    have hal : (ackL r.2.1 p.2.2.2.2.1).length ≤ 1 := by unfold ackL; split <;> simp
    refine W.callN (q_dy (T := (tSes (setS x.ses (setInn ⟨s.inn.most, s.inn.taken, r.2.2.2⟩) T.b.ses) T)) (id := x.ses) (ps := ackL r.2.1 p.2.2.2.2.1) (hok.one x.ses) (by simp only; omega) (At.unN ?_))
    have htl : (T.outs ++ toSes T.b.conns x.ses (ackL r.2.1 p.2.2.2.2.1)).length ≤ 50000000 := by
      rw [List.length_append]; have := toSes_len (ackL r.2.1 p.2.2.2.2.1) (hok.one x.ses); omega
    cases hf : r.1 with
    | false =>
      rw [if_neg (by simp [hf])] at hq
      exact W.bf rfl (W.bpure (W.bf rfl (W.bpure (W.pure hq.sub))))
    | true =>
      refine W.bt rfl ?_
      refine W.bbind (W.nonnil ?_)
      refine W.opn3 (fun h R => q_ak) fun so2 sp2 p2 => ?_
      refine W.bbind (W.load (v := full) ?_)
      refine W.bpure ?_
      refine W.turn (sendAllB x.ses (ackL r.2.1 p.2.2.2.2.1) (tSes (setS x.ses (setInn ⟨s.inn.most, s.inn.taken, r.2.2.2⟩) T.b.ses) T)) so2 sp2 p2 ?_
      cases full with
      | true =>
        rw [if_neg (by simp)] at hq
        exact W.bf rfl (W.bpure (W.pure hq.sub))
      | false =>
        rw [if_pos ⟨hf, rfl⟩] at hq
        refine W.bt rfl ?_
        refine W.bbind (W.load (v := p.2.2.2.2.2.1) ?_)
        refine W.bbind (W.load (v := p.2.2.2.2.2.2.1) ?_)
        refine W.bbind (W.load (v := p.2.2.2.1) ?_)
        refine W.bbind (W.load (v := p.2.2.1) ?_)
        refine W.bbind (W.callN (publish_w (m := (p.2.2.2.2.2.1, p.2.2.2.2.2.2.1, p.2.2.2.1, p.2.2.1, e0S)) (T := sendAllB x.ses (ackL r.2.1 p.2.2.2.2.1) (tSes (setS x.ses (setInn ⟨s.inn.most, s.inn.taken, r.2.2.2⟩) T.b.ses) T)) ht hok1 htl hp hsz (At.unN ?_)))
        exact W.bpure (W.pure hq.sub)
  · rw [if_pos (by simpa using hcode)] at hq
    refine W.tt (by simp [hcode]) ?_
    refine W.callN (refuse_w (T := (tSes (setS x.ses (setInn ⟨s.inn.most, s.inn.taken, r.2.2.2⟩) T.b.ses) T)) (c := x.c) (code := r.2.2.1) ht hok1 (by simp only; omega) hp (At.unN ?_))
    exact W.pure hq.sub
theorem answer_w {t b : Nat} {full : Bool} {T : TurnS} {x : ConnS} {p : Pk} {pl : List PropT} {sl : List SubT} {fl : List ByteArray} (ht : TP h0) (hok : BrkH T.b) (hc : getC x.c T.b.conns = some x) (hb : T.outs.length < 40000000) (hp : T.pubs.length ≤ 1000000000)
    (hq : At (turnA t b full (answerB full x (pkI p pl sl fl) T) :: old h0 :: L2) (Q (.tuple #[]))) (hx : Has L (turnA t b full T) L1 := by repeat (first | with_reducible exact Go.H.has0 | apply Go.H.hasS)) (hy : Has L1 (old h0) L2 := by repeat (first | with_reducible exact Go.H.has0 | apply Go.H.hasS)) :
    FW Tryz.prog 64 #[at0 t, .int .i64 x.c, vPkK .u8 p] L Q := by
  refine fun h hs => q_fk (some ⟨t, 0, none⟩) x.c p h Q ((?_ : W (turnA t b full T :: old h0 :: L2) _ _) h ((hx.then hy).s hs))
  clear hs h hx hy
  obtain ⟨s, hs, hid⟩ := hok.cl x (q_d8 hc).1
  unfold answerB outOp at hq
  simp only [getS_of hok.nd hs hid] at hq
  have hfo := ansF_ok (hok.flow s hs) p.1 p.2.2.2.2.1 p.2.2.2.2.2.2.2.1
  have hfb := ansF_bad (o := s.out) (k := p.1) (id := p.2.2.2.2.1) (c := p.2.2.2.2.2.2.2.1)
  unfold q_cf
  refine W.newc fun x1 => ?_
  refine W.nonnil ?_
  refine W.opn3 (fun h R => q_ak) fun so sp q => ?_
  refine W.load (v := some ⟨b, 0, none⟩) ?_
  refine W.nonnil ?_
  refine W.load (v := some q.cm) ?_
  refine W.lookup (kind := .agg tC) kKI x.c ?_
  rw [q_d2, hc]
  refine W.nonnil ?_
  refine W.load (v := some ⟨b, 0, none⟩) ?_
  refine W.nonnil ?_
  refine W.load (v := some ⟨q.tb, 0, none⟩) ?_
  refine W.loadN (v := p) ?_
  refine W.opn2 (fun h R => q_hh hs h R) fun ob ib => ?_
  refine W.call1 (Out_w2 (k := x.ses) hid (At.un ?_))
  refine W.loadN (v := p) ?_
  refine W.req ?_ rfl
  refine W.callN (oans_w (b := ob) (o := s.out) (p := p) (hok.flow s hs) (fun S => At.unN (x := (S, (ansF s.out p.1 p.2.2.2.2.1 p.2.2.2.2.2.2.2.1).2, ())) ?_))
  generalize ansF s.out p.1 p.2.2.2.2.1 p.2.2.2.2.2.2.2.1 = r at hq hfo hfb ⊢
  refine W.cls3 (A := tabB q.tb T.b.last (setS x.ses (setOut r.1.1) T.b.ses)) (fun h hs' => q_ia hok.nd hs hid h hs') ?_
  by_cases hcode : r.2 = 0
  · rw [if_neg (by simpa using hcode)] at hq
    refine W.turn (tSes (setS x.ses (setOut r.1.1) T.b.ses) T) so sp q ?_
    refine W.ff (by simp [hcode]) ?_
    refine W.callN (q_dy (T := (tSes (setS x.ses (setOut r.1.1) T.b.ses) T)) (id := x.ses) (ps := r.1.2) (hok.one x.ses) (by have := hfo.2; simp only; omega) (At.unN ?_))
    exact W.pure hq.sub
  · rw [if_pos (by simpa using hcode)] at hq
    have e1 : setS x.ses (setOut r.1.1) T.b.ses = T.b.ses := by
      rw [hfb hcode, setS_congr (f := setOut s.out) (g := fun s => s) hok.nd hs hid rfl, setS_id]
    rw [e1]
    refine W.turn T so sp q ?_
    refine W.tt (by simp [hcode]) ?_
    refine W.callN (refuse_w (T := T) (c := x.c) (code := r.2) ht hok (by omega) hp (At.unN ?_))
    exact W.pure hq.sub
end Go.Proofs.YtidlldnlphdhcaaGreatDoor
namespace Go.Proofs.YtidlldnlphdhcaaGreatDoor
open Go.H Go.Proofs
set_option linter.unusedSimpArgs false
set_option linter.unusedVariables false
theorem addE_zero {E : List Ent} {id q : Int} {f : ByteArray} (h : (addE E id f q).1 = 0) : 0 ≤ q ∧ q ≤ 2 := by
  unfold addE at h
  split at h
  · cases h
  · split at h
    · cases h
    · omega
theorem addE_mem {E : List Ent} {id q : Int} {f : ByteArray} : (addE E id f q).2.length ≤ E.length + 1 ∧ ∀ e ∈ (addE E id f q).2, e ∈ E ∨ e.1 = id := by
  unfold addE
  split
  · exact ⟨Nat.le_succ _, fun e he => .inl he⟩
  · split
    · exact ⟨Nat.le_succ _, fun e he => .inl he⟩
    · split
      · refine ⟨by simp, fun e he => ?_⟩
        rcases List.mem_or_eq_of_mem_set he with he | rfl
        · exact .inl he
        · exact .inr rfl
      · split
        · exact ⟨Nat.le_succ _, fun e he => .inl he⟩
        · have hp := q_c4 ltK keyE (id, f, q) E
          refine ⟨by rw [hp.length_eq]; simp, fun e he => ?_⟩
          rcases List.mem_cons.1 (hp.mem_iff.1 he) with rfl | he
          · exact .inr rfl
          · exact .inl he
theorem BrkH.addS {B : BrkS} (h : BrkH B) {E : List Ent} (hl : E.length ≤ 10000) (hm : ∀ e ∈ E, e ∈ B.subs ∨ ∃ s ∈ B.ses, s.id = e.1) : BrkH (bSubs E B) where
  subs := hl
  flow := h.flow
  live := fun e he => by
    rcases hm e he with he | he
    · exact h.live e he
    · exact he
  one := h.one
  nd := h.nd
  cl := h.cl
  onl := h.onl
  wl := h.wl
theorem addAll_len {id : Int} : ∀ (l : List SubT) {E : List Ent}, (addAll id l E).1.length ≤ E.length + l.length ∧ (∀ e ∈ (addAll id l E).1, e ∈ E ∨ e.1 = id) ∧ (addAll id l E).2.length = l.length ∧ (added id l E).length ≤ l.length
  | [], E => ⟨Nat.le_refl _, fun e he => .inl he, rfl, Nat.le_refl _⟩
  | s :: l, E => by
    have h1 := addE_mem (E := E) (id := id) (f := s.1) (q := s.2.1)
    obtain ⟨h2, h3, h4, h5⟩ := addAll_len (id := id) l (E := (addE E id s.1 s.2.1).2)
    unfold addAll added
    refine ⟨?_, fun e he => ?_, ?_, ?_⟩
    · simp only [List.length_cons]; omega
    · rcases h3 e he with he | he
      · exact h1.2 e he
      · exact .inr he
    · simp only [List.length_cons, h4]
    · rw [List.length_append]
      split <;> simp only [List.length_cons, List.length_nil] <;> omega
theorem added_mem {id : Int} : ∀ (l : List SubT) {E : List Ent} {s : SubT}, s ∈ added id l E → s ∈ l
  | [], _, _, h => by cases h
  | x :: l, E, s, h => by
    unfold added at h
    rcases List.mem_append.1 h with h | h
    · split at h
      · rw [List.mem_singleton.1 h]; exact List.mem_cons_self ..
      · cases h
    · exact List.mem_cons_of_mem _ (added_mem l h)
theorem delL_len {E : List Ent} {k : Int} {f : ByteArray} : (delL E k f).length ≤ E.length := List.length_filter_le _ _
theorem keptOne_ok {id : Int} {s : SubT} (T : TurnS) (m : MsgT) (h : BrkH T.b) : Beside T (keptOne id s T m) 320 := outOp_ok h fun o ho => ⟨(q_ic ho _).1, by have := (q_ic ho (m.1, m.2.1, min m.2.2.1 s.2.1, true, e0S)).2; omega⟩
theorem outOp_kept {id : Int} {f : OutS → OutS × List PkO} {T : TurnS} : (outOp id f T).b.kept = T.b.kept := by
  unfold outOp; split <;> rfl
theorem outOp_ids {id : Int} {f : OutS → OutS × List PkO} {T : TurnS} : (outOp id f T).b.ses.map (·.id) = T.b.ses.map (·.id) := by
  unfold outOp
  split
  · rfl
  · rename_i s _
    exact q_ib (f := setOut (f s.out).1) (fun _ => rfl) _
theorem keptSub_ok {id : Int} (T : TurnS) (s : SubT) (hk : T.b.kept.length ≤ 64) (h : BrkH T.b) : Beside T (keptSub id T s) 20480 := by
  unfold keptSub
  split
  · exact (Beside.refl h).mono (by omega)
  · refine (fold_ok (keptOne_ok (id := id) (s := s)) (hitR T.b.kept s.1) h).mono ?_
    have : (hitR T.b.kept s.1).length ≤ T.b.kept.length := List.length_filter_le _ _
    omega
theorem keptSub_kept {id : Int} (T : TurnS) (s : SubT) : (keptSub id T s).b.kept = T.b.kept := by
  unfold keptSub
  split
  · rfl
  · have : ∀ (l : List MsgT) (T : TurnS), (l.foldl (keptOne id s) T).b.kept = T.b.kept := by
      intro l
      induction l with
      | nil => intro T; rfl
      | cons m l ih => intro T; exact (ih _).trans outOp_kept
    exact this _ T
theorem keptSub_ids {id : Int} (T : TurnS) (s : SubT) : (keptSub id T s).b.ses.map (·.id) = T.b.ses.map (·.id) := by
  unfold keptSub
  split
  · rfl
  · have : ∀ (l : List MsgT) (T : TurnS), (l.foldl (keptOne id s) T).b.ses.map (·.id) = T.b.ses.map (·.id) := by
      intro l
      induction l with
      | nil => intro T; rfl
      | cons m l ih => intro T; exact (ih _).trans outOp_ids
    exact this _ T
theorem has_ses {A B : List SesS} (h : A.map (·.id) = B.map (·.id)) {s : SesS} {k : Int} (hs : s ∈ B) (hk : s.id = k) : ∃ s' ∈ A, s'.id = k := by
  have h1 : k ∈ B.map (·.id) := hk ▸ List.mem_map_of_mem hs
  rw [← h] at h1
  obtain ⟨s', h2, h3⟩ := List.mem_map.1 h1
  exact ⟨s', h2, h3⟩
theorem foldSub_ok {id : Int} : ∀ (l : List SubT) {T : TurnS}, T.b.kept.length ≤ 64 → BrkH T.b → Beside T (l.foldl (keptSub id) T) (l.length * 20480)
  | [], T, _, h => (Beside.refl h).mono (by simp)
  | s :: l, T, hk, h => ((keptSub_ok T s hk h).trans (foldSub_ok l (by rw [keptSub_kept]; exact hk) (keptSub_ok T s hk h).ok)).mono (by rw [List.length_cons, Nat.succ_mul]; omega)
end Go.Proofs.YtidlldnlphdhcaaGreatDoor
namespace Go.Proofs.YtidlldnlphdhcaaGreatDoor
open Go.H Go.Proofs
set_option linter.unusedSimpArgs false
set_option linter.unusedVariables false
set_option maxRecDepth 100000
variable {h h0 : Heap} {L L' L1 L2 L3 R : List Asn} {Q : Value → Heap → Prop}
abbrev encSb (s : SubT) : List Value := [.string s.1, .int .i64 s.2.1, .bool s.2.2.1, .bool s.2.2.2.1, .int .i64 s.2.2.2.2]
instance : Enc encSb 5 := ⟨fun _ => rfl, fun x v hv => by
  have : (encSb x).all (fun v => v.oneCell') = true := rfl
  exact List.all_eq_true.1 this v hv, by decide⟩
abbrev sbU (s : SubT) : ByteArray × Int × Bool × Bool × Int × Unit := (s.1, s.2.1, s.2.2.1, s.2.2.2.1, s.2.2.2.2, ())
abbrev pSubs (p : Pk) : Slc := p.2.2.2.2.2.2.2.2.2.2.2.2.2.2.2.2.2.2.2.2.2.2.2.2.1
theorem wrap_u8i {q : Int} (h0 : 0 ≤ q) (h1 : q ≤ 255) : IntKind.wrap .u8 q = q := by
  simp [IntKind.wrap, IntKind.bits, IntKind.signed]; omega
theorem kept_len {b : Nat} {K : List MsgT} (hs : sat h (keptA b K :: R)) : K.length ≤ 64 := by
  obtain ⟨l, hl, _⟩ := q_fh.1 hs
  exact (hl.lenL (by decide)).2
set_option maxHeartbeats 4000000 in
theorem subscribe_w {t b : Nat} {full : Bool} {T : TurnS} {x : ConnS} {p : Pk} {pl : List PropT} {sl : List SubT} {fl : List ByteArray} (ht : TP h0) (hok : BrkH T.b) (hc : getC x.c T.b.conns = some x) (hb : T.outs.length ≤ 10000000) (hE : T.b.subs.length + sl.length ≤ 10000) (hn : sl.length ≤ 100)
    (hsz : ∀ s ∈ sl, s.1.size ≤ 9223372036854775807)
    (hq : At (turnA t b full (subscribeB x (pkI p pl sl fl) T) :: old h0 :: L3) (Q (.tuple #[]))) (hx : Has L (turnA t b full T) L1 := by repeat (first | with_reducible exact Go.H.has0 | apply Go.H.hasS)) (hy : Has L1 (old h0) L2 := by repeat (first | with_reducible exact Go.H.has0 | apply Go.H.hasS)) (hz : Has L2 (ownS encSb 5 (pSubs p) sl) L3 := by repeat (first | with_reducible exact Go.H.has0 | apply Go.H.hasS)) :
    FW Tryz.prog 65 #[at0 t, .int .i64 x.c, vPkK .u8 p] L Q := by
  refine fun h hs => q_eb (some ⟨t, 0, none⟩) x.c p h Q ((?_ : W (turnA t b full T :: old h0 :: ownS encSb 5 (pSubs p) sl :: L3) _ _) h ((hx.then3 hy hz).s hs))
  clear hs h hx hy hz
  obtain ⟨sx, hsx, hidx⟩ := hok.cl x (q_d8 hc).1
  unfold subscribeB at hq
  simp only at hq
  obtain ⟨EF, hEF⟩ : ∃ EF, EF = (addAll x.ses sl T.b.subs).1 := ⟨_, rfl⟩
  obtain ⟨CF, hCF⟩ : ∃ CF, CF = (addAll x.ses sl T.b.subs).2 := ⟨_, rfl⟩
  obtain ⟨AF, hAF⟩ : ∃ AF, AF = added x.ses sl T.b.subs := ⟨_, rfl⟩
  have hAm : ∀ s ∈ AF, s ∈ sl := fun s hs => by rw [hAF] at hs; exact added_mem sl hs
  have hAl : AF.length ≤ 100 := by rw [hAF]; exact Nat.le_trans (addAll_len sl).2.2.2 hn
  rw [← hEF, ← hCF, ← hAF] at hq
  unfold q_bj
  refine W.newc fun x1 => ?_
  refine W.nonnil ?_
  refine W.opn3 (fun h R => q_ak) fun so sp q => ?_
  refine W.load (v := some ⟨b, 0, none⟩) ?_
  refine W.nonnil ?_
  refine W.load (v := some q.cm) ?_
  refine W.fact (fun h R hs => kept_len (b := q.kb) (K := T.b.kept) hs) fun hkl => ?_
  refine W.lookup (kind := .agg tC) kKI x.c ?_
  rw [q_d2, hc]
  refine W.load (v := p.2.2.2.2.1) ?_
  refine W.newc fun x8 => ?_
  refine W.storeN ?_
  refine W.load (v := pSubs p) ?_
  refine W.turn T so sp q ?_
  refine W.nils encSb 5 ?_
  refine W.nils (eKd .u8) 1 ?_
  refine W.cells (b := x8) (encPkK .u8 (pkT (ackO 9 (p.2.2.2.2.1) 0) ⟨none, 0, 0⟩ ⟨none, 0, 0⟩)).toArray ?_
  refine W.fact (own_len' (enc := encSb) (size := 5) (s := pSubs p) (xs := sl)) fun hl => ?_
  refine W.loop (γ := Nat × List Ent × List Int × List SubT × Slc) (fun g s => s.2.1 = (g.1 : Int) ∧ g.1 ≤ sl.length ∧ BrkH (bSubs g.2.1 T.b) ∧ g.2.1.length ≤ T.b.subs.length + g.1 ∧ (addAll x.ses (sl.drop g.1) g.2.1).1 = EF ∧ g.2.2.1 ++ (addAll x.ses (sl.drop g.1) g.2.1).2 = CF ∧ g.2.2.2.1 ++ added x.ses (sl.drop g.1) g.2.1 = AF ∧ g.2.2.1.length = g.1 ∧ g.2.2.2.1.length ≤ g.1)
    (fun g s => turnA t b full (tSubs g.2.1 T) :: ownS encSb 5 s.1 g.2.2.2.1 :: ownS (eKd .u8) 1 g.2.2.2.2 g.2.2.1 :: cells x8 (encPkK .u8 (pkT (ackO 9 (p.2.2.2.2.1) 0) g.2.2.2.2 ⟨none, 0, 0⟩)).toArray :: ownS encSb 5 (pSubs p) sl :: old h0 :: L3)
    (fun g => sl.length - g.1) (0, T.b.subs, [], [], ⟨none, 0, 0⟩) ⟨rfl, Nat.zero_le _, hok, Nat.le_refl _, hEF.symm, hCF.symm, hAF.symm, rfl, Nat.le_refl _⟩ ?_ ?_
  · show Sub _ (turnA t b full T :: ownS encSb 5 ⟨none, 0, 0⟩ ([] : List SubT) :: ownS (eKd .u8) 1 ⟨none, 0, 0⟩ ([] : List Int) :: cells x8 (encPkK .u8 (pkT (ackO 9 (p.2.2.2.2.1) 0) ⟨none, 0, 0⟩ ⟨none, 0, 0⟩)).toArray :: ownS encSb 5 (pSubs p) sl :: old h0 :: L3)
    repeat (first | with_reducible exact Go.H.Sub.rfl | with_reducible exact Go.H.Sub.nil | refine Go.H.Sub.cons (by repeat (first | with_reducible exact Go.H.has0 | apply Go.H.hasS)) ?_ | refine Go.H.Sub.drop ?_)
  rintro ⟨i, E, cs, A, cS⟩ s ⟨hi, hil, hokE, hEl, hE1, hC1, hA1, hcl, hal⟩ K k1 k2
  simp only at hi hil hokE hEl hE1 hC1 hA1 hcl hal
  by_cases hlt : i < sl.length
  · refine W.tt (by rw [hi, hl]; exact decide_eq_true (by omega)) ?_
    have hdrop : sl.drop i = sl[i] :: sl.drop (i + 1) := List.drop_eq_getElem_cons hlt
    have hgi : sl[i]? = some sl[i] := List.getElem?_eq_getElem hlt
    have hmem : sl[i] ∈ sl := List.getElem_mem hlt
    rw [hdrop] at hE1 hC1 hA1
    generalize sl[i] = u at hgi hmem hE1 hC1 hA1
    clear hdrop
    refine W.idx (enc := encSb) (xs := sl) (i := i) hlt (fun a ha => ?_) (he := hi)
    refine W.loadeN (x := u) (v := sbU u) ha hgi ?_
    refine W.newc fun x14 => ?_
    refine W.storeN ?_
    refine W.nonnil ?_
    refine W.opn3 (fun h R => q_ak) fun so sp q => ?_
    refine W.load (v := some ⟨b, 0, none⟩) ?_
    refine W.nonnil ?_
    refine W.load ?_
    refine W.load (v := u.1) ?_
    refine W.load (v := u.2.1) ?_
    refine W.call1 (trAdd_w (t := q.sb) (E := E) (id := x.ses) (q := u.2.1) (f := u.1) ht (hsz u hmem) (by omega) (At.un ?_))
    have hm := addE_mem (E := E) (id := x.ses) (f := u.1) (q := u.2.1)
    have h0q := addE_zero (E := E) (id := x.ses) (f := u.1) (q := u.2.1)
    unfold addAll at hE1 hC1
    unfold added at hA1
    simp only at hE1 hC1 hA1
    generalize addE E x.ses u.1 u.2.1 = r at hm h0q hE1 hC1 hA1 ⊢
    refine W.turn (tSubs r.2 T) so sp q ?_
    refine W.cutp (fun a => a.2.1 = if r.1 = 0 then u.2.1 else r.1) (fun a => turnA t b full (tSubs r.2 T) :: ownS encSb 5 a.1 (A ++ if r.1 = 0 then [u] else []) :: ownS (eKd .u8) 1 cS cs :: cells x8 (encPkK .u8 (pkT (ackO 9 (p.2.2.2.2.1) 0) cS ⟨none, 0, 0⟩)).toArray :: ownS encSb 5 (pSubs p) sl :: old h0 :: L3) (fun K2 hK2 => ?_) (fun a hpa => ?_)
    · by_cases hr : r.1 = 0
      · refine W.tt (by simpa using hr) ?_
        rw [if_pos hr, if_pos hr] at hK2
        refine W.loadN (v := sbU u) ?_
        refine W.app1 (enc := encSb) (xs := A) (s := s.1) u (fun s' => ?_) (by omega)
        refine W.load (v := u.2.1) ?_
        exact W.pure (hK2 (s', IntKind.wrap .u8 u.2.1, ()) (wrap_u8i (h0q hr).1 (by have := (h0q hr).2; omega))).sub
      · refine W.ff (by simpa using hr) ?_
        rw [if_neg hr, if_neg hr, List.append_nil] at hK2
        exact W.pure (hK2 (s.1, r.1, ()) rfl).sub
    · refine W.load (v := cS) ?_
      refine W.app1 (enc := eKd .u8) (xs := cs) (s := cS) a.2.1 (fun s' => ?_) (by omega)
      refine W.store (cs' := (encPkK .u8 (pkT (ackO 9 (p.2.2.2.2.1) 0) s' ⟨none, 0, 0⟩)).toArray) ?_
      have hE' : r.2.length ≤ T.b.subs.length + (i + 1) := by have := hm.1; omega
      refine W.pure (At.sub (k1 (i + 1, r.2, cs ++ [a.2.1], A ++ (if r.1 = 0 then [u] else []), s') (a.1, IntKind.wrap .i64 (s.2.1 + 1), ()) (by simp only; omega) ⟨?_, hlt, ?_, hE', hE1, ?_, ?_, ?_, ?_⟩) ?_)
      · simp only [hi]; rw [q_al (by omega) (by omega)]; rfl
      · exact hokE.addS (by show r.2.length ≤ 10000; omega) fun e he => by
          rcases hm.2 e he with he | he
          · exact .inl he
          · exact .inr ⟨sx, hsx, hidx.trans he.symm⟩
      · rw [hpa, List.append_assoc]; exact hC1
      · rw [List.append_assoc]; exact hA1
      · simp [hcl]
      · simp only [List.length_append]; split <;> simp <;> omega
      · repeat (first | with_reducible exact Go.H.Sub.rfl | with_reducible exact Go.H.Sub.nil | refine Go.H.Sub.cons (by repeat (first | with_reducible exact Go.H.has0 | apply Go.H.hasS)) ?_ | refine Go.H.Sub.drop ?_)
  · refine W.ff (by rw [hi, hl]; exact decide_eq_false (by omega)) (W.pure (k2 _ _ ?_))
    have hie : i = sl.length := by omega
    subst hie
    rw [List.drop_length] at hE1 hC1 hA1
    simp only [addAll, added, List.append_nil] at hE1 hC1 hA1
    subst hE1 hC1 hA1
    clear k1 k2 hCF hAF hEF
    refine W.loadN (v := pkT (ackCs 9 (p.2.2.2.2.1) cs) cS ⟨none, 0, 0⟩) ?_
    refine W.nils encPr 4 ?_
    refine W.cls2 (A := pkB .u8 (cS, ⟨none, 0, 0⟩, ackCs 9 (p.2.2.2.2.1) cs)) (B := ownS (eKd .u8) 1 cS cs) (C := ownS encPr 4 ⟨none, 0, 0⟩ ([] : List PropT)) (fun h hs => pkB_iff.2 hs) ?_
    refine W.callN (send_w (T := tSubs E T) (c := x.c) (o := ackCs 9 (p.2.2.2.2.1) cs) (ci := cS) (pi := ⟨none, 0, 0⟩) (by show T.outs.length ≤ _; omega) (At.unN ?_))
    obtain ⟨T1, hT1⟩ : ∃ T1, T1 = sendB ⟨x.c, ackCs 9 (p.2.2.2.2.1) cs, false⟩ (tSubs E T) := ⟨_, rfl⟩
    have hok1 : BrkH T1.b := by rw [hT1]; exact hokE
    have hk1 : T1.b.kept = T.b.kept := by rw [hT1]
    have hi1 : T1.b.ses.map (·.id) = T.b.ses.map (·.id) := by rw [hT1]
    have hb1 : T1.outs.length ≤ 10000001 := by rw [hT1]; show (T.outs ++ [_]).length ≤ _; rw [List.length_append]; simp only [List.length_cons, List.length_nil]; omega
    rw [← hT1] at hq ⊢
    clear hT1
    obtain ⟨aS, i0, _⟩ := s
    simp only
    refine W.fact (own_len' (enc := encSb) (size := 5) (s := aS) (xs := A)) fun hl2 => ?_
    refine W.loop (γ := Nat × TurnS) (fun g s => s.1 = (g.1 : Int) ∧ g.1 ≤ A.length ∧ BrkH g.2.b ∧ g.2.b.kept = T.b.kept ∧ g.2.b.ses.map (·.id) = T.b.ses.map (·.id) ∧ (A.drop g.1).foldl (keptSub x.ses) g.2 = A.foldl (keptSub x.ses) T1 ∧ g.2.outs.length ≤ 10000001 + 20480 * g.1)
      (fun g s => turnA t b full g.2 :: ownS encSb 5 aS A :: old h0 :: L3) (fun g => A.length - g.1) (0, T1) ⟨rfl, Nat.zero_le _, hok1, hk1, hi1, rfl, hb1⟩ ?_ ?_
    · show Sub _ (turnA t b full T1 :: ownS encSb 5 aS A :: old h0 :: L3)
      repeat (first | with_reducible exact Go.H.Sub.rfl | with_reducible exact Go.H.Sub.nil | refine Go.H.Sub.cons (by repeat (first | with_reducible exact Go.H.has0 | apply Go.H.hasS)) ?_ | refine Go.H.Sub.drop ?_)
    rintro ⟨j, T2⟩ s2 ⟨hj, hjl, hok2, hk2, hi2, hf2, hb2⟩ K2 m1 m2
    simp only at hj hjl hok2 hk2 hi2 hf2 hb2
    by_cases hlt2 : j < A.length
    · refine W.tt (by rw [hj, hl2]; exact decide_eq_true (by omega)) ?_
      have hdrop : A.drop j = A[j] :: A.drop (j + 1) := List.drop_eq_getElem_cons hlt2
      have hgj : A[j]? = some A[j] := List.getElem?_eq_getElem hlt2
      have hmem : A[j] ∈ A := List.getElem_mem hlt2
      rw [hdrop, List.foldl_cons] at hf2
      generalize A[j] = u at hgj hmem hf2
      have hku := keptSub_ok (id := x.ses) T2 u (by rw [hk2]; exact hkl) hok2
      have hnext : At (turnA t b full (keptSub x.ses T2 u) :: ownS encSb 5 aS A :: old h0 :: L3) (K2 (.inl (IntKind.wrap .i64 (s2.1 + 1), ()))) := by
        refine m1 (j + 1, keptSub x.ses T2 u) (IntKind.wrap .i64 (s2.1 + 1), ()) (by simp only; omega) ⟨?_, hlt2, hku.ok, (keptSub_kept T2 u).trans hk2, (keptSub_ids T2 u).trans hi2, hf2, ?_⟩
        · simp only [hj]; rw [q_al (by omega) (by omega)]; rfl
        · have := hku.outs; simp only; omega
      clear m1 m2 hf2
      refine W.bbind (W.idx (enc := encSb) (xs := A) (i := j) hlt2 (fun a ha => ?_) (he := hj))
      refine W.bbind (W.loadeN (x := u) (v := sbU u) ha hgj ?_)
      refine W.bbind (W.newc fun x37 => ?_)
      refine W.bbind (W.storeN ?_)
      refine W.bbind (W.load (v := u.2.2.2.2) ?_)
      by_cases h2 : u.2.2.2.2 = 2
      · refine W.bt (by simpa using h2) ?_
        have e : keptSub x.ses T2 u = T2 := if_pos h2
        rw [e] at hnext
        exact W.bpure (W.pure hnext.sub)
      · refine W.bf (by simpa using h2) ?_
        have e : keptSub x.ses T2 u = (hitR T2.b.kept u.1).foldl (keptOne x.ses u) T2 := if_neg h2
        rw [e] at hnext
        refine W.bbind (W.nonnil ?_)
        refine W.opn3 (fun h R => q_ak) fun so sp q => ?_
        refine W.bbind (W.load (v := some ⟨b, 0, none⟩) ?_)
        refine W.bbind (W.nonnil ?_)
        refine W.bbind (W.load ?_)
        refine W.bbind (W.load (v := u.1) ?_)
        refine W.bbind (W.call1 (kMatch_w (b := q.kb) (K := T2.b.kept) (f := u.1) ht (hsz u (hAm u hmem)) (fun S => At.un (x := S) ?_)))
        refine W.turn T2 so sp q ?_
        have hhl : (hitR T2.b.kept u.1).length ≤ 64 := Nat.le_trans (List.length_filter_le _ _) (by rw [hk2]; exact hkl)
        generalize hitR T2.b.kept u.1 = M at hhl hnext ⊢
        refine W.fact (own_len' (enc := encG) (size := 3) (s := S) (xs := M)) fun hl3 => ?_
        refine W.bbind (W.loop (γ := Nat × TurnS) (fun g s => s.1 = (g.1 : Int) ∧ g.1 ≤ M.length ∧ BrkH g.2.b ∧ g.2.b.ses.map (·.id) = T.b.ses.map (·.id) ∧ (M.drop g.1).foldl (keptOne x.ses u) g.2 = M.foldl (keptOne x.ses u) T2 ∧ g.2.outs.length ≤ 20000000 + 320 * g.1)
          (fun g s => turnA t b full g.2 :: ownS encG 3 S M :: cells x37 (encSb u).toArray :: ownS encSb 5 aS A :: old h0 :: L3) (fun g => M.length - g.1) (0, T2) ⟨rfl, Nat.zero_le _, hok2, hi2, rfl, by simp only; omega⟩ ?_ ?_)
        · show Sub _ (turnA t b full T2 :: ownS encG 3 S M :: cells x37 (encSb u).toArray :: ownS encSb 5 aS A :: old h0 :: L3)
          repeat (first | with_reducible exact Go.H.Sub.rfl | with_reducible exact Go.H.Sub.nil | refine Go.H.Sub.cons (by repeat (first | with_reducible exact Go.H.has0 | apply Go.H.hasS)) ?_ | refine Go.H.Sub.drop ?_)
        rintro ⟨l, T3⟩ s3 ⟨hll, hlm, hok3, hi3, hf3, hb3⟩ K3 n1 n2
        simp only at hll hlm hok3 hi3 hf3 hb3
        by_cases hlt3 : l < M.length
        · refine W.tt (by rw [hll, hl3]; exact decide_eq_true (by omega)) ?_
          have hdrop3 : M.drop l = M[l] :: M.drop (l + 1) := List.drop_eq_getElem_cons hlt3
          have hgl : M[l]? = some M[l] := List.getElem?_eq_getElem hlt3
          rw [hdrop3, List.foldl_cons] at hf3
          generalize M[l] = m at hgl hf3
          have hko := keptOne_ok (id := x.ses) (s := u) T3 m hok3
          have hnext3 : At (turnA t b full (keptOne x.ses u T3 m) :: ownS encG 3 S M :: cells x37 (encSb u).toArray :: ownS encSb 5 aS A :: old h0 :: L3) (K3 (.inl (IntKind.wrap .i64 (s3.1 + 1), ()))) := by
            refine n1 (l + 1, keptOne x.ses u T3 m) (IntKind.wrap .i64 (s3.1 + 1), ()) (by simp only; omega) ⟨?_, hlt3, hko.ok, outOp_ids.trans hi3, hf3, ?_⟩
            · simp only [hll]; rw [q_al (by omega) (by omega)]; rfl
            · have := hko.outs; simp only; omega
          clear n1 n2 hf3
          obtain ⟨s4, hs4, hid⟩ := has_ses hi3 hsx hidx
          have hmin : (if u.2.1 < m.2.2.1 then u.2.1 else m.2.2.1) = min m.2.2.1 u.2.1 := by split <;> omega
          have hfo := q_ic (hok3.flow s4 hs4) (m.1, m.2.1, min m.2.2.1 u.2.1, true, e0S)
          have e9 : keptOne x.ses u T3 m = sendAllB x.ses (sendF s4.out (m.1, m.2.1, min m.2.2.1 u.2.1, true, e0S)).1.2 (tSes (setS x.ses (setOut (sendF s4.out (m.1, m.2.1, min m.2.2.1 u.2.1, true, e0S)).1.1) T3.b.ses) T3) := by
            unfold keptOne outOp
            rw [getS_of hok3.nd hs4 hid]
          rw [e9] at hnext3
          refine W.idx (enc := encG) (xs := M) (i := l) hlt3 (fun a3 ha3 => ?_) (he := hll)
          refine W.loadeN (x := m) (v := m) ha3 hgl ?_
          refine W.newc fun x49 => ?_
          refine W.storeN ?_
          refine W.nonnil ?_
          refine W.opn3 (fun h R => q_ak) fun so2 sp2 q2 => ?_
          refine W.load (v := some ⟨b, 0, none⟩) ?_
          refine W.nonnil ?_
          refine W.load (v := some ⟨q2.tb, 0, none⟩) ?_
          refine W.load (v := m.1) ?_
          refine W.load (v := m.2.1) ?_
          refine W.load (v := m.2.2.1) ?_
          refine W.load (v := u.2.1) ?_
          rw [hmin]
          refine W.opn2 (fun h R => q_hh hs4 h R) fun ob ib => ?_
          refine W.both ?_ ?_
          · refine W.call1 (Out_w2 hid (At.un ?_))
            repeat (first | refine W.bpure ?_ | refine W.bbind ?_ | refine W.newc fun _ => ?_ | refine W.load ?_ | refine W.load0 ?_ | refine W.loadx ?_ | (refine W.loadN ?_; try dsimp only) | (refine W.loadNo ?_; try dsimp only) | refine W.storeN ?_ | refine W.store ?_ | refine W.store0 ?_ | refine W.storex ?_ | refine W.req ?_ rfl | refine W.bt rfl ?_ | refine W.bf rfl ?_ | refine W.tt rfl ?_ | refine W.ff rfl ?_ | refine W.inl ?_ | refine W.inr ?_ | refine W.nonnil ?_ | refine W.bf (Go.H.nbq _) ?_ | refine W.ff (Go.H.nbq _) ?_ | refine W.bf (Go.H.nbd rfl) ?_ | refine W.ff (Go.H.nbd rfl) ?_)
            refine W.callN (osend_w (b := ob) (o := s4.out) (m := (m.1, m.2.1, min m.2.2.1 u.2.1, true, e0S)) (hok3.flow s4 hs4) (fun S2 => At.unN (x := (S2, (sendF s4.out (m.1, m.2.1, min m.2.2.1 u.2.1, true, e0S)).2, ())) ?_))
            refine W.cls3 (A := tabB q2.tb T3.b.last (setS x.ses (setOut (sendF s4.out (m.1, m.2.1, min m.2.2.1 u.2.1, true, e0S)).1.1) T3.b.ses)) (fun h hs => q_ia hok3.nd hs4 hid h hs) ?_
            refine W.turn (tSes (setS x.ses (setOut (sendF s4.out (m.1, m.2.1, min m.2.2.1 u.2.1, true, e0S)).1.1) T3.b.ses) T3) so2 sp2 q2 ?_
            refine W.callN (q_dy (T := tSes (setS x.ses (setOut (sendF s4.out (m.1, m.2.1, min m.2.2.1 u.2.1, true, e0S)).1.1) T3.b.ses) T3) (id := x.ses) (ps := (sendF s4.out (m.1, m.2.1, min m.2.2.1 u.2.1, true, e0S)).1.2) (hok3.one x.ses) (by have := hfo.2; show T3.outs.length + _ ≤ _; omega) (At.unN ?_))
            exact W.pure hnext3.sub
          · repeat (first | refine W.bpure ?_ | refine W.bbind ?_ | refine W.newc fun _ => ?_ | refine W.load ?_ | refine W.load0 ?_ | refine W.loadx ?_ | (refine W.loadN ?_; try dsimp only) | (refine W.loadNo ?_; try dsimp only) | refine W.storeN ?_ | refine W.store ?_ | refine W.store0 ?_ | refine W.storex ?_ | refine W.req ?_ rfl | refine W.bt rfl ?_ | refine W.bf rfl ?_ | refine W.tt rfl ?_ | refine W.ff rfl ?_ | refine W.inl ?_ | refine W.inr ?_ | refine W.nonnil ?_ | refine W.bf (Go.H.nbq _) ?_ | refine W.ff (Go.H.nbq _) ?_ | refine W.bf (Go.H.nbd rfl) ?_ | refine W.ff (Go.H.nbd rfl) ?_)
            refine W.call1 (Out_w2 hid (At.un ?_))
            repeat (first | refine W.bpure ?_ | refine W.bbind ?_ | refine W.newc fun _ => ?_ | refine W.load ?_ | refine W.load0 ?_ | refine W.loadx ?_ | (refine W.loadN ?_; try dsimp only) | (refine W.loadNo ?_; try dsimp only) | refine W.storeN ?_ | refine W.store ?_ | refine W.store0 ?_ | refine W.storex ?_ | refine W.req ?_ rfl | refine W.bt rfl ?_ | refine W.bf rfl ?_ | refine W.tt rfl ?_ | refine W.ff rfl ?_ | refine W.inl ?_ | refine W.inr ?_ | refine W.nonnil ?_ | refine W.bf (Go.H.nbq _) ?_ | refine W.ff (Go.H.nbq _) ?_ | refine W.bf (Go.H.nbd rfl) ?_ | refine W.ff (Go.H.nbd rfl) ?_)
            refine W.callN (osend_w (b := ob) (o := s4.out) (m := (m.1, m.2.1, min m.2.2.1 u.2.1, true, e0S)) (hok3.flow s4 hs4) (fun S2 => At.unN (x := (S2, (sendF s4.out (m.1, m.2.1, min m.2.2.1 u.2.1, true, e0S)).2, ())) ?_))
            refine W.cls3 (A := tabB q2.tb T3.b.last (setS x.ses (setOut (sendF s4.out (m.1, m.2.1, min m.2.2.1 u.2.1, true, e0S)).1.1) T3.b.ses)) (fun h hs => q_ia hok3.nd hs4 hid h hs) ?_
            refine W.turn (tSes (setS x.ses (setOut (sendF s4.out (m.1, m.2.1, min m.2.2.1 u.2.1, true, e0S)).1.1) T3.b.ses) T3) so2 sp2 q2 ?_
            refine W.callN (q_dy (T := tSes (setS x.ses (setOut (sendF s4.out (m.1, m.2.1, min m.2.2.1 u.2.1, true, e0S)).1.1) T3.b.ses) T3) (id := x.ses) (ps := (sendF s4.out (m.1, m.2.1, min m.2.2.1 u.2.1, true, e0S)).1.2) (hok3.one x.ses) (by have := hfo.2; show T3.outs.length + _ ≤ _; omega) (At.unN ?_))
            exact W.pure hnext3.sub
        · refine W.ff (by rw [hll, hl3]; exact decide_eq_false (by omega)) (W.pure (n2 _ _ (W.bpure (W.pure ?_))))
          have hle : l = M.length := by omega
          subst hle
          rw [List.drop_length, List.foldl_nil] at hf3
          rw [← hf3] at hnext
          exact hnext.sub
    · refine W.ff (by rw [hj, hl2]; exact decide_eq_false (by omega)) (W.pure (m2 _ _ (W.pure ?_)))
      have hje : j = A.length := by omega
      subst hje
      rw [List.drop_length, List.foldl_nil] at hf2
      rw [hf2]
      exact hq.sub
end Go.Proofs.YtidlldnlphdhcaaGreatDoor
namespace Go.Proofs.YtidlldnlphdhcaaGreatDoor
open Go.H Go.Proofs
set_option linter.unusedSimpArgs false
set_option linter.unusedVariables false
set_option maxRecDepth 100000
variable {h h0 : Heap} {L L' L1 L2 L3 R : List Asn} {Q : Value → Heap → Prop}
abbrev pFil (p : Pk) : Slc := p.2.2.2.2.2.2.2.2.2.2.2.2.2.2.2.2.2.2.2.2.2.2.2.2.2.1
theorem unsubscribe_w {t b : Nat} {full : Bool} {T : TurnS} {x : ConnS} {p : Pk} {pl : List PropT} {sl : List SubT} {fl : List ByteArray} (ht : TP h0) (hok : BrkH T.b) (hc : getC x.c T.b.conns = some x) (hb : T.outs.length ≤ 10000000) (hn : fl.length ≤ 100)
    (hsz : ∀ f ∈ fl, f.size ≤ 16777216)
    (hq : At (turnA t b full (unsubscribeB x (pkI p pl sl fl) T) :: old h0 :: L3) (Q (.tuple #[]))) (hx : Has L (turnA t b full T) L1 := by repeat (first | with_reducible exact Go.H.has0 | apply Go.H.hasS)) (hy : Has L1 (old h0) L2 := by repeat (first | with_reducible exact Go.H.has0 | apply Go.H.hasS)) (hz : Has L2 (ownS encS1 1 (pFil p) fl) L3 := by repeat (first | with_reducible exact Go.H.has0 | apply Go.H.hasS)) :
    FW Tryz.prog 66 #[at0 t, .int .i64 x.c, vPkK .u8 p] L Q := by
  refine fun h hs => q_dh (some ⟨t, 0, none⟩) x.c p h Q ((?_ : W (turnA t b full T :: old h0 :: ownS encS1 1 (pFil p) fl :: L3) _ _) h ((hx.then3 hy hz).s hs))
  clear hs h hx hy hz
  unfold unsubscribeB at hq
  simp only at hq
  obtain ⟨EF, hEF⟩ : ∃ EF, EF = (delAll x.ses fl T.b.subs).1 := ⟨_, rfl⟩
  obtain ⟨CF, hCF⟩ : ∃ CF, CF = (delAll x.ses fl T.b.subs).2 := ⟨_, rfl⟩
  rw [← hEF, ← hCF] at hq
  unfold q_a8
  refine W.newc fun x1 => ?_
  refine W.load (v := p.2.2.2.2.1) ?_
  refine W.newc fun x3 => ?_
  refine W.storeN ?_
  refine W.load (v := pFil p) ?_
  refine W.nils (eKd .u8) 1 ?_
  refine W.cells (b := x3) (encPkK .u8 (pkT (ackO 11 (p.2.2.2.2.1) 0) ⟨none, 0, 0⟩ ⟨none, 0, 0⟩)).toArray ?_
  refine W.fact (own_len' (enc := encS1) (size := 1) (s := pFil p) (xs := fl)) fun hl => ?_
  refine W.loop (γ := Nat × List Ent × List Int × Slc) (fun g s => s.1 = (g.1 : Int) ∧ g.1 ≤ fl.length ∧ g.2.1.length ≤ T.b.subs.length ∧ (delAll x.ses (fl.drop g.1) g.2.1).1 = EF ∧ g.2.2.1 ++ (delAll x.ses (fl.drop g.1) g.2.1).2 = CF ∧ g.2.2.1.length = g.1)
    (fun g s => turnA t b full (tSubs g.2.1 T) :: ownS (eKd .u8) 1 g.2.2.2 g.2.2.1 :: cells x3 (encPkK .u8 (pkT (ackO 11 (p.2.2.2.2.1) 0) g.2.2.2 ⟨none, 0, 0⟩)).toArray :: ownS encS1 1 (pFil p) fl :: old h0 :: L3)
    (fun g => fl.length - g.1) (0, T.b.subs, [], ⟨none, 0, 0⟩) ⟨rfl, Nat.zero_le _, Nat.le_refl _, hEF.symm, hCF.symm, rfl⟩ ?_ ?_
  · show Sub _ (turnA t b full T :: ownS (eKd .u8) 1 ⟨none, 0, 0⟩ ([] : List Int) :: cells x3 (encPkK .u8 (pkT (ackO 11 (p.2.2.2.2.1) 0) ⟨none, 0, 0⟩ ⟨none, 0, 0⟩)).toArray :: ownS encS1 1 (pFil p) fl :: old h0 :: L3)
    repeat (first | with_reducible exact Go.H.Sub.rfl | with_reducible exact Go.H.Sub.nil | refine Go.H.Sub.cons (by repeat (first | with_reducible exact Go.H.has0 | apply Go.H.hasS)) ?_ | refine Go.H.Sub.drop ?_)
  rintro ⟨i, E, cs, cS⟩ s ⟨hi, hil, hEl, hE1, hC1, hcl⟩ K k1 k2
  simp only at hi hil hEl hE1 hC1 hcl
  by_cases hlt : i < fl.length
  · refine W.tt (by rw [hi, hl]; exact decide_eq_true (by omega)) ?_
    have hdrop : fl.drop i = fl[i] :: fl.drop (i + 1) := List.drop_eq_getElem_cons hlt
    have hgi : fl[i]? = some fl[i] := List.getElem?_eq_getElem hlt
    have hmem : fl[i] ∈ fl := List.getElem_mem hlt
    rw [hdrop] at hE1 hC1
    generalize fl[i] = u at hgi hmem hE1 hC1
    clear hdrop
    unfold delAll at hE1 hC1
    simp only at hE1 hC1
    have hsub := hok.subs
    refine W.idx (enc := encS1) (xs := fl) (i := i) hlt (fun a ha => ?_) (he := hi)
    refine W.loade0 (x := u) (v := u) ha hgi ?_
    refine W.nonnil ?_
    refine W.opn3 (fun h R => q_ak) fun so sp q => ?_
    refine W.load (v := some ⟨b, 0, none⟩) ?_
    refine W.nonnil ?_
    refine W.load ?_
    refine W.nonnil ?_
    refine W.load (v := some ⟨b, 0, none⟩) ?_
    refine W.nonnil ?_
    refine W.load (v := some q.cm) ?_
    refine W.lookup (kind := .agg tC) kKI x.c ?_
    rw [q_d2, hc]
    refine W.call1 (trRemove_w (t := q.sb) (E := E) (id := x.ses) (f := u) ht (hsz u hmem) (by omega) (At.un ?_))
    refine W.turn (tSubs (delL E x.ses u) T) so sp q ?_
    refine W.cutk (fun a => a.1 = if (delL E x.ses u).length < E.length then 0 else 17) (fun K2 hK2 => W.ite (fun e => W.pure (hK2 _ (if_pos (by simpa using e)).symm)) (fun e => W.pure (hK2 _ (if_neg (by simpa using e)).symm))) (fun a hpa => ?_)
    refine W.load (v := cS) ?_
    refine W.app1 (enc := eKd .u8) (xs := cs) (s := cS) a.1 (fun s' => ?_) (by omega)
    refine W.store (cs' := (encPkK .u8 (pkT (ackO 11 (p.2.2.2.2.1) 0) s' ⟨none, 0, 0⟩)).toArray) ?_
    have hE' : (delL E x.ses u).length ≤ T.b.subs.length := Nat.le_trans delL_len hEl
    have f1 : IntKind.wrap .i64 (s.1 + 1) = ((i + 1 : Nat) : Int) := by rw [hi, q_al (by omega) (by omega)]; rfl
    have f2 : (cs ++ [a.1]) ++ (delAll x.ses (fl.drop (i + 1)) (delL E x.ses u)).2 = CF := by rw [hpa, List.append_assoc]; exact hC1
    have hn := k1 (i + 1, delL E x.ses u, cs ++ [a.1], s') (IntKind.wrap .i64 (s.1 + 1), ()) (by simp only; omega) ⟨f1, hlt, hE', hE1, f2, by simp [hcl]⟩
    exact W.pure hn.sub
  · refine W.ff (by rw [hi, hl]; exact decide_eq_false (by omega)) (W.pure (k2 _ _ ?_))
    have hie : i = fl.length := by omega
    subst hie
    rw [List.drop_length] at hE1 hC1
    simp only [delAll, List.append_nil] at hE1 hC1
    subst hE1 hC1
    refine W.loadN (v := pkT (ackCs 11 (p.2.2.2.2.1) cs) cS ⟨none, 0, 0⟩) ?_
    refine W.nils encPr 4 ?_
    refine W.cls2 (A := pkB .u8 (cS, ⟨none, 0, 0⟩, ackCs 11 (p.2.2.2.2.1) cs)) (B := ownS (eKd .u8) 1 cS cs) (C := ownS encPr 4 ⟨none, 0, 0⟩ ([] : List PropT)) (fun h hs => pkB_iff.2 hs) ?_
    refine W.callN (send_w (T := tSubs E T) (c := x.c) (o := ackCs 11 (p.2.2.2.2.1) cs) (ci := cS) (pi := ⟨none, 0, 0⟩) (by show T.outs.length ≤ _; omega) (At.unN ?_))
    exact W.pure hq.sub
theorem W.callV1 {α : Type} {P : Program} {k : Kind} {fn : FuncId} {first captured args : Array Value} {f : k.ty → HM α} {Q' : α → Heap → Prop} (hok : CallOK P fn) (hc : FW P fn (first ++ args ++ captured) L (k.un fun x h' => f x h' Q')) :
    W L (HM.bind (HM.callV1 P k (.func (.func fn) first captured) args) f) Q' := fun h hs =>
  ⟨fn, first, captured, rfl, hok, hc h hs⟩
abbrev prU (u : PropT) : Int × Int × ByteArray × ByteArray × Unit := (u.1, u.2.1, u.2.2.1, u.2.2.2, ())
theorem find_w {S : Slc} {pl : List PropT} {id : Int} (hn : pl.length ≤ 1000) (hq : At (ownS encPr 4 S pl :: L1) (Q (.tuple #[.agg (encPr ((findP id pl).getD (0, 0, e0S, e0S))).toArray, .bool (findP id pl).isSome])))
    (hx : Has L (ownS encPr 4 S pl) L1 := by repeat (first | with_reducible exact Go.H.has0 | apply Go.H.hasS)) : FW Tryz.prog 70 #[.slice S.a S.len S.cap, .int .i64 id] L Q := by
  refine fun h hs => prop_Find_calls S id h Q ((?_ : W (ownS encPr 4 S pl :: L1) _ _) h (hx.s hs))
  clear hs h hx
  unfold prop_Find
  refine W.newc fun x1 => ?_
  refine W.newc fun x2 => ?_
  refine W.call1 (fun h hs => q_cl S _ h _ ((?_ : W (cells x2 zS8 :: cells x1 #[.int .i64 id] :: ownS encPr 4 S pl :: L1) _ _) h hs))
  unfold q_a1
  refine W.fact (own_len' (enc := encPr) (size := 4) (s := S) (xs := pl)) fun hl => ?_
  refine W.loop (γ := Nat) (fun g s => s.1 = (g : Int) ∧ g ≤ pl.length ∧ findP id (pl.take g) = none) (fun g s => cells x2 zS8 :: cells x1 #[.int .i64 id] :: ownS encPr 4 S pl :: L1) (fun g => pl.length - g) 0 ⟨rfl, Nat.zero_le _, rfl⟩ Sub.rfl ?_
  rintro i s ⟨hi, hil, hf⟩ K k1 k2
  by_cases hlt : i < pl.length
  · refine W.tt (by rw [hi, hl]; exact decide_eq_true (by omega)) ?_
    have hgi : pl[i]? = some pl[i] := List.getElem?_eq_getElem hlt
    have htk : pl.take (i + 1) = pl.take i ++ [pl[i]] := List.take_succ_eq_append_getElem hlt
    have hsp : pl = pl.take i ++ pl[i] :: pl.drop (i + 1) := by rw [← List.drop_eq_getElem_cons hlt, List.take_append_drop]
    generalize pl[i] = u at hgi htk hsp
    refine W.idx (enc := encPr) (xs := pl) (i := i) hlt (fun a ha => ?_) (he := hi)
    refine W.loadeN (x := u) (v := prU u) ha hgi ?_
    refine W.callV1 Tryz.call115 (fun h hs => prop_Find_f1_calls (prU u) ⟨x1, 0, none⟩ h _ ((?_ : W (cells x2 zS8 :: cells x1 #[.int .i64 id] :: ownS encPr 4 S pl :: L1) _ _) h hs))
    unfold q_hq
    refine W.newc fun x4 => ?_
    refine W.load (v := u.1) ?_
    refine W.load0 (v := id) ?_
    refine W.pure (At.un (x := u.1 == id) ?_)
    by_cases hu : u.1 = id
    · refine W.tt (by simpa using hu) ?_
      refine W.pure (k2 _ _ ?_)
      refine W.pure (At.un (x := s.1) ?_)
      have hfp : findP id pl = some u := by
        rw [hsp]; unfold findP at hf ⊢
        rw [List.find?_append, hf, Option.none_or, List.find?_cons_of_pos (by simpa using hu)]
      rw [hfp] at hq
      refine W.ff (by rw [hi]; exact decide_eq_false (by omega)) ?_
      refine W.idx (enc := encPr) (xs := pl) (i := i) hlt (fun a ha => ?_) (he := hi)
      refine W.loadeN (x := u) (v := prU u) ha hgi ?_
      refine W.storeN ?_
      refine W.loadN (v := prU u) ?_
      exact W.pure hq.sub
    · refine W.ff (by simpa using hu) ?_
      have f1 : IntKind.wrap .i64 (s.1 + 1) = ((i + 1 : Nat) : Int) := by rw [hi, q_al (by omega) (by omega)]; rfl
      have f2 : findP id (pl.take (i + 1)) = none := by
        rw [htk]; unfold findP at hf ⊢
        rw [List.find?_append, hf, Option.none_or, List.find?_cons_of_neg (by simpa using hu)]; rfl
      have hn := k1 (i + 1) (IntKind.wrap .i64 (s.1 + 1), ()) (by omega) ⟨f1, hlt, f2⟩
      exact W.pure hn.sub
  · refine W.ff (by rw [hi, hl]; exact decide_eq_false (by omega)) (W.pure (k2 _ _ ?_))
    have hie : i = pl.length := by omega
    subst hie
    rw [List.take_length] at hf
    rw [hf] at hq
    refine W.pure (At.un (x := (-1 : Int)) ?_)
    refine W.tt (by decide) ?_
    refine W.storeN ?_
    refine W.loadN (v := prU (0, 0, e0S, e0S)) ?_
    exact W.pure hq.sub
end Go.Proofs.YtidlldnlphdhcaaGreatDoor
namespace Go.Proofs.YtidlldnlphdhcaaGreatDoor
open Go.H Go.Proofs
set_option linter.unusedSimpArgs false
set_option linter.unusedVariables false
abbrev keyS (s : SesS) : Int × ByteArray := (s.id, s.client)
structure BrkOK (B : BrkS) (n : Nat) : Prop extends BrkH B where
  last0 : 0 ≤ B.last
  lastn : B.last ≤ n
  rng : ∀ s ∈ B.ses, 1 ≤ s.id ∧ s.id ≤ B.last
  asc : (B.ses.map (·.id)).Pairwise (· < ·)
  cnd : (B.ses.map (·.client)).Nodup
  n32 : B.ses.length ≤ 32
  cnt : ∀ i, cntL B.subs i ≤ 64
theorem cntL_sub {A E : List Ent} (h : A.Sublist E) (i : Int) : cntL A i ≤ cntL E i := (h.map _).count_le _
theorem BrkOK.sub {B B' : BrkS} {n : Nat} (h : BrkOK B n) (h' : BrkH B') (hl : B'.last = B.last) (hk : (B'.ses.map keyS).Sublist (B.ses.map keyS)) (he : B'.subs.Sublist B.subs) : BrkOK B' n := by
  have e1 : ∀ A : List SesS, (A.map keyS).map (·.1) = A.map (·.id) := fun A => by rw [List.map_map]; rfl
  have e2 : ∀ A : List SesS, (A.map keyS).map (·.2) = A.map (·.client) := fun A => by rw [List.map_map]; rfl
  have k1 := hk.map (·.1)
  have k2 := hk.map (·.2)
  rw [e1, e1] at k1
  rw [e2, e2] at k2
  refine { h' with last0 := by rw [hl]; exact h.last0, lastn := by rw [hl]; exact h.lastn, rng := fun s hs => ?_, asc := h.asc.sublist k1, cnd := h.cnd.sublist k2, n32 := ?_, cnt := fun i => Nat.le_trans (cntL_sub he i) (h.cnt i) }
  · have : s.id ∈ B.ses.map (·.id) := k1.subset (List.mem_map_of_mem hs)
    obtain ⟨s', hs', he⟩ := List.mem_map.1 this
    have := h.rng s' hs'
    rw [hl]; rw [he] at this; exact this
  · have := hk.length_le
    simp only [List.length_map] at this
    exact Nat.le_trans this h.n32
theorem setS_key {k : Int} {f : SesS → SesS} (hf : ∀ s, keyS (f s) = keyS s) (A : List SesS) : (setS k f A).map keyS = A.map keyS := by
  unfold setS
  rw [List.map_map]
  refine List.map_congr_left fun s _ => ?_
  simp only [Function.comp]
  split
  · exact hf s
  · rfl
theorem outOp_key {id : Int} {f : OutS → OutS × List PkO} {T : TurnS} : (outOp id f T).b.ses.map keyS = T.b.ses.map keyS := by
  unfold outOp
  split
  · rfl
  · rename_i s _
    exact setS_key (f := setOut (f s.out).1) (fun _ => rfl) _
theorem fold_key {α : Type} {g : TurnS → α → TurnS} (hg : ∀ T x, (g T x).b.ses.map keyS = T.b.ses.map keyS) : ∀ (l : List α) {T : TurnS}, (l.foldl g T).b.ses.map keyS = T.b.ses.map keyS
  | [], _ => rfl
  | x :: l, T => (fold_key hg l).trans (hg T x)
theorem handB_key {m : MsT} {T : TurnS} : (handB m T).b.ses.map keyS = T.b.ses.map keyS := by
  unfold handB
  rw [fold_key (g := handOne m (T.b.subs.filter fun x => matchB x.2.1 m.1)) fun T x => outOp_key]
  unfold keepB; split <;> rfl
theorem endS_key {k : Int} {B : BrkS} : ((endS k B).ses.map keyS).Sublist (B.ses.map keyS) := by
  unfold endS
  split
  · exact List.Sublist.refl _
  · split
    · exact List.Sublist.refl _
    · split
      · show ((setS k offS B.ses).map keyS).Sublist _
        rw [setS_key (f := offS) fun _ => rfl]; exact List.Sublist.refl _
      · exact List.filter_sublist.map _
theorem endB_key {full : Bool} {c : Int} {w : Bool} {T : TurnS} : ((endB full c w T).b.ses.map keyS).Sublist (T.b.ses.map keyS) := by
  unfold endB
  split
  · exact List.Sublist.refl _
  · simp only
    split
    · show ((handB _ _).b.ses.map keyS).Sublist _
      rw [handB_key]; exact endS_key
    · exact endS_key
theorem endS_subs {k : Int} {B : BrkS} : (endS k B).subs.Sublist B.subs := by
  unfold endS
  split
  · exact List.Sublist.refl _
  · split
    · exact List.Sublist.refl _
    · split
      · exact List.Sublist.refl _
      · exact List.filter_sublist
theorem fold_subs {α : Type} {g : TurnS → α → TurnS} (hg : ∀ T x, (g T x).b.subs = T.b.subs) : ∀ (l : List α) {T : TurnS}, (l.foldl g T).b.subs = T.b.subs
  | [], _ => rfl
  | x :: l, T => (fold_subs hg l).trans (hg T x)
theorem outOp_subs {id : Int} {f : OutS → OutS × List PkO} {T : TurnS} : (outOp id f T).b.subs = T.b.subs := by
  unfold outOp; split <;> rfl
theorem handB_subs {m : MsT} {T : TurnS} : (handB m T).b.subs = T.b.subs := by
  unfold handB
  rw [fold_subs (g := handOne m (T.b.subs.filter fun x => matchB x.2.1 m.1)) fun T x => outOp_subs]
  unfold keepB; split <;> rfl
theorem endB_subs {full : Bool} {c : Int} {w : Bool} {T : TurnS} : (endB full c w T).b.subs.Sublist T.b.subs := by
  unfold endB
  split
  · exact List.Sublist.refl _
  · simp only
    split
    · show ((handB _ _).b.subs).Sublist _
      rw [handB_subs]; exact endS_subs
    · exact endS_subs
theorem keptSub_key {id : Int} (T : TurnS) (s : SubT) : (keptSub id T s).b.ses.map keyS = T.b.ses.map keyS := by
  unfold keptSub
  split
  · rfl
  · exact fold_key (fun T m => outOp_key) _
theorem nodup_eq {α β : Type} {f : α → β} {A : List α} (hn : (A.map f).Nodup) {s t : α} (hs : s ∈ A) (ht : t ∈ A) (e : f s = f t) : s = t := by
  obtain ⟨l1, l2, rfl⟩ := List.append_of_mem hs
  rw [List.map_append, List.map_cons, List.nodup_append] at hn
  rcases List.mem_append.1 ht with hm | hm
  · exact absurd e.symm (hn.2.2 _ (List.mem_map_of_mem hm) _ (List.mem_cons_self ..))
  · rcases List.mem_cons.1 hm with rfl | hm
    · rfl
    · exact absurd (List.mem_map_of_mem (f := f) hm) (by rw [← e]; exact (List.nodup_cons.1 hn.2.1).1)
theorem kickB_ok {full : Bool} {s : SesS} {T : TurnS} (h : BrkH T.b) (hcn : (T.b.conns.map (·.c)).Nodup) : BrkH (kickB full s T).b ∧ (kickB full s T).outs.length ≤ T.outs.length + 3200001 ∧ (kickB full s T).pubs.length ≤ T.pubs.length + 3200001 ∧ (kickB full s T).b.conns = T.b.conns.filter (fun y => decide (y.ses ≠ s.id)) ∧ (kickB full s T).b.last = T.b.last ∧ ((kickB full s T).b.ses.map keyS).Sublist (T.b.ses.map keyS) ∧ (kickB full s T).b.subs.Sublist T.b.subs := by
  unfold kickB
  cases hg : T.b.conns.find? (fun x => decide (x.ses = s.id)) with
  | none =>
    have hf : T.b.conns.filter (fun y => decide (y.ses ≠ s.id)) = T.b.conns := List.filter_eq_self.2 fun y hy => by
      have := List.find?_eq_none.1 hg y hy
      simpa using this
    exact ⟨h, Nat.le_add_right _ _, Nat.le_add_right _ _, hf.symm, rfl, List.Sublist.refl _, List.Sublist.refl _⟩
  | some x =>
    have hx := List.mem_of_find?_eq_some hg
    have hxs : x.ses = s.id := by simpa using List.find?_some hg
    have h1 := refuseB_ok (full := full) (c := x.c) (code := 142) (T := T) h
    refine ⟨h1.1, h1.2.1, h1.2.2.1, h1.2.2.2.1.trans ?_, h1.2.2.2.2, endB_key, endB_subs⟩
    refine List.filter_congr fun y hy => ?_
    refine decide_eq_decide.2 ⟨fun hne => ?_, fun hne => ?_⟩
    · rw [← hxs]; exact h.other hx hy hne
    · intro e
      exact hne (by rw [← hxs]; exact congrArg ConnS.ses (nodup_eq (f := (·.c)) hcn hy hx e))
noncomputable def kickT (full : Bool) (c : ByteArray) (T : TurnS) : TurnS := match ofS c T.b.ses with
  | some s => kickB full s T
  | none => T
theorem kickT_ok {full : Bool} {c : ByteArray} {T : TurnS} {n : Nat} (h : BrkOK T.b n) (hcn : (T.b.conns.map (·.c)).Nodup) (h32 : ofS c T.b.ses = none → T.b.ses.length < 32) :
    BrkOK (kickT full c T).b n ∧ (kickT full c T).outs.length ≤ T.outs.length + 3200001 ∧ (kickT full c T).pubs.length ≤ T.pubs.length + 3200001 ∧ (∀ y ∈ (kickT full c T).b.conns, y ∈ T.b.conns ∧ ∀ s, ofS c T.b.ses = some s → y.ses ≠ s.id) ∧ (ofS c (kickT full c T).b.ses = none → (kickT full c T).b.ses.length < 32) ∧ (∀ s', ofS c (kickT full c T).b.ses = some s' → ∃ s, ofS c T.b.ses = some s ∧ s.id = s'.id) := by
  unfold kickT
  cases ho : ofS c T.b.ses with
  | none =>
    exact ⟨h, Nat.le_add_right _ _, Nat.le_add_right _ _, fun y hy => ⟨hy, fun s hs => (by cases hs)⟩, fun _ => h32 ho, fun s' hs' => (by rw [ho] at hs'; cases hs')⟩
  | some s =>
    have hsm : s ∈ T.b.ses := List.mem_of_find?_eq_some ho
    have hsc : s.client = c := by simpa using List.find?_some ho
    obtain ⟨k1, k2, k3, k4, k5, k6, k7⟩ := kickB_ok (full := full) (s := s) h.toBrkH hcn
    simp only
    refine ⟨h.sub k1 k5 k6 k7, k2, k3, fun y hy => ?_, fun hno => ?_, fun s' hs' => ⟨s, rfl, ?_⟩⟩
    · rw [k4] at hy
      obtain ⟨h1, h2⟩ := List.mem_filter.1 hy
      exact ⟨h1, fun s' hs' => by cases hs'; simpa using h2⟩
    · refine Nat.lt_of_not_le fun hge => ?_
      have hl := k6.length_le
      simp only [List.length_map] at hl
      have := h.n32
      have he : (kickB full s T).b.ses.map keyS = T.b.ses.map keyS := k6.eq_of_length (by simp only [List.length_map]; omega)
      have hm : keyS s ∈ (kickB full s T).b.ses.map keyS := by rw [he]; exact List.mem_map_of_mem hsm
      obtain ⟨s', hs', hk⟩ := List.mem_map.1 hm
      have := List.find?_eq_none.1 hno s' hs'
      have e2 : s'.client = c := by rw [← hsc]; exact congrArg Prod.snd hk
      exact this (by simpa using e2)
    · have h3 : s' ∈ (kickB full s T).b.ses := List.mem_of_find?_eq_some hs'
      have h4 : s'.client = c := by simpa using List.find?_some hs'
      obtain ⟨s0, h5, h6⟩ := List.mem_map.1 (k6.subset (List.mem_map_of_mem h3))
      have h7 : s0 = s := nodup_eq (f := (·.client)) h.cnd h5 hsm ((congrArg Prod.snd h6).trans (h4.trans hsc.symm))
      rw [← h7]; exact congrArg Prod.fst h6
theorem BrkOK.s2k {B : BrkS} {n : Nat} (h : BrkOK B n) : B.subs.length ≤ 2048 := by
  have key : ∀ (ids : List Int) (E : List Ent), (∀ e ∈ E, e.1 ∈ ids) → (∀ i, cntL E i ≤ 64) → E.length ≤ 64 * ids.length := by
    intro ids
    induction ids with
    | nil =>
      intro E hE _
      cases E with
      | nil => simp
      | cons e E => cases hE e (List.mem_cons_self ..)
    | cons i ids ih =>
      intro E hE hc
      have h1 := ih (E.filter fun e => !decide (e.1 = i)) (fun e he => by
        obtain ⟨h1, h2⟩ := List.mem_filter.1 he
        rcases List.mem_cons.1 (hE e h1) with h3 | h3
        · simp [h3] at h2
        · exact h3) (fun j => Nat.le_trans (cntL_sub List.filter_sublist j) (hc j))
      have h2 : E.length = (E.filter fun e => decide (e.1 = i)).length + (E.filter fun e => !decide (e.1 = i)).length := by
        clear hE hc h1
        induction E with
        | nil => rfl
        | cons e E ihE =>
          by_cases he : e.1 = i
          · rw [List.filter_cons_of_pos (by simpa using he), List.filter_cons_of_neg (by simpa using he), List.length_cons, List.length_cons, ihE]; omega
          · rw [List.filter_cons_of_neg (by simpa using he), List.filter_cons_of_pos (by simpa using he), List.length_cons, List.length_cons, ihE]; omega
      have h3 : (E.filter fun e => decide (e.1 = i)).length = cntL E i := by
        unfold cntL
        rw [List.count_eq_countP, List.countP_map, List.countP_eq_length_filter]
        congr 1
      have := hc i
      rw [List.length_cons]
      omega
  have h1 := key (B.ses.map (·.id)) B.subs (fun e he => by
    obtain ⟨s, hs, hi⟩ := h.live e he
    exact hi ▸ List.mem_map_of_mem hs) h.cnt
  rw [List.length_map] at h1
  have := h.n32
  omega
theorem setS_mem2 {k : Int} {f : SesS → SesS} {A : List SesS} {x : SesS} (h : x ∈ setS k f A) : (x ∈ A ∧ x.id ≠ k) ∨ ∃ s ∈ A, s.id = k ∧ x = f s := by
  unfold setS at h
  obtain ⟨s, hs, rfl⟩ := List.mem_map.1 h
  split
  · exact .inr ⟨s, hs, by assumption, rfl⟩
  · exact .inl ⟨hs, by assumption⟩
theorem one_new {C : List ConnS} {x : ConnS} (h1 : ∀ id : Int, (C.filter fun y => decide (y.ses = id)).length ≤ 1) (h2 : ∀ y ∈ C, y.ses ≠ x.ses) (id : Int) : ((C ++ [x]).filter fun y => decide (y.ses = id)).length ≤ 1 := by
  rw [List.filter_append, List.length_append]
  by_cases e : x.ses = id
  · subst e
    have : C.filter (fun y => decide (y.ses = x.ses)) = [] := List.filter_eq_nil_iff.2 fun y hy => by simpa using h2 y hy
    rw [this]
    simp
  · have : [x].filter (fun y => decide (y.ses = id)) = [] := List.filter_eq_nil_iff.2 fun y hy => by rw [List.mem_singleton.1 hy]; simpa using e
    rw [this]
    simpa using h1 id
theorem back_ok {B : BrkS} {n : Nat} {s' : SesS} {x : ConnS} {keep : Bool} (h : BrkOK B n) (hs : s' ∈ B.ses) (hc : ∀ y ∈ B.conns, y.ses ≠ s'.id) (hx : x.ses = s'.id) (hw : x.will.1.size ≤ 9223372036854775807 ∧ -9223372036854775808 ≤ x.c ∧ x.c ≤ 9223372036854775807) :
    BrkOK ⟨B.last, setS s'.id (fun s => { s with on := true, keep := keep }) B.ses, B.subs, B.kept, B.conns ++ [x]⟩ (n + 1) where
  subs := h.subs
  flow := fun s hs => by
    rcases q_em hs with hs | ⟨s1, h1, _, rfl⟩
    · exact h.flow s hs
    · exact h.flow s1 h1
  live := fun e he => q_dl (f := fun s => { s with on := true, keep := keep }) (fun _ => rfl) (h.live e he)
  one := one_new h.one (fun y hy => by rw [hx]; exact hc y hy)
  nd := by
    show ((setS s'.id (fun s => { s with on := true, keep := keep }) B.ses).map (·.id)).Nodup
    rw [q_ib (f := fun s => { s with on := true, keep := keep }) fun _ => rfl]; exact h.nd
  cl := fun y hy => q_dl (f := fun s => { s with on := true, keep := keep }) (fun _ => rfl) (by
    rcases List.mem_append.1 hy with hy | hy
    · exact h.cl y hy
    · rw [List.mem_singleton.1 hy]; exact ⟨s', hs, hx.symm⟩)
  onl := fun y hy s hs2 e => by
    rcases setS_mem2 hs2 with ⟨h1, h2⟩ | ⟨s1, h1, h2, rfl⟩
    · rcases List.mem_append.1 hy with hy | hy
      · exact h.onl y hy s h1 e
      · rw [List.mem_singleton.1 hy, hx] at e; exact absurd e h2
    · rfl
  wl := fun y hy => by
    rcases List.mem_append.1 hy with hy | hy
    · exact h.wl y hy
    · rw [List.mem_singleton.1 hy]; exact hw
  last0 := h.last0
  lastn := by have := h.lastn; simp only; omega
  rng := fun s hs => by
    rcases q_em hs with hs | ⟨s1, h1, _, rfl⟩
    · exact h.rng s hs
    · exact h.rng s1 h1
  asc := by
    show ((setS s'.id (fun s => { s with on := true, keep := keep }) B.ses).map (·.id)).Pairwise (· < ·)
    rw [q_ib (f := fun s => { s with on := true, keep := keep }) fun _ => rfl]; exact h.asc
  cnd := by
    have e : (setS s'.id (fun s => { s with on := true, keep := keep }) B.ses).map (·.client) = B.ses.map (·.client) := by
      have h1 := congrArg (List.map Prod.snd) (setS_key (k := s'.id) (f := fun s => { s with on := true, keep := keep }) (fun _ => rfl) B.ses)
      rw [List.map_map, List.map_map] at h1
      exact h1
    show ((setS s'.id (fun s => { s with on := true, keep := keep }) B.ses).map (·.client)).Nodup
    rw [e]; exact h.cnd
  n32 := by
    show (setS s'.id (fun s => { s with on := true, keep := keep }) B.ses).length ≤ 32
    unfold setS; rw [List.length_map]; exact h.n32
  cnt := h.cnt
theorem new_ok {B : BrkS} {n : Nat} {A : List SesS} {E : List Ent} {x : ConnS} {client : ByteArray} {keep : Bool} (h : BrkOK B n) (hA : A.Sublist B.ses) (hE : E.Sublist B.subs) (hl : ∀ e ∈ E, ∃ s ∈ A, s.id = e.1) (hc : ∀ y ∈ B.conns, ∃ s ∈ A, s.id = y.ses) (hn : ∀ s ∈ A, s.client ≠ client) (h32 : A.length < 32)
    (hx : x.ses = B.last + 1) (hw : x.will.1.size ≤ 9223372036854775807 ∧ -9223372036854775808 ≤ x.c ∧ x.c ≤ 9223372036854775807) : BrkOK ⟨B.last + 1, A ++ [newS (B.last + 1) client keep], E, B.kept, B.conns ++ [x]⟩ (n + 1) := by
  have hlt : ∀ s ∈ A, s.id < B.last + 1 := fun s hs => by have := (h.rng s (hA.subset hs)).2; omega
  have hnew : ∀ {s}, s ∈ A ++ [newS (B.last + 1) client keep] → s ∈ A ∨ s = newS (B.last + 1) client keep := fun hs => by
    rcases List.mem_append.1 hs with hs | hs
    · exact .inl hs
    · exact .inr (List.mem_singleton.1 hs)
  refine { subs := Nat.le_trans hE.length_le h.subs, flow := fun s hs => ?_, live := fun e he => ?_, one := one_new h.one (fun y hy => ?_), nd := ?_, cl := fun y hy => ?_, onl := fun y hy s hs e => ?_, wl := fun y hy => ?_, last0 := by have := h.last0; simp only; omega, lastn := by have := h.lastn; simp only; omega, rng := fun s hs => ?_, asc := ?_, cnd := ?_, n32 := by rw [List.length_append]; exact h32, cnt := fun i => Nat.le_trans (cntL_sub hE i) (h.cnt i) }
  · rcases hnew hs with hs | rfl
    · exact h.flow s (hA.subset hs)
    · exact FlowOK.new
  · obtain ⟨s, hs, hi⟩ := hl e he
    exact ⟨s, List.mem_append_left _ hs, hi⟩
  · obtain ⟨s, hs, hi⟩ := hc y hy
    have := hlt s hs
    omega
  · show ((A ++ [newS (B.last + 1) client keep]).map (·.id)).Nodup
    rw [List.map_append, List.nodup_append]
    refine ⟨h.nd.sublist (hA.map _), by simp, fun a ha b hb => ?_⟩
    obtain ⟨s, hs, rfl⟩ := List.mem_map.1 ha
    have := hlt s hs
    rw [List.map_cons, List.map_nil, List.mem_singleton] at hb
    rw [hb]
    show s.id ≠ B.last + 1
    omega
  · rcases List.mem_append.1 hy with hy | hy
    · obtain ⟨s, hs, hi⟩ := hc y hy
      exact ⟨s, List.mem_append_left _ hs, hi⟩
    · rw [List.mem_singleton.1 hy]; exact ⟨newS (B.last + 1) client keep, List.mem_append_right _ (List.mem_singleton.2 rfl), hx.symm⟩
  · rcases hnew hs with hs | rfl
    · rcases List.mem_append.1 hy with hy | hy
      · exact h.onl y hy s (hA.subset hs) e
      · rw [List.mem_singleton.1 hy] at e
        have := hlt s hs
        omega
    · rfl
  · rcases List.mem_append.1 hy with hy | hy
    · exact h.wl y hy
    · rw [List.mem_singleton.1 hy]; exact hw
  · rcases hnew hs with hs | rfl
    · have := h.rng s (hA.subset hs); simp only; omega
    · have := h.last0; show 1 ≤ B.last + 1 ∧ B.last + 1 ≤ B.last + 1; omega
  · show ((A ++ [newS (B.last + 1) client keep]).map (·.id)).Pairwise (· < ·)
    rw [List.map_append, List.pairwise_append]
    refine ⟨h.asc.sublist (hA.map _), by simp, fun a ha b hb => ?_⟩
    obtain ⟨s, hs, rfl⟩ := List.mem_map.1 ha
    have := hlt s hs
    rw [List.map_cons, List.map_nil, List.mem_singleton] at hb
    rw [hb]
    exact this
  · show ((A ++ [newS (B.last + 1) client keep]).map (·.client)).Nodup
    rw [List.map_append, List.nodup_append]
    refine ⟨h.cnd.sublist (hA.map _), by simp, fun a ha b hb => ?_⟩
    obtain ⟨s, hs, rfl⟩ := List.mem_map.1 ha
    rw [List.map_cons, List.map_nil, List.mem_singleton] at hb
    rw [hb]
    exact hn s hs
def dropO (o : Option SesS) (k : Int) (E : List Ent) : List Ent := match o with
  | some s => if s.id ≠ k then dropL s.id E else E
  | none => E
theorem begin_ok {B : BrkS} {n : Nat} {o : Option SesS} {client : ByteArray} {clean keep : Bool} {x : ConnS} (h : BrkOK B n) (ho : ∀ s', ofS client B.ses = some s' → ∃ s, o = some s ∧ s.id = s'.id) (hc : ∀ y ∈ B.conns, ∀ s, o = some s → y.ses ≠ s.id) (h32 : ofS client B.ses = none → B.ses.length < 32)
    (hx : x.ses = (beginB client clean keep B).1.1) (hw : x.will.1.size ≤ 9223372036854775807 ∧ -9223372036854775808 ≤ x.c ∧ x.c ≤ 9223372036854775807) :
    BrkOK ⟨(beginB client clean keep B).2.last, (beginB client clean keep B).2.ses, dropO o (beginB client clean keep B).1.1 B.subs, B.kept, B.conns ++ [x]⟩ (n + 1) ∧ ∃ s ∈ (beginB client clean keep B).2.ses, s.id = (beginB client clean keep B).1.1 := by
  have hdl : ∀ k (E : List Ent), (dropL k E).Sublist E := fun k E => List.filter_sublist
  unfold beginB at hx ⊢
  cases hg : ofS client B.ses with
  | none =>
    rw [hg] at hx
    have hno : ∀ s ∈ B.ses, s.client ≠ client := fun s hs => by simpa using List.find?_eq_none.1 hg s hs
    have hsub : (dropO o (B.last + 1) B.subs).Sublist B.subs := by
      unfold dropO; split
      · split
        · exact hdl _ _
        · exact List.Sublist.refl _
      · exact List.Sublist.refl _
    exact ⟨new_ok h (List.Sublist.refl _) hsub (fun e he => h.live e (hsub.subset he)) h.cl hno (h32 hg) hx hw, newS (B.last + 1) client keep, List.mem_append_right _ (List.mem_singleton.2 rfl), rfl⟩
  | some s' =>
    obtain ⟨s, rfl, hid⟩ := ho s' hg
    have hm : s' ∈ B.ses := List.mem_of_find?_eq_some hg
    have hcl : s'.client = client := by simpa using List.find?_some hg
    have hc' : ∀ y ∈ B.conns, y.ses ≠ s'.id := fun y hy => by rw [← hid]; exact hc y hy s rfl
    rw [hg] at hx
    simp only at hx ⊢
    by_cases hcn : clean = false
    · rw [if_pos hcn] at hx ⊢
      have e : dropO (some s) s'.id B.subs = B.subs := by unfold dropO; simp [hid]
      simp only [e]
      exact ⟨back_ok h hm hc' hx hw, q_dl (f := fun s => { s with on := true, keep := keep }) (fun _ => rfl) ⟨s', hm, rfl⟩⟩
    · rw [if_neg hcn] at hx ⊢
      have hne : s.id ≠ B.last + 1 := by have := (h.rng s' hm).2; omega
      have e : dropO (some s) (B.last + 1) B.subs = dropL s'.id B.subs := by
        show (if s.id ≠ B.last + 1 then dropL s.id B.subs else B.subs) = _
        rw [if_pos hne, hid]
      simp only [e]
      have hkeep : ∀ {i}, i ≠ s'.id → (∃ s ∈ B.ses, s.id = i) → ∃ s ∈ B.ses.filter (fun x => decide (x.id ≠ s'.id)), s.id = i := fun hi ⟨s1, h1, h2⟩ => ⟨s1, List.mem_filter.2 ⟨h1, by rw [h2]; simpa using hi⟩, h2⟩
      have hlt : (B.ses.filter fun x => decide (x.id ≠ s'.id)).length < B.ses.length := by
        refine Nat.lt_of_le_of_ne (List.length_filter_le _ _) fun e => ?_
        have := List.length_filter_eq_length_iff.1 e s' hm
        simp at this
      refine ⟨new_ok h List.filter_sublist (hdl _ _) (fun e he => ?_) (fun y hy => hkeep (hc' y hy) (h.cl y hy)) (fun s1 hs1 e1 => ?_) (Nat.lt_of_lt_of_le hlt h.n32) hx hw, newS (B.last + 1) client keep, List.mem_append_right _ (List.mem_singleton.2 rfl), rfl⟩
      · obtain ⟨h1, h2⟩ := List.mem_filter.1 he
        exact hkeep (by simpa using h2) (h.live e h1)
      · obtain ⟨h1, h2⟩ := List.mem_filter.1 hs1
        have := nodup_eq (f := (·.client)) h.cnd h1 hm (e1.trans hcl.symm)
        subst this
        simp at h2
theorem joinB'_eq {full : Bool} {c : Int} {p : PkI} {T : TurnS} : joinB' full c p T = outOp (beginB p.client p.clean (keepP p.props) (kickT full p.client T).b).1.1 (fun o => beginF o (mostP p.props)) (sendB ⟨c, ackSe (beginB p.client p.clean (keepP p.props) (kickT full p.client T).b).1.2, false⟩
    (tB ⟨(beginB p.client p.clean (keepP p.props) (kickT full p.client T).b).2.last, (beginB p.client p.clean (keepP p.props) (kickT full p.client T).b).2.ses, dropO (ofS p.client T.b.ses) (beginB p.client p.clean (keepP p.props) (kickT full p.client T).b).1.1 (beginB p.client p.clean (keepP p.props) (kickT full p.client T).b).2.subs,
      (beginB p.client p.clean (keepP p.props) (kickT full p.client T).b).2.kept, (beginB p.client p.clean (keepP p.props) (kickT full p.client T).b).2.conns ++ [⟨c, (beginB p.client p.clean (keepP p.props) (kickT full p.client T).b).1.1, p.hasWill, (p.will.1, p.will.2.1, p.will.2.2.1, p.will.2.2.2.1, e0S)⟩]⟩ (kickT full p.client T))) := by
  unfold joinB' kickT dropO
  cases ofS p.client T.b.ses with
  | none => rfl
  | some s => simp only; split <;> rfl
end Go.Proofs.YtidlldnlphdhcaaGreatDoor
