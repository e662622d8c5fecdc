/-
  Cinf: contracts: the flow of what comes from one sender (inflow).
-/
import Derived.Test.YtlgddhcbiioefaaCidu
namespace Go.Proofs.Ytlgddhcbiioefaa
open Go.H Go.Proofs
set_option linter.unusedSimpArgs false
set_option linter.unusedVariables false
set_option synthInstance.maxSize 100000
set_option synthInstance.maxHeartbeats 400000

/-- a packet as a tuple -/
abbrev Pk : Type := Int × Bool × Bool × Int × Int × ByteArray × ByteArray × Int × Slc × Slc × ByteArray × Bool × Int × Bool × ByteArray × ByteArray × Int × Bool × Slc × Bool × Bool × ByteArray × ByteArray × Bool × Slc × Slc × Unit
abbrev Pk_c (p : Pk) : Array Value := #[.int .i64 p.1, .bool p.2.1, .bool p.2.2.1, .int .i64 p.2.2.2.1, .int .i64 p.2.2.2.2.1, .string p.2.2.2.2.2.1, .string p.2.2.2.2.2.2.1, .int .u8 p.2.2.2.2.2.2.2.1, .slice p.2.2.2.2.2.2.2.2.1.a p.2.2.2.2.2.2.2.2.1.len p.2.2.2.2.2.2.2.2.1.cap, .slice p.2.2.2.2.2.2.2.2.2.1.a p.2.2.2.2.2.2.2.2.2.1.len p.2.2.2.2.2.2.2.2.2.1.cap, .string p.2.2.2.2.2.2.2.2.2.2.1, .bool p.2.2.2.2.2.2.2.2.2.2.2.1, .int .i64 p.2.2.2.2.2.2.2.2.2.2.2.2.1, .bool p.2.2.2.2.2.2.2.2.2.2.2.2.2.1, .string p.2.2.2.2.2.2.2.2.2.2.2.2.2.2.1, .string p.2.2.2.2.2.2.2.2.2.2.2.2.2.2.2.1, .int .i64 p.2.2.2.2.2.2.2.2.2.2.2.2.2.2.2.2.1, .bool p.2.2.2.2.2.2.2.2.2.2.2.2.2.2.2.2.2.1, .slice p.2.2.2.2.2.2.2.2.2.2.2.2.2.2.2.2.2.2.1.a p.2.2.2.2.2.2.2.2.2.2.2.2.2.2.2.2.2.2.1.len p.2.2.2.2.2.2.2.2.2.2.2.2.2.2.2.2.2.2.1.cap, .bool p.2.2.2.2.2.2.2.2.2.2.2.2.2.2.2.2.2.2.2.1, .bool p.2.2.2.2.2.2.2.2.2.2.2.2.2.2.2.2.2.2.2.2.1, .string p.2.2.2.2.2.2.2.2.2.2.2.2.2.2.2.2.2.2.2.2.2.1, .string p.2.2.2.2.2.2.2.2.2.2.2.2.2.2.2.2.2.2.2.2.2.2.1, .bool p.2.2.2.2.2.2.2.2.2.2.2.2.2.2.2.2.2.2.2.2.2.2.2.1, .slice p.2.2.2.2.2.2.2.2.2.2.2.2.2.2.2.2.2.2.2.2.2.2.2.2.1.a p.2.2.2.2.2.2.2.2.2.2.2.2.2.2.2.2.2.2.2.2.2.2.2.2.1.len p.2.2.2.2.2.2.2.2.2.2.2.2.2.2.2.2.2.2.2.2.2.2.2.2.1.cap, .slice p.2.2.2.2.2.2.2.2.2.2.2.2.2.2.2.2.2.2.2.2.2.2.2.2.2.1.a p.2.2.2.2.2.2.2.2.2.2.2.2.2.2.2.2.2.2.2.2.2.2.2.2.2.1.len p.2.2.2.2.2.2.2.2.2.2.2.2.2.2.2.2.2.2.2.2.2.2.2.2.2.1.cap]
abbrev Pk_v (p : Pk) : Value := .agg #[.int .i64 p.1, .bool p.2.1, .bool p.2.2.1, .int .i64 p.2.2.2.1, .int .i64 p.2.2.2.2.1, .string p.2.2.2.2.2.1, .string p.2.2.2.2.2.2.1, .int .u8 p.2.2.2.2.2.2.2.1, .slice p.2.2.2.2.2.2.2.2.1.a p.2.2.2.2.2.2.2.2.1.len p.2.2.2.2.2.2.2.2.1.cap, .slice p.2.2.2.2.2.2.2.2.2.1.a p.2.2.2.2.2.2.2.2.2.1.len p.2.2.2.2.2.2.2.2.2.1.cap, .string p.2.2.2.2.2.2.2.2.2.2.1, .bool p.2.2.2.2.2.2.2.2.2.2.2.1, .int .i64 p.2.2.2.2.2.2.2.2.2.2.2.2.1, .bool p.2.2.2.2.2.2.2.2.2.2.2.2.2.1, .string p.2.2.2.2.2.2.2.2.2.2.2.2.2.2.1, .string p.2.2.2.2.2.2.2.2.2.2.2.2.2.2.2.1, .int .i64 p.2.2.2.2.2.2.2.2.2.2.2.2.2.2.2.2.1, .bool p.2.2.2.2.2.2.2.2.2.2.2.2.2.2.2.2.2.1, .slice p.2.2.2.2.2.2.2.2.2.2.2.2.2.2.2.2.2.2.1.a p.2.2.2.2.2.2.2.2.2.2.2.2.2.2.2.2.2.2.1.len p.2.2.2.2.2.2.2.2.2.2.2.2.2.2.2.2.2.2.1.cap, .bool p.2.2.2.2.2.2.2.2.2.2.2.2.2.2.2.2.2.2.2.1, .bool p.2.2.2.2.2.2.2.2.2.2.2.2.2.2.2.2.2.2.2.2.1, .string p.2.2.2.2.2.2.2.2.2.2.2.2.2.2.2.2.2.2.2.2.2.1, .string p.2.2.2.2.2.2.2.2.2.2.2.2.2.2.2.2.2.2.2.2.2.2.1, .bool p.2.2.2.2.2.2.2.2.2.2.2.2.2.2.2.2.2.2.2.2.2.2.2.1, .slice p.2.2.2.2.2.2.2.2.2.2.2.2.2.2.2.2.2.2.2.2.2.2.2.2.1.a p.2.2.2.2.2.2.2.2.2.2.2.2.2.2.2.2.2.2.2.2.2.2.2.2.1.len p.2.2.2.2.2.2.2.2.2.2.2.2.2.2.2.2.2.2.2.2.2.2.2.2.1.cap, .slice p.2.2.2.2.2.2.2.2.2.2.2.2.2.2.2.2.2.2.2.2.2.2.2.2.2.1.a p.2.2.2.2.2.2.2.2.2.2.2.2.2.2.2.2.2.2.2.2.2.2.2.2.2.1.len p.2.2.2.2.2.2.2.2.2.2.2.2.2.2.2.2.2.2.2.2.2.2.2.2.2.1.cap]
abbrev Pk_t : List Tag := [.int .i64, .bool, .bool, .int .i64, .int .i64, .str, .str, .int .u8, .slc, .slc, .str, .bool, .int .i64, .bool, .str, .str, .int .i64, .bool, .slc, .bool, .bool, .str, .str, .bool, .slc, .slc]
abbrev Pk_z : Pk := (0, false, false, 0, 0, ByteArray.mk #[], ByteArray.mk #[], 0, ⟨none, 0, 0⟩, ⟨none, 0, 0⟩, ByteArray.mk #[], false, 0, false, ByteArray.mk #[], ByteArray.mk #[], 0, false, ⟨none, 0, 0⟩, false, false, ByteArray.mk #[], ByteArray.mk #[], false, ⟨none, 0, 0⟩, ⟨none, 0, 0⟩, ())
/-- a packet of a kind, an identifier and a code -/
abbrev Pk_a (k id c : Int) : Pk := (k, false, false, 0, id, ByteArray.mk #[], ByteArray.mk #[], c, ⟨none, 0, 0⟩, ⟨none, 0, 0⟩, ByteArray.mk #[], false, 0, false, ByteArray.mk #[], ByteArray.mk #[], 0, false, ⟨none, 0, 0⟩, false, false, ByteArray.mk #[], ByteArray.mk #[], false, ⟨none, 0, 0⟩, ⟨none, 0, 0⟩, ())

/-! ### slices of integers -/

theorem Index_spec {h : Heap} {s : Slc} {xs : List Int} {x : Int} (hx : RowAt eI 1 h s xs) (hb : xs.length ≤ 4611686018427387904) {Q : Value → Heap → Prop}
    (hno : x ∉ xs → Q (.int .i64 (-1)) h) (hyes : x ∈ xs → ∀ i : Nat, xs[i]? = some x → Q (.int .i64 i) h) :
    HCalls Try.prog 28 #[.slice s.a s.len s.cap, .int .i64 x] h Q := by
  refine slices_Index_calls s x h Q ?_
  unfold slices_Index
  simp
  have h1 := hx.1
  refine loop_gx (γ := Nat) (fun i c h' => h' = h ∧ c.1 = (i : Int) ∧ i ≤ xs.length ∧ x ∉ xs.take i) (fun i => xs.length - i) 0 ⟨rfl, rfl, Nat.zero_le _, by simp⟩ ?_
  rintro i ⟨c, ⟨⟩⟩ h' ⟨rfl, hc, hi, hn⟩
  simp only at hc
  subst hc
  have next : IntKind.wrap .i64 ((i : Int) + 1) = ((i + 1 : Nat) : Int) := by rw [wrap_id (by omega) (by omega)]; rfl
  simp
  by_cases hlt : i < xs.length
  · rw [if_pos (by omega)]
    refine idx_row hx (List.getElem?_eq_getElem hlt) fun a ha => ?_
    have c0 : cellH h' a = some (.int .i64 xs[i]) := by simpa [Go.H.add_zero] using ha 0 _ rfl
    simp [c0]
    by_cases he : x = xs[i]
    · rw [if_pos he]
      exact hyes (he ▸ List.getElem_mem hlt) i (by rw [he]; exact List.getElem?_eq_getElem hlt)
    · rw [if_neg he]
      refine .mk (i + 1) (by omega) ⟨rfl, next, by omega, fun hm => ?_⟩
      rw [List.take_succ_eq_append_getElem hlt, List.mem_append] at hm
      rcases hm with hm | hm
      · exact hn hm
      · exact he (List.mem_singleton.1 hm)
  · rw [if_neg (by omega)]
    rw [List.take_of_length_le (by omega)] at hn
    exact hno hn

theorem Contains_spec {h : Heap} {s : Slc} {xs : List Int} {x : Int} (hx : RowAt eI 1 h s xs) (hb : xs.length ≤ 4611686018427387904) {Q : Value → Heap → Prop}
    (hq : Q (.bool (decide (x ∈ xs))) h) :
    HCalls Try.prog 24 #[.slice s.a s.len s.cap, .int .i64 x] h Q := by
  refine slices_Contains_calls s x h Q ?_
  unfold slices_Contains
  simp
  refine Index_spec hx hb (fun hn => ?_) (fun hy i hi => ?_)
  · simpa [hn] using hq
  · simpa [hy] using hq

/-! ### the flow -/

def flowA (f : Nat) (s : PoolS) : Asn := exA fun b : Nat => star (cells f #[at0 b]) (poolA b s)

theorem flowA_iff {h : Heap} {f : Nat} {s : PoolS} {R : List Asn} : sat h (flowA f s :: R) ↔ ∃ b : Nat, sat h (cells f #[at0 b] :: poolA b s :: R) := by
  unfold flowA
  rw [sat.ex_iff]
  constructor
  · rintro ⟨b, hs⟩; exact ⟨b, sat.star_iff.1 hs⟩
  · rintro ⟨b, hs⟩; exact ⟨b, sat.star_iff.2 hs⟩

theorem infNew_spec {h : Heap} {R : List Asn} (hs : sat h R) (most : Int) {Q : Value → Heap → Prop}
    (hq : ∀ b h', sat h' (flowA b ⟨max 1 (min most 64), 0, []⟩ :: R) → Q (at0 b) h') : HCalls Try.prog 6 #[.int .i64 most] h Q := by
  refine inflow_New_calls most h Q ?_
  unfold inflow_New
  simp only [HM.bind_apply, HM.call1_apply]
  refine New_spec hs most fun b h1 hs1 => ?_
  simp only [un_ptr, HM.bind_apply]
  refine new_cells hs1 fun f h2 hs2 => ?_
  exact hq f h2 (flowA_iff.2 ⟨b, hs2⟩)

theorem infHas_spec {h : Heap} {R : List Asn} {f : Nat} {s : PoolS} {k : Int} (hs : sat h (flowA f s :: R)) {Q : Value → Heap → Prop}
    (hq : ∀ h', sat h' (flowA f s :: R) → Q (.bool (decide (k ∈ s.used))) h') : HCalls Try.prog 18 #[at0 f, .int .i64 k] h Q := by
  refine inflow_Flow_has_calls _ k h Q ?_
  obtain ⟨b, hs⟩ := flowA_iff.1 hs
  have c0 : cellH h ⟨f, 0, none⟩ = some (at0 b) := hs.cell 0
  unfold inflow_Flow_has
  simp [c0]
  refine Used_spec hs.p1 fun sl h1 hs1 => ?_
  obtain ⟨_, hok, -⟩ := poolA_iff.1 hs1.p1
  have hl := hok.len
  have hm := hok.most64
  simp only [un_slc]
  refine Contains_spec (hs1.own_row eI_len) (by simp [sortI, List.length_mergeSort]; omega) ?_
  have e : decide (k ∈ sortI s.used) = decide (k ∈ s.used) := by simp [sortI]
  simp only [un_bool, e]
  exact hq h1 (flowA_iff.2 ⟨b, hs1.drop.p1⟩)

theorem infAnswer_spec {h : Heap} {R : List Asn} (hs : sat h R) (k id c : Int) {Q : Value → Heap → Prop}
    (hq : ∀ b h', sat h' (cells b (Pk_c (Pk_a k id c)) :: R) → Q (.slice (some ⟨b, 0, none⟩) 1 1) h') : HCalls Try.prog 15 #[.int .i64 k, .int .i64 id, .int .u8 c] h Q := by
  refine inflow_answer_calls k id c h Q ?_
  unfold inflow_answer
  simp only [HM.bind_apply]
  refine new_cells hs fun b h1 hs1 => ?_
  simp only [HM.call1_apply]
  refine inflow_all_calls ⟨some ⟨b, 0, none⟩, 1, 1⟩ h1 _ ?_
  unfold inflow_all
  simp
  exact hq b h1 hs1

/-- what a flow answers to a packet of this kind, QoS and identifier: is it fresh, the answer's kind and code, the code, what is open behind it -/
def takeBad (k q id : Int) : Prop := (k ≠ 3 ∧ k ≠ 6) ∨ (k = 3 ∧ (q < 0 ∨ 2 < q)) ∨ (¬ (k = 3 ∧ q = 0) ∧ (id < 1 ∨ 65535 < id))
instance (k q id : Int) : Decidable (takeBad k q id) := by unfold takeBad; infer_instance

def takeR (s : PoolS) (k q id why : Int) : Bool × Option (Int × Int) × Int × List Int :=
  if takeBad k q id then (false, none, 130, s.used)
  else if k = 3 ∧ q = 0 then (true, none, 0, s.used)
  else if k = 6 then (false, some (7, if id ∈ s.used then 0 else 146), 0, s.used.erase id)
  else if q = 1 then (true, some (4, why), 0, s.used)
  else if id ∈ s.used then (false, some (5, 0), 0, s.used)
  else if (s.used.length : Int) = s.most then (false, none, 147, s.used)
  else (true, some (5, why), 0, if why < 128 then s.used ++ [id] else s.used)

theorem infTwo_spec {h : Heap} {R : List Asn} {f : Nat} {s : PoolS} {id why : Int} (hs : sat h (flowA f s :: R)) (h1 : 1 ≤ id) (h2 : id ≤ 65535) {Q : Value → Heap → Prop}
    (hn : (takeR s 3 2 id why).2.1 = none → ∀ h', sat h' (flowA f ⟨s.most, s.taken, (takeR s 3 2 id why).2.2.2⟩ :: R) → Q (.tuple #[.bool (takeR s 3 2 id why).1, .slice none 0 0, .int .u8 (takeR s 3 2 id why).2.2.1]) h')
    (hy : ∀ k c, (takeR s 3 2 id why).2.1 = some (k, c) → ∀ b h', sat h' (cells b (Pk_c (Pk_a k id c)) :: flowA f ⟨s.most, s.taken, (takeR s 3 2 id why).2.2.2⟩ :: R) →
      Q (.tuple #[.bool (takeR s 3 2 id why).1, .slice (some ⟨b, 0, none⟩) 1 1, .int .u8 (takeR s 3 2 id why).2.2.1]) h') :
    HCalls Try.prog 16 #[at0 f, .int .i64 id, .int .u8 why] h Q := by
  have nb : ¬ takeBad 3 2 id := by unfold takeBad; omega
  simp [takeR, nb] at hn hy
  refine inflow_Flow_two_calls _ id why h Q ?_
  unfold inflow_Flow_two
  simp
  refine infHas_spec hs fun h3 hs3 => ?_
  by_cases g1 : id ∈ s.used
  · simp [g1] at hy ⊢
    exact infAnswer_spec hs3 5 id 0 fun b h4 hs4 => by simpa using hy b h4 hs4
  · obtain ⟨b, hs3'⟩ := flowA_iff.1 hs3
    have c0 : cellH h3 ⟨f, 0, none⟩ = some (at0 b) := hs3'.cell 0
    obtain ⟨_, hok, -⟩ := poolA_iff.1 hs3'.p1
    have hl := hok.len
    simp [g1, c0] at hn hy ⊢
    refine Left_spec hs3'.p1 ?_
    by_cases g2 : (s.used.length : Int) = s.most
    · simp [g2] at hn ⊢
      exact hn h3 hs3
    · have g3 : ¬ s.most - (s.used.length : Int) = 0 := by omega
      simp [g2, g3] at hy ⊢
      by_cases g4 : why < 128
      · simp [g4, c0] at hy ⊢
        have hc : claimCode s id = 0 := by simp [claimCode, g1, g2]; omega
        refine Claim_spec hs3'.p1 (fun hx => absurd hc hx) (fun _ h4 hs4 => ?_)
        simp
        have hs5 := flowA_iff.2 ⟨b, hs4.p1⟩
        exact infAnswer_spec hs5 5 id why fun b h5 hs5 => by simpa using hy b h5 hs5
      · simp [g4] at hy ⊢
        exact infAnswer_spec hs3 5 id why fun b h5 hs5 => by simpa using hy b h5 hs5

theorem infTake_spec {h : Heap} {R : List Asn} {f : Nat} {s : PoolS} {p : Pk} {why : Int} (hs : sat h (flowA f s :: R)) {Q : Value → Heap → Prop}
    (hn : (takeR s p.1 p.2.2.2.1 p.2.2.2.2.1 why).2.1 = none → ∀ h', sat h' (flowA f ⟨s.most, s.taken, (takeR s p.1 p.2.2.2.1 p.2.2.2.2.1 why).2.2.2⟩ :: R) → Q (.tuple #[.bool (takeR s p.1 p.2.2.2.1 p.2.2.2.2.1 why).1, .slice none 0 0, .int .u8 (takeR s p.1 p.2.2.2.1 p.2.2.2.2.1 why).2.2.1]) h')
    (hy : ∀ k c, (takeR s p.1 p.2.2.2.1 p.2.2.2.2.1 why).2.1 = some (k, c) → ∀ b h', sat h' (cells b (Pk_c (Pk_a k p.2.2.2.2.1 c)) :: flowA f ⟨s.most, s.taken, (takeR s p.1 p.2.2.2.1 p.2.2.2.2.1 why).2.2.2⟩ :: R) →
      Q (.tuple #[.bool (takeR s p.1 p.2.2.2.1 p.2.2.2.2.1 why).1, .slice (some ⟨b, 0, none⟩) 1 1, .int .u8 (takeR s p.1 p.2.2.2.1 p.2.2.2.2.1 why).2.2.1]) h') :
    HCalls Try.prog 8 #[at0 f, Pk_v p, .int .u8 why] h Q := by
  refine inflow_Flow_Take_calls _ p why h Q ?_
  unfold inflow_Flow_Take
  simp only [HM.bind_apply]
  refine new_cells hs fun pb h1 hs0 => ?_
  obtain ⟨cs, hcs⟩ : ∃ cs, cs = Pk_c p := ⟨_, rfl⟩
  have hs1 : sat h1 (cells pb cs :: flowA f s :: R) := by rw [hcs]; exact hs0
  clear hs0
  have e0 : cs[0]? = some (.int .i64 p.1) := by rw [hcs]; rfl
  have e3 : cs[3]? = some (.int .i64 p.2.2.2.1) := by rw [hcs]; rfl
  have e4 : cs[4]? = some (.int .i64 p.2.2.2.2.1) := by rw [hcs]; rfl
  clear hcs
  generalize p.1 = k at *
  generalize p.2.2.2.1 = q at *
  generalize p.2.2.2.2.1 = id at *
  have c0 : cellH h1 ⟨pb, 0, none⟩ = some (.int .i64 k) := (hs1.cell 0).trans e0
  have c3 : cellH h1 ⟨pb, 3, none⟩ = some (.int .i64 q) := (hs1.cell 3).trans e3
  have c4 : cellH h1 ⟨pb, 4, none⟩ = some (.int .i64 id) := (hs1.cell 4).trans e4
  have bad : takeBad k q id → Q (.tuple #[.bool false, .slice none 0 0, .int .u8 130]) h1 := fun g => by
    simp [takeR, g] at hn
    exact hn h1 hs1.drop
  by_cases k3 : k = 3
  · subst k3
    by_cases q0 : q < 0
    · have := bad (by unfold takeBad; omega)
      simp [c0, c3, q0]
      exact this
    by_cases q2 : 2 < q
    · have := bad (by unfold takeBad; omega)
      simp [c0, c3, q0, q2]
      exact this
    by_cases qz : q = 0
    · subst qz
      have nb : ¬ takeBad 3 0 id := by unfold takeBad; omega
      simp [takeR, nb] at hn
      have := hn h1 hs1.drop
      simp [c0, c3]
      exact this
    by_cases i1 : id < 1
    · have := bad (by unfold takeBad; omega)
      simp [c0, c3, c4, q0, q2, qz, i1]
      exact this
    by_cases i2 : 65535 < id
    · have := bad (by unfold takeBad; omega)
      simp [c0, c3, c4, q0, q2, qz, i1, i2]
      exact this
    by_cases q1 : q = 1
    · subst q1
      have nb : ¬ takeBad 3 1 id := by unfold takeBad; omega
      simp [takeR, nb] at hy
      simp [c0, c3, c4, i1, i2]
      refine infAnswer_spec hs1.drop 4 id why fun b h2 hs2 => ?_
      simpa using hy b h2 hs2
    · have hq2 : q = 2 := by omega
      subst hq2
      simp [c0, c3, c4, i1, i2]
      exact infTwo_spec hs1.drop (by omega) (by omega) (fun g h' hs' => by simpa using hn g h' hs') (fun k c g b h' hs' => by simpa using hy k c g b h' hs')
  by_cases k6 : k = 6
  · subst k6
    by_cases i1 : id < 1
    · have := bad (by unfold takeBad; omega)
      simp [c0, c3, c4, i1]
      exact this
    by_cases i2 : 65535 < id
    · have := bad (by unfold takeBad; omega)
      simp [c0, c3, c4, i1, i2]
      exact this
    have nb : ¬ takeBad 6 q id := by unfold takeBad; omega
    simp [takeR, nb] at hy
    obtain ⟨b, hsf⟩ := flowA_iff.1 hs1.p1
    have f0 : cellH h1 ⟨f, 0, none⟩ = some (at0 b) := hsf.cell 0
    simp [c0, c3, c4, i1, i2, f0]
    refine Free_spec hsf.p1 fun h2 hs2 => ?_
    have hs3 : sat h2 (cells pb cs :: flowA f ⟨s.most, s.taken, s.used.erase id⟩ :: R) := (flowA_iff.2 ⟨b, hs2.p1⟩).p1
    have d0 : cellH h2 ⟨pb, 0, none⟩ = some (.int .i64 6) := (hs3.cell 0).trans e0
    have d4 : cellH h2 ⟨pb, 4, none⟩ = some (.int .i64 id) := (hs3.cell 4).trans e4
    by_cases hm : id ∈ s.used
    · simp [hm, d0, d4] at hy ⊢
      refine infAnswer_spec hs3.drop 7 id 0 fun b h4 hs4 => ?_
      simpa using hy b h4 hs4
    · simp [hm, d0, d4] at hy ⊢
      refine infAnswer_spec hs3.drop 7 id 146 fun b h4 hs4 => ?_
      simpa [hm] using hy b h4 hs4
  · have := bad (by unfold takeBad; omega)
    simp [c0, k3, k6]
    exact this

end Go.Proofs.Ytlgddhcbiioefaa
