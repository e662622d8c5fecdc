/-
  C15: contracts: made and wakes of law 15; calls on nil.
-/
import Derived.Test.YtlgddhcbiioefaaCinf
namespace Go.Proofs.Ytlgddhcbiioefaa
open Go.H Go.Proofs
set_option linter.unusedSimpArgs false
set_option linter.unusedVariables false
set_option synthInstance.maxSize 100000
set_option synthInstance.maxHeartbeats 400000

abbrev Rk : Type := Int × Bool × Bool × Int × Int × ByteArray × ByteArray × Int × Slc × Slc × ByteArray × Bool × Int × Bool × ByteArray × ByteArray × Int × Bool × Slc × Bool × Bool × ByteArray × ByteArray × Bool × Slc × Slc × Unit
abbrev Rk_c (p : Rk) : Array Value := #[.int .i64 p.1, .bool p.2.1, .bool p.2.2.1, .int .i64 p.2.2.2.1, .int .i64 p.2.2.2.2.1, .string p.2.2.2.2.2.1, .string p.2.2.2.2.2.2.1, .int .i64 p.2.2.2.2.2.2.2.1, .slice p.2.2.2.2.2.2.2.2.1.a p.2.2.2.2.2.2.2.2.1.len p.2.2.2.2.2.2.2.2.1.cap, .slice p.2.2.2.2.2.2.2.2.2.1.a p.2.2.2.2.2.2.2.2.2.1.len p.2.2.2.2.2.2.2.2.2.1.cap, .string p.2.2.2.2.2.2.2.2.2.2.1, .bool p.2.2.2.2.2.2.2.2.2.2.2.1, .int .i64 p.2.2.2.2.2.2.2.2.2.2.2.2.1, .bool p.2.2.2.2.2.2.2.2.2.2.2.2.2.1, .string p.2.2.2.2.2.2.2.2.2.2.2.2.2.2.1, .string p.2.2.2.2.2.2.2.2.2.2.2.2.2.2.2.1, .int .i64 p.2.2.2.2.2.2.2.2.2.2.2.2.2.2.2.2.1, .bool p.2.2.2.2.2.2.2.2.2.2.2.2.2.2.2.2.2.1, .slice p.2.2.2.2.2.2.2.2.2.2.2.2.2.2.2.2.2.2.1.a p.2.2.2.2.2.2.2.2.2.2.2.2.2.2.2.2.2.2.1.len p.2.2.2.2.2.2.2.2.2.2.2.2.2.2.2.2.2.2.1.cap, .bool p.2.2.2.2.2.2.2.2.2.2.2.2.2.2.2.2.2.2.2.1, .bool p.2.2.2.2.2.2.2.2.2.2.2.2.2.2.2.2.2.2.2.2.1, .string p.2.2.2.2.2.2.2.2.2.2.2.2.2.2.2.2.2.2.2.2.2.1, .string p.2.2.2.2.2.2.2.2.2.2.2.2.2.2.2.2.2.2.2.2.2.2.1, .bool p.2.2.2.2.2.2.2.2.2.2.2.2.2.2.2.2.2.2.2.2.2.2.2.1, .slice p.2.2.2.2.2.2.2.2.2.2.2.2.2.2.2.2.2.2.2.2.2.2.2.2.1.a p.2.2.2.2.2.2.2.2.2.2.2.2.2.2.2.2.2.2.2.2.2.2.2.2.1.len p.2.2.2.2.2.2.2.2.2.2.2.2.2.2.2.2.2.2.2.2.2.2.2.2.1.cap, .slice p.2.2.2.2.2.2.2.2.2.2.2.2.2.2.2.2.2.2.2.2.2.2.2.2.2.1.a p.2.2.2.2.2.2.2.2.2.2.2.2.2.2.2.2.2.2.2.2.2.2.2.2.2.1.len p.2.2.2.2.2.2.2.2.2.2.2.2.2.2.2.2.2.2.2.2.2.2.2.2.2.1.cap]
abbrev Rk_v (p : Rk) : Value := .agg #[.int .i64 p.1, .bool p.2.1, .bool p.2.2.1, .int .i64 p.2.2.2.1, .int .i64 p.2.2.2.2.1, .string p.2.2.2.2.2.1, .string p.2.2.2.2.2.2.1, .int .i64 p.2.2.2.2.2.2.2.1, .slice p.2.2.2.2.2.2.2.2.1.a p.2.2.2.2.2.2.2.2.1.len p.2.2.2.2.2.2.2.2.1.cap, .slice p.2.2.2.2.2.2.2.2.2.1.a p.2.2.2.2.2.2.2.2.2.1.len p.2.2.2.2.2.2.2.2.2.1.cap, .string p.2.2.2.2.2.2.2.2.2.2.1, .bool p.2.2.2.2.2.2.2.2.2.2.2.1, .int .i64 p.2.2.2.2.2.2.2.2.2.2.2.2.1, .bool p.2.2.2.2.2.2.2.2.2.2.2.2.2.1, .string p.2.2.2.2.2.2.2.2.2.2.2.2.2.2.1, .string p.2.2.2.2.2.2.2.2.2.2.2.2.2.2.2.1, .int .i64 p.2.2.2.2.2.2.2.2.2.2.2.2.2.2.2.2.1, .bool p.2.2.2.2.2.2.2.2.2.2.2.2.2.2.2.2.2.1, .slice p.2.2.2.2.2.2.2.2.2.2.2.2.2.2.2.2.2.2.1.a p.2.2.2.2.2.2.2.2.2.2.2.2.2.2.2.2.2.2.1.len p.2.2.2.2.2.2.2.2.2.2.2.2.2.2.2.2.2.2.1.cap, .bool p.2.2.2.2.2.2.2.2.2.2.2.2.2.2.2.2.2.2.2.1, .bool p.2.2.2.2.2.2.2.2.2.2.2.2.2.2.2.2.2.2.2.2.1, .string p.2.2.2.2.2.2.2.2.2.2.2.2.2.2.2.2.2.2.2.2.2.1, .string p.2.2.2.2.2.2.2.2.2.2.2.2.2.2.2.2.2.2.2.2.2.2.1, .bool p.2.2.2.2.2.2.2.2.2.2.2.2.2.2.2.2.2.2.2.2.2.2.2.1, .slice p.2.2.2.2.2.2.2.2.2.2.2.2.2.2.2.2.2.2.2.2.2.2.2.2.1.a p.2.2.2.2.2.2.2.2.2.2.2.2.2.2.2.2.2.2.2.2.2.2.2.2.1.len p.2.2.2.2.2.2.2.2.2.2.2.2.2.2.2.2.2.2.2.2.2.2.2.2.1.cap, .slice p.2.2.2.2.2.2.2.2.2.2.2.2.2.2.2.2.2.2.2.2.2.2.2.2.2.1.a p.2.2.2.2.2.2.2.2.2.2.2.2.2.2.2.2.2.2.2.2.2.2.2.2.2.1.len p.2.2.2.2.2.2.2.2.2.2.2.2.2.2.2.2.2.2.2.2.2.2.2.2.2.1.cap]
abbrev Rk_t : List Tag := [.int .i64, .bool, .bool, .int .i64, .int .i64, .str, .str, .int .i64, .slc, .slc, .str, .bool, .int .i64, .bool, .str, .str, .int .i64, .bool, .slc, .bool, .bool, .str, .str, .bool, .slc, .slc]
abbrev Rk_z : Rk := (0, false, false, 0, 0, ByteArray.mk #[], ByteArray.mk #[], 0, ⟨none, 0, 0⟩, ⟨none, 0, 0⟩, ByteArray.mk #[], false, 0, false, ByteArray.mk #[], ByteArray.mk #[], 0, false, ⟨none, 0, 0⟩, false, false, ByteArray.mk #[], ByteArray.mk #[], false, ⟨none, 0, 0⟩, ⟨none, 0, 0⟩, ())

/-- the kind of an act's packet -/
def kOf (a : Int) : Int := if (if 0 < a then a else 0).tmod 4 = 1 then 6 else if (if 0 < a then a else 0).tmod 4 = 3 then 4 else 3
abbrev Pk_m (k q id : Int) : Pk := (k, false, false, q, id, ByteArray.mk #[116], ByteArray.mk #[], 0, ⟨none, 0, 0⟩, ⟨none, 0, 0⟩, ByteArray.mk #[], false, 0, false, ByteArray.mk #[], ByteArray.mk #[], 0, false, ⟨none, 0, 0⟩, false, false, ByteArray.mk #[], ByteArray.mk #[], false, ⟨none, 0, 0⟩, ⟨none, 0, 0⟩, ())

theorem made_spec {h : Heap} {R : List Asn} (hs : sat h R) (a q id why : Int) (cl : Bool) {Q : Value → Heap → Prop}
    (hq : ∀ h', sat h' R → Q (.tuple #[Pk_v (Pk_m (kOf a) q id), Rk_v (Pk_m (kOf a) q id)]) h') : HCalls Try.prog 7 #[.agg #[.int .i64 a, .int .i64 q, .int .i64 id, .int .u8 why, .bool cl]] h Q := by
  refine law15_made_calls (a, q, id, why, cl, ()) h Q ?_
  unfold law15_made
  simp only [HM.bind_apply]
  refine new_cells hs fun b1 h1 hs1 => ?_
  refine new_cells hs1 fun b2 h2 hs2 => ?_
  refine new_cells hs2 fun b3 h3 hs3 => ?_
  refine new_cells hs3 fun b4 h4 hs4 => ?_
  have c0 : cellH h4 ⟨b1, 0, none⟩ = some (.int .i64 a) := hs4.p3.cell 0
  have c1 : cellH h4 ⟨b1, 1, none⟩ = some (.int .i64 q) := hs4.p3.cell 1
  have c2 : cellH h4 ⟨b1, 2, none⟩ = some (.int .i64 id) := hs4.p3.cell 2
  have r0 : 0 ≤ (if 0 < a then a else 0).tmod 4 := Int.tmod_nonneg _ (by split <;> omega)
  have r1 : (if 0 < a then a else 0).tmod 4 < 4 := Int.tmod_lt_of_pos _ (by omega)
  have hk : cellH h4 ⟨b4, ((if 0 < a then a else 0).tmod 4).toNat, none⟩ = some (.int .i64 (kOf a)) := by
    rw [hs4.cell]
    have hc : (if 0 < a then a else 0).tmod 4 = 0 ∨ (if 0 < a then a else 0).tmod 4 = 1 ∨ (if 0 < a then a else 0).tmod 4 = 2 ∨ (if 0 < a then a else 0).tmod 4 = 3 := by omega
    rcases hc with e | e | e | e <;> simp [kOf, e]
  simp [c0]
  refine idx_at r0 (by simpa using r1) ?_
  simp [add_own, hk, c1, c2]
  refine storeN_all' (b := b2) hs4.p2 rfl rfl fun h5 hs5 => ?_
  have d1 : cellH h5 ⟨b1, 1, none⟩ = some (.int .i64 q) := hs5.p3.cell 1
  have d2 : cellH h5 ⟨b1, 2, none⟩ = some (.int .i64 id) := hs5.p3.cell 2
  simp [d1, d2]
  refine storeN_all' (b := b3) hs5.p2 rfl rfl fun h6 hs6 => ?_
  refine loadN_cells (Pk_m (kOf a) q id) hs6.p1 rfl ?_
  refine loadN_cells (Pk_m (kOf a) q id) hs6 rfl ?_
  exact hq h6 hs6.drop.drop.drop.drop

theorem wakes15_spec {h : Heap} {R : List Asn} (hs : sat h R) {Q : Value → Heap → Prop} (hq : ∀ h', sat h' R → Q (.bool true) h') : HCalls Try.prog 9 #[] h Q := by
  refine law15_wakes_calls h Q ?_
  unfold law15_wakes
  refine bind_call1 (infNew_spec hs 5 fun f h1 hs1 => ⟨some ⟨f, 0, none⟩, rfl, ?_⟩)
  refine new_cells hs1 fun pb h2 hs2 => ?_
  refine storeN_all' hs2 rfl rfl fun h3 hs3 => ?_
  refine loadN_cells (3, false, false, 2, 7, ByteArray.mk #[], ByteArray.mk #[], 0, ⟨none, 0, 0⟩, ⟨none, 0, 0⟩, ByteArray.mk #[], false, 0, false, ByteArray.mk #[], ByteArray.mk #[], 0, false, ⟨none, 0, 0⟩, false, false, ByteArray.mk #[], ByteArray.mk #[], false, ⟨none, 0, 0⟩, ⟨none, 0, 0⟩, ()) hs3 rfl ?_
  have t1 : takeR ⟨max 1 (min 5 64), 0, []⟩ 3 2 7 0 = (true, some (5, 0), 0, [7]) := by decide
  have t2 : takeR ⟨max 1 (min 5 64), 0, [7]⟩ 3 2 7 0 = (false, some (5, 0), 0, [7]) := by decide
  refine bind_callN (infTake_spec (p := (3, false, false, 2, 7, ByteArray.mk #[], ByteArray.mk #[], 0, ⟨none, 0, 0⟩, ⟨none, 0, 0⟩, ByteArray.mk #[], false, 0, false, ByteArray.mk #[], ByteArray.mk #[], 0, false, ⟨none, 0, 0⟩, false, false, ByteArray.mk #[], ByteArray.mk #[], false, ⟨none, 0, 0⟩, ⟨none, 0, 0⟩, ())) hs3.p1 ?_ ?_)
  · intro hn
    simp only [] at hn
    rw [t1] at hn
    cases hn
  intro k c hk b h4 hs4
  simp only [] at hk hs4 ⊢
  rw [t1] at hk hs4 ⊢
  cases hk
  refine ⟨(true, ⟨some ⟨b, 0, none⟩, 1, 1⟩, 0, ()), rfl, ?_⟩
  refine loadN_cells (3, false, false, 2, 7, ByteArray.mk #[], ByteArray.mk #[], 0, ⟨none, 0, 0⟩, ⟨none, 0, 0⟩, ByteArray.mk #[], false, 0, false, ByteArray.mk #[], ByteArray.mk #[], 0, false, ⟨none, 0, 0⟩, false, false, ByteArray.mk #[], ByteArray.mk #[], false, ⟨none, 0, 0⟩, ⟨none, 0, 0⟩, ()) hs4.p2 rfl ?_
  refine bind_callN (infTake_spec (p := (3, false, false, 2, 7, ByteArray.mk #[], ByteArray.mk #[], 0, ⟨none, 0, 0⟩, ⟨none, 0, 0⟩, ByteArray.mk #[], false, 0, false, ByteArray.mk #[], ByteArray.mk #[], 0, false, ⟨none, 0, 0⟩, false, false, ByteArray.mk #[], ByteArray.mk #[], false, ⟨none, 0, 0⟩, ⟨none, 0, 0⟩, ())) hs4.p1 ?_ ?_)
  · intro hn
    simp only [] at hn
    rw [t2] at hn
    cases hn
  intro k c hk b' h5 hs5
  simp only [] at hk hs5 ⊢
  rw [t2] at hk hs5 ⊢
  cases hk
  refine ⟨(false, ⟨some ⟨b', 0, none⟩, 1, 1⟩, 0, ()), rfl, ?_⟩
  have c0 : cellH h5 ⟨b', 0, none⟩ = some (.int .i64 5) := hs5.cell 0
  have c4 : cellH h5 ⟨b', 4, none⟩ = some (.int .i64 7) := hs5.cell 4
  simp [HM.idx, add_own, c0, c4]
  exact hq h5 hs5.drop.drop.drop.drop

theorem infTake_nil {h : Heap} {R : List Asn} (hs : sat h R) {p : Pk} {why : Int} {Q : Value → Heap → Prop} (hq : ∀ h', sat h' R → Q (.tuple #[.bool false, .slice none 0 0, .int .u8 128]) h') :
    HCalls Try.prog 8 #[.pointer none, Pk_v p, .int .u8 why] h Q := by
  refine inflow_Flow_Take_calls none p why h Q ?_
  unfold inflow_Flow_Take
  refine new_cells hs fun pb h1 hs1 => ?_
  simp only [HM.ite_apply, Option.isNone_none, if_true, HM.pure_apply]
  exact hq h1 hs1.drop

theorem infFresh_nil {h : Heap} {R : List Asn} (hs : sat h R) {p : Pk} {Q : Value → Heap → Prop} (hq : ∀ h', sat h' R → Q (.bool false) h') :
    HCalls Try.prog 11 #[.pointer none, Pk_v p] h Q := by
  refine inflow_Flow_Fresh_calls none p h Q ?_
  unfold inflow_Flow_Fresh
  refine new_cells hs fun pb h1 hs1 => ?_
  simp
  exact hq h1 hs1.drop

theorem infOpen_nil {h : Heap} {Q : Value → Heap → Prop} (hq : Q (.slice none 0 0) h) : HCalls Try.prog 10 #[.pointer none] h Q := by
  refine inflow_Flow_Open_calls none h Q ?_
  unfold inflow_Flow_Open
  simpa using hq

theorem infClaim_nil {h : Heap} {k : Int} {Q : Value → Heap → Prop} (hq : Q (.int .u8 128) h) : HCalls Try.prog 12 #[.pointer none, .int .i64 k] h Q := by
  refine inflow_Flow_Claim_calls none k h Q ?_
  unfold inflow_Flow_Claim
  simpa using hq

theorem infOpen_spec {h : Heap} {R : List Asn} {f : Nat} {s : PoolS} (hs : sat h (flowA f s :: R)) {Q : Value → Heap → Prop}
    (hq : ∀ (sl : Slc) h', sat h' (ownS eI 1 sl (sortI s.used) :: flowA f s :: R) → Q (.slice sl.a sl.len sl.cap) h') : HCalls Try.prog 10 #[at0 f] h Q := by
  refine inflow_Flow_Open_calls _ h Q ?_
  obtain ⟨b, hs⟩ := flowA_iff.1 hs
  have c0 : cellH h ⟨f, 0, none⟩ = some (at0 b) := hs.cell 0
  unfold inflow_Flow_Open
  simp [c0]
  refine Used_spec hs.p1 fun sl h1 hs1 => ?_
  simp only [un_slc, HM.pure_apply]
  exact hq sl h1 (flowA_iff.2 ⟨b, hs1.p1.p2⟩).p1

end Go.Proofs.Ytlgddhcbiioefaa
