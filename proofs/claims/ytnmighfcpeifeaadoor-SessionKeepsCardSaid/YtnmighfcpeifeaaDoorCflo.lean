/-
  Cflo: contracts: packets as tuples; a new flow of what comes from one sender (inflow).
-/
import Derived.Test.YtnmighfcpeifeaaDoorCids
namespace Go.Proofs.YtnmighfcpeifeaaDoor
open Go.H Go.Proofs
set_option linter.unusedSimpArgs false
set_option linter.unusedVariables false
set_option synthInstance.maxSize 100000
set_option synthInstance.maxHeartbeats 400000

/-- a packet as a tuple -/
abbrev Pk : Type := Int × Bool × Bool × Int × Int × ByteArray × ByteArray × Int × Slc × Slc × ByteArray × Bool × Int × Bool × ByteArray × ByteArray × Int × Bool × Slc × Bool × Bool × ByteArray × ByteArray × Bool × Slc × Slc × Unit
abbrev Pk_c (p : Pk) : Array Value := #[.int .i64 p.1, .bool p.2.1, .bool p.2.2.1, .int .i64 p.2.2.2.1, .int .i64 p.2.2.2.2.1, .string p.2.2.2.2.2.1, .string p.2.2.2.2.2.2.1, .int .u8 p.2.2.2.2.2.2.2.1, .slice p.2.2.2.2.2.2.2.2.1.a p.2.2.2.2.2.2.2.2.1.len p.2.2.2.2.2.2.2.2.1.cap, .slice p.2.2.2.2.2.2.2.2.2.1.a p.2.2.2.2.2.2.2.2.2.1.len p.2.2.2.2.2.2.2.2.2.1.cap, .string p.2.2.2.2.2.2.2.2.2.2.1, .bool p.2.2.2.2.2.2.2.2.2.2.2.1, .int .i64 p.2.2.2.2.2.2.2.2.2.2.2.2.1, .bool p.2.2.2.2.2.2.2.2.2.2.2.2.2.1, .string p.2.2.2.2.2.2.2.2.2.2.2.2.2.2.1, .string p.2.2.2.2.2.2.2.2.2.2.2.2.2.2.2.1, .int .i64 p.2.2.2.2.2.2.2.2.2.2.2.2.2.2.2.2.1, .bool p.2.2.2.2.2.2.2.2.2.2.2.2.2.2.2.2.2.1, .slice p.2.2.2.2.2.2.2.2.2.2.2.2.2.2.2.2.2.2.1.a p.2.2.2.2.2.2.2.2.2.2.2.2.2.2.2.2.2.2.1.len p.2.2.2.2.2.2.2.2.2.2.2.2.2.2.2.2.2.2.1.cap, .bool p.2.2.2.2.2.2.2.2.2.2.2.2.2.2.2.2.2.2.2.1, .bool p.2.2.2.2.2.2.2.2.2.2.2.2.2.2.2.2.2.2.2.2.1, .string p.2.2.2.2.2.2.2.2.2.2.2.2.2.2.2.2.2.2.2.2.2.1, .string p.2.2.2.2.2.2.2.2.2.2.2.2.2.2.2.2.2.2.2.2.2.2.1, .bool p.2.2.2.2.2.2.2.2.2.2.2.2.2.2.2.2.2.2.2.2.2.2.2.1, .slice p.2.2.2.2.2.2.2.2.2.2.2.2.2.2.2.2.2.2.2.2.2.2.2.2.1.a p.2.2.2.2.2.2.2.2.2.2.2.2.2.2.2.2.2.2.2.2.2.2.2.2.1.len p.2.2.2.2.2.2.2.2.2.2.2.2.2.2.2.2.2.2.2.2.2.2.2.2.1.cap, .slice p.2.2.2.2.2.2.2.2.2.2.2.2.2.2.2.2.2.2.2.2.2.2.2.2.2.1.a p.2.2.2.2.2.2.2.2.2.2.2.2.2.2.2.2.2.2.2.2.2.2.2.2.2.1.len p.2.2.2.2.2.2.2.2.2.2.2.2.2.2.2.2.2.2.2.2.2.2.2.2.2.1.cap]
abbrev Pk_v (p : Pk) : Value := .agg #[.int .i64 p.1, .bool p.2.1, .bool p.2.2.1, .int .i64 p.2.2.2.1, .int .i64 p.2.2.2.2.1, .string p.2.2.2.2.2.1, .string p.2.2.2.2.2.2.1, .int .u8 p.2.2.2.2.2.2.2.1, .slice p.2.2.2.2.2.2.2.2.1.a p.2.2.2.2.2.2.2.2.1.len p.2.2.2.2.2.2.2.2.1.cap, .slice p.2.2.2.2.2.2.2.2.2.1.a p.2.2.2.2.2.2.2.2.2.1.len p.2.2.2.2.2.2.2.2.2.1.cap, .string p.2.2.2.2.2.2.2.2.2.2.1, .bool p.2.2.2.2.2.2.2.2.2.2.2.1, .int .i64 p.2.2.2.2.2.2.2.2.2.2.2.2.1, .bool p.2.2.2.2.2.2.2.2.2.2.2.2.2.1, .string p.2.2.2.2.2.2.2.2.2.2.2.2.2.2.1, .string p.2.2.2.2.2.2.2.2.2.2.2.2.2.2.2.1, .int .i64 p.2.2.2.2.2.2.2.2.2.2.2.2.2.2.2.2.1, .bool p.2.2.2.2.2.2.2.2.2.2.2.2.2.2.2.2.2.1, .slice p.2.2.2.2.2.2.2.2.2.2.2.2.2.2.2.2.2.2.1.a p.2.2.2.2.2.2.2.2.2.2.2.2.2.2.2.2.2.2.1.len p.2.2.2.2.2.2.2.2.2.2.2.2.2.2.2.2.2.2.1.cap, .bool p.2.2.2.2.2.2.2.2.2.2.2.2.2.2.2.2.2.2.2.1, .bool p.2.2.2.2.2.2.2.2.2.2.2.2.2.2.2.2.2.2.2.2.1, .string p.2.2.2.2.2.2.2.2.2.2.2.2.2.2.2.2.2.2.2.2.2.1, .string p.2.2.2.2.2.2.2.2.2.2.2.2.2.2.2.2.2.2.2.2.2.2.1, .bool p.2.2.2.2.2.2.2.2.2.2.2.2.2.2.2.2.2.2.2.2.2.2.2.1, .slice p.2.2.2.2.2.2.2.2.2.2.2.2.2.2.2.2.2.2.2.2.2.2.2.2.1.a p.2.2.2.2.2.2.2.2.2.2.2.2.2.2.2.2.2.2.2.2.2.2.2.2.1.len p.2.2.2.2.2.2.2.2.2.2.2.2.2.2.2.2.2.2.2.2.2.2.2.2.1.cap, .slice p.2.2.2.2.2.2.2.2.2.2.2.2.2.2.2.2.2.2.2.2.2.2.2.2.2.1.a p.2.2.2.2.2.2.2.2.2.2.2.2.2.2.2.2.2.2.2.2.2.2.2.2.2.1.len p.2.2.2.2.2.2.2.2.2.2.2.2.2.2.2.2.2.2.2.2.2.2.2.2.2.1.cap]
abbrev Pk_t : List Tag := [.int .i64, .bool, .bool, .int .i64, .int .i64, .str, .str, .int .u8, .slc, .slc, .str, .bool, .int .i64, .bool, .str, .str, .int .i64, .bool, .slc, .bool, .bool, .str, .str, .bool, .slc, .slc]
abbrev Pk_z : Pk := (0, false, false, 0, 0, ByteArray.mk #[], ByteArray.mk #[], 0, ⟨none, 0, 0⟩, ⟨none, 0, 0⟩, ByteArray.mk #[], false, 0, false, ByteArray.mk #[], ByteArray.mk #[], 0, false, ⟨none, 0, 0⟩, false, false, ByteArray.mk #[], ByteArray.mk #[], false, ⟨none, 0, 0⟩, ⟨none, 0, 0⟩, ())
/-- a packet of a kind, an identifier and a code -/
abbrev Pk_a (k id c : Int) : Pk := (k, false, false, 0, id, ByteArray.mk #[], ByteArray.mk #[], c, ⟨none, 0, 0⟩, ⟨none, 0, 0⟩, ByteArray.mk #[], false, 0, false, ByteArray.mk #[], ByteArray.mk #[], 0, false, ⟨none, 0, 0⟩, false, false, ByteArray.mk #[], ByteArray.mk #[], false, ⟨none, 0, 0⟩, ⟨none, 0, 0⟩, ())

/-! ### slices of integers -/

def flowA (f : Nat) (s : PoolS) : Asn := exA fun b : Nat => star (cells f #[at0 b]) (poolA b s)

theorem flowA_iff {h : Heap} {f : Nat} {s : PoolS} {R : List Asn} : sat h (flowA f s :: R) ↔ ∃ b : Nat, sat h (cells f #[at0 b] :: poolA b s :: R) := by
  unfold flowA
  rw [sat.ex_iff]
  constructor
  · rintro ⟨b, hs⟩; exact ⟨b, sat.star_iff.1 hs⟩
  · rintro ⟨b, hs⟩; exact ⟨b, sat.star_iff.2 hs⟩

theorem infNew_spec {h : Heap} {R : List Asn} (hs : sat h R) (most : Int) {Q : Value → Heap → Prop}
    (hq : ∀ b h', sat h' (flowA b ⟨max 1 (min most 64), 0, []⟩ :: R) → Q (at0 b) h') : HCalls Tryd.prog 44 #[.int .i64 most] h Q := by
  refine inflow_New_calls most h Q ?_
  unfold inflow_New
  simp only [HM.bind_apply, HM.call1_apply]
  refine New_spec hs most fun b h1 hs1 => ?_
  simp only [un_ptr, HM.bind_apply]
  refine new_cells hs1 fun f h2 hs2 => ?_
  exact hq f h2 (flowA_iff.2 ⟨b, hs2⟩)

end Go.Proofs.YtnmighfcpeifeaaDoor
