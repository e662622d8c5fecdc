/-
  Cout: contracts: what is sent to one receiver.
-/
import Derived.Test.YtfhalebbcbgbdaaGreatDoorCids
namespace Go.Proofs.YtfhalebbcbgbdaaGreatDoor
open Go.H Go.Proofs
set_option linter.unusedSimpArgs false
set_option linter.unusedVariables false
set_option synthInstance.maxSize 100000
set_option synthInstance.maxHeartbeats 400000

/-! ### what is sent to one receiver -/

abbrev MsT := ByteArray × ByteArray × Int × Bool × ByteArray
abbrev encM (x : MsT) : List Value := [.string x.1, .string x.2.1, .int .i64 x.2.2.1, .bool x.2.2.2.1, .string x.2.2.2.2]
abbrev FlT := Int × MsT × Bool
abbrev encF (x : FlT) : List Value := [.int .i64 x.1, .string x.2.1.1, .string x.2.1.2.1, .int .i64 x.2.1.2.2.1, .bool x.2.1.2.2.2.1, .string x.2.1.2.2.2.2, .bool x.2.2]

structure OutS where
  pool : PoolS
  most : Int
  on : Bool
  flights : List FlT
  waiting : List MsT

def outA (b : Nat) (o : OutS) : Asn := exA fun x : Nat × Slc × Slc =>
  star (cells b #[at0 x.1, .int .i64 o.most, .bool o.on, .slice x.2.1.a x.2.1.len x.2.1.cap, .slice x.2.2.a x.2.2.len x.2.2.cap])
    (star (poolA x.1 o.pool) (star (ownS encF 7 x.2.1 o.flights) (ownS encM 5 x.2.2 o.waiting)))

theorem outA_iff {h : Heap} {b : Nat} {o : OutS} {R : List Asn} : sat h (outA b o :: R) ↔ ∃ (pb : Nat) (fl wt : Slc),
    sat h (cells b #[at0 pb, .int .i64 o.most, .bool o.on, .slice fl.a fl.len fl.cap, .slice wt.a wt.len wt.cap] :: poolA pb o.pool :: ownS encF 7 fl o.flights :: ownS encM 5 wt o.waiting :: R) := by
  unfold outA
  rw [sat.ex_iff]
  constructor
  · rintro ⟨⟨pb, fl, wt⟩, hs⟩
    rw [sat.star_iff] at hs
    exact ⟨pb, fl, wt, (sat.star_iff.1 (sat.star_iff.1 hs.p1).p1).re [3, 2, 0, 1]⟩
  · rintro ⟨pb, fl, wt, hs⟩
    refine ⟨(pb, fl, wt), ?_⟩
    rw [sat.star_iff]
    exact (sat.star_iff.2 ((sat.star_iff.2 (hs.re [2, 3, 0, 1])).re [2, 0, 1])).p1

theorem outNew_spec {h : Heap} {R : List Asn} (hs : sat h R) (most : Int) {Q : Value → Heap → Prop}
    (hq : ∀ b h', sat h' (outA b ⟨⟨64, 0, []⟩, max 1 (min most 64), false, [], []⟩ :: R) → Q (at0 b) h') : HCalls Tryz.prog 38 #[.int .i64 most] h Q := by
  refine outflow_New_calls most h Q ?_
  unfold outflow_New
  refine bind_call1 (New_spec hs 64 fun pb h1 hs1 => ⟨some ⟨pb, 0, none⟩, rfl, ?_⟩)
  have e : (if 1 < (if 64 < most then (64 : Int) else most) then (if 64 < most then 64 else most) else 1) = max 1 (min most 64) := by
    split <;> split <;> omega
  refine bind_call1 (outflow_bounded_calls most h1 _ ⟨_, rfl, ?_⟩)
  rw [e]
  refine new_cells hs1 fun b h2 hs2 => ?_
  refine hq b h2 (outA_iff.2 ⟨pb, ⟨none, 0, 0⟩, ⟨none, 0, 0⟩, ?_⟩)
  exact (ownS_nil (ownS_nil hs2)).p3.p3

theorem outEnd_spec {h : Heap} {R : List Asn} {b : Nat} {o : OutS} (hs : sat h (outA b o :: R)) {Q : Value → Heap → Prop}
    (hq : ∀ h', sat h' (outA b { o with on := false } :: R) → Q (.tuple #[]) h') : HCalls Tryz.prog 49 #[at0 b] h Q := by
  refine outflow_Flow_End_calls _ h Q ?_
  obtain ⟨pb, fl, wt, hs⟩ := outA_iff.1 hs
  unfold outflow_Flow_End
  simp
  refine store1_cells hs (by simp) rfl fun h1 hs1 => ?_
  exact hq h1 (outA_iff.2 ⟨pb, fl, wt, hs1⟩)

end Go.Proofs.YtfhalebbcbgbdaaGreatDoor
