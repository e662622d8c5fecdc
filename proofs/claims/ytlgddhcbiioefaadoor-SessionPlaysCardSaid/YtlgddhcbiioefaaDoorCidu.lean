/-
  Cidu: contracts: Used, the document's pool, equal.
-/
import Derived.Test.YtlgddhcbiioefaaDoorCids
import Derived.Test.YtlgddhcbiioefaaDoorKint
namespace Go.Proofs.YtlgddhcbiioefaaDoor
set_option linter.unusedSimpArgs false
open Go.H Go.Proofs
set_option linter.unusedVariables false
set_option synthInstance.maxSize 100000
set_option synthInstance.maxHeartbeats 400000

theorem eI_len (x : Int) : (eI x).length = 1 := rfl
theorem eI_cell (x : Int) : ∀ v ∈ eI x, v.oneCell' = true := by intro v hv; simp at hv; subst hv; rfl

theorem Used_spec {h : Heap} {R : List Asn} {b : Nat} {s : PoolS} (hs : sat h (poolA b s :: R)) {Q : Value → Heap → Prop}
    (hq : ∀ (sl : Slc) h', sat h' (ownS eI 1 sl (sortI s.used) :: poolA b s :: R) → Q (.slice sl.a sl.len sl.cap) h') : HCalls Tryd.prog 60 #[at0 b] h Q := by
  refine ids_Pool_Used_calls _ h Q ?_
  obtain ⟨m, hok, hs'⟩ := poolA_iff.1 hs
  have c2 : cellH h ⟨b, 2, none⟩ = some (.map (some m)) := hs'.cell 2
  unfold ids_Pool_Used
  simp [c2]
  refine keysI_call (ρk := keysI_ren) keysI (some m) ?_
  simp only [un_any]
  have hs2 := (hs'.push_cells (T := keysI_ren.t 23) (cs := #[.map (some m)]))
  have hk := hok.range
  have hl := hok.len
  have hm := hok.most64
  refine sortedI_call (ρk := keysI_ren) (ρs := sortedI_ren) (ρt := sortMI_ren) keysI sortedI sortMI rfl (enters_of Tryd.func85 (by kernel_rfl) rfl) (enters_of Tryd.func113 (by kernel_rfl) rfl) hs2.p2
    (fun p hp => ?_) ?_ (hs2.cell 0) fun sl h' hs3 => ?_
  · obtain ⟨k, hk', rfl⟩ := List.mem_map.1 hp
    have := hk k hk'
    simp [Lit.wf, IntKind.min, IntKind.max, IntKind.bits, IntKind.signed]
    omega
  · simp [asMap]; omega
  · simp only [un_slc, HM.pure_apply]
    refine hq sl h' ?_
    have e : (asMap s.used).map (·.1) = s.used := by simp [asMap, Function.comp_def]
    rw [e] at hs3
    exact (poolA_iff.2 ⟨m, hok, (hs3.p3.p3.drop.p2.p1)⟩).p1

end Go.Proofs.YtlgddhcbiioefaaDoor
