/-
  PROVED: 'aqueductlaw23.BridgeDelays' answers true whatever the input, and the input reads as it did: 'Rows.BridgeDelaysSaid'. Conditions: none but the statement's own.
-/
import Derived.Test.YtmdagnoknmfhcaaDoorRows
import Derived.Test.YtmdagnoknmfhcaaDoorHC
import Derived.Test.YtmdagnoknmfhcaaDoorL23d
import Derived.Test.YtmdagnoknmfhcaaDoorD23
import Derived.Test.YtmdagnoknmfhcaaDoorCards
import Derived.Test.YtmdagnoknmfhcaaDoorTie
import Derived.WalkKit
import Derived.ProofKit
import Derived.OpenShut
import Derived.ShutString
import Derived.ChangeOld
import Derived.Below
import Derived.Carry
import Derived.LaidMore
import Derived.LaidHandle
import Derived.Stop.Joined
import Derived.SevenTiedAt
namespace Go.Proofs.YtmdagnoknmfhcaaDoor.bridgeDelays
open Go.ChangeShapes Go.WideShapes Go.ChangeAt Go.RowKit
open Go.ChangeMaps (open_string shut_string)
set_option linter.unusedVariables false

theorem own : ownKnob Tryd.prog.godebug = none := by kernel_rfl
theorem laidOut : laidOutB Tryd.prog = true := by kernel_rfl

theorem walk (w : World) (ht : TP w.heap) (x0 : Int) (g0 : (Lit.int .i64 x0).wf = true) (x1 : Int) (g1 : (Lit.int .i64 x1).wf = true) (x2 : Int × Int) (g2 : (fun x => (Lit.int .u64 x.1).wf = true ∧ (Lit.int .u64 x.2).wf = true) x2) :
    Calls Tryd.prog 11 #[.int .i64 x0, .int .i64 x1, .agg #[.int .u64 x2.1, .int .u64 x2.2]] w fun e w' => e = .returned (.bool true) ∧ Below w.heap.size w w' := by
  obtain ⟨y0, y1⟩ := x2
  have h0 := wf_u64 g2.1
  have h1 := wf_u64 g2.2
  have h2 := wf_i64 g0
  simp only at h0 h1
  obtain ⟨a, rfl⟩ := Int.eq_ofNat_of_zero_le h0.1
  obtain ⟨d, rfl⟩ := Int.eq_ofNat_of_zero_le h1.1
  exact Go.H.walk_of (BridgeDelays_spec (t := x0) (l := x1) (a := a) (d := d) (Go.H.sat_old w.heap) ht h2.2 (by omega) (by omega) h2.1 fun h' R hs => ⟨rfl, R, hs⟩)

set_option maxRecDepth 100000 in
theorem lifted (os : Os) (started : os.Started) (H : Type) (enc : TypeId × Value → H) :
    ReturnsInHanded {} Tryd.checked os 11 .any (fun w args => (Rows.bridgeDelaysSpec.pre enc Tryd.prog Tryd.f11 [] false w args ∧ laidMetH Tryd.prog laid23 w) ∧ sizedMet enc Tryd.prog Tryd.f11 (OpenSpec.ofChange Rows.bridgeDelaysSpec) false w args)
      (Rows.bridgeDelaysSpec.post enc Tryd.prog Tryd.f11 false true false false) := by
  refine returnsInHanded_shaped (C := Tryd.checked) (X := fun w _ => laidMetH Tryd.prog laid23 w) (fun _ _ _ hh h => h.of_heap hh) own started (by kernel_rfl) Tryd.func11
    (ChangeSpec.witness_shaped (enc := enc) (C := Tryd.checked) (os := os) (X := fun w _ => laidMetH Tryd.prog laid23 w) false (laidWorld os) #[.int .i64 0, .int .i64 0, .agg #[.int .u64 0, .int .u64 0]] 8 rfl (World.shaped_of_RefB (by kernel_rfl) (by kernel_rfl)) (by kernel_rfl) (by kernel_rfl) (by kernel_rfl) (laid_met23 os _)) ?_
  intro W base args ds gs before hval0 hW _ hwt hL hsh _
  have hval : ∀ (j : Nat) t v, Tryd.f11.params[j]? = some t → args[j]? = some v → Value.okWide Tryd.prog W .any base t v := hval0
  have hW' := hW
  obtain ⟨p, q, hA0, hV, rfl, hfz, hnd⟩ := hW
  have hA : DataW.TrodAll enc Tryd.prog W 0 (fun _ => true) true Tryd.f11.params.toList args.toList ds p := hA0
  rw [Tryd.params11] at hA hval
  obtain ⟨v0, vs0, d0, ds0, p0, q0, hargs, rfl, rfl, h0, r0⟩ := trodAll_cons hA
  obtain ⟨v1, vs1, d1, ds1, p1, q1, rfl, rfl, rfl, h1, r1⟩ := trodAll_cons r0
  obtain ⟨v2, vs2, d2, ds2, p2, q2, rfl, rfl, rfl, h2, r2⟩ := trodAll_cons r1
  obtain ⟨rfl, rfl, rfl⟩ := trodAll_nil r2
  obtain rfl : args = #[v0, v1, v2] := by cases args; simp_all
  obtain ⟨rfl, rfl⟩ := trodVars_none hV
  obtain ⟨x0, rfl, rfl, rfl, g0⟩ := open_int Tryd.underlying3 (hval 0 3 v0 rfl rfl) h0
  obtain ⟨x1, rfl, rfl, rfl, g1⟩ := open_int Tryd.underlying3 (hval 1 3 v1 rfl rfl) h1
  obtain ⟨cs2, rfl⟩ := Go.H.okWide_array Tryd.underlying99 (hval 2 99 v2 rfl rfl)
  have w2 : ∀ n ∈ d2.weights Tryd.prog 99, n ≤ reachBytes := fun n hn => by simpa using List.all_eq_true.1 hwt n (DataW.weights_mem_each (j := 2) (by kernel_rfl) rfl n hn)
  have k2 := h2
  have lt2 : ∀ x ∈ p2, x.block < W.heap.size := by obtain ⟨m, hm⟩ := k2; exact DataW.trod_lt m _ _ _ hm
  obtain ⟨x2, e2, g2⟩ : ∃ x : Int × Int, (Value.agg cs2 = .agg #[.int .u64 x.1, .int .u64 x.2]) ∧ (fun x => (Lit.int .u64 x.1).wf = true ∧ (Lit.int .u64 x.2).wf = true) x := by
    obtain ⟨fuel, hf⟩ := h2
    obtain ⟨x, hx, hg⟩ := rd_Pair23 fuel _ _ hf w2
    exact ⟨x, congrArg Value.agg (Array.toList_inj.1 hx), hg⟩
  cases e2
  clear hA0 hval0
  refine (walk W (tp_of_laid23 hL hsh) x0 g0 x1 g1 x2 g2).mono fun e W' ⟨he, bel⟩ => ?_
  subst he
  exact ⟨_, rfl, _, _, _, [], _, [], hW', trodAll_mk1 (shut_bool Tryd.underlying4 _), (trodAll_cons_mk (shut_int Tryd.underlying3 g0) (trodAll_cons_mk (shut_int Tryd.underlying3 g1) (trodAll_cons_mk (Below.trod laidOut (by kernel_rfl) (of_decide_eq_true (by kernel_rfl)) k2 bel lt2) trodAll_mk0))), rfl, bel.frame _, fun h => by cases h⟩

theorem over : Rows.bridgeDelaysRow.holds Tryd.pinned (OpenSpec.ofChange Rows.bridgeDelaysSpec) :=
  OpenClaim.holds_of_wide 11 Tryd.f11 rfl rfl rfl rfl rfl rfl rfl ⟨rfl, rfl, rfl, rfl, rfl⟩ rfl rfl rfl rfl rfl (by kernel_rfl) Tryd.func11 (by kernel_rfl)
    (of_decide_eq_true (by kernel_rfl)) (by unfold Func.isWrapper; first | (rw [if_pos (by decide +kernel)]; kernel_rfl) | (rw [if_neg (by decide +kernel)]; exact ⟨rfl, rfl⟩))
    (fun os started H enc _ => lifted os started H enc)

theorem proved : Rows.BridgeDelaysSaid := over

/-- THE TIED CARD. -/
theorem cardProved : Rows.BridgeDelaysCardSaid :=
  Claim7.holds_tied_plain_at .later [] [.data, .data, .data, .data, .pinned] true (true, "71a48d05428e5e51829ce6cf71ade2217a654844fbe9d8a43254b08561a9ee10") false
    proved (fun _ h => by cases h) (by kernel_rfl) (fun _ h => by cases h) bridgeDelays_row_tie rfl ⟨rfl, rfl⟩ (by kernel_rfl) rfl
    (fun f fn hf hfn => by
      obtain rfl : f = 11 := Option.some.inj ((show Tryd.prog.funcNamed "aqueduct/aqueductlaw23.BridgeDelays" = some 11 by kernel_rfl).symm.trans hf) |>.symm
      obtain rfl : fn = Tryd.f11 := (Option.some.inj (Tryd.func11.symm.trans hfn)).symm
      exact ⟨by kernel_rfl, fun j t ht => by
        rw [Tryd.params11] at ht
        have hm : t ∈ [3, 3, 99] := by simpa using Array.mem_of_getElem? ht
        have hall : ([3, 3, 99].all fun u => !Tryd.prog.wantsStandIn u) = true := by kernel_rfl
        exact (show Tryd.prog.wantsStandIn t = false by simpa using List.all_eq_true.1 hall t hm)⟩)
    (by kernel_rfl)
#print axioms cardProved
end Go.Proofs.YtmdagnoknmfhcaaDoor.bridgeDelays
