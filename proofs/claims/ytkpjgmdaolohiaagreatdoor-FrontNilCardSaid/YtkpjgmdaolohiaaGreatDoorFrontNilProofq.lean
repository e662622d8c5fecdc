/-
  PROVED: 'aqueductlaw20.FrontNil' answers true whatever the input, and the input reads as it did: 'Rows.FrontNilSaid'. Conditions: none but the statement's own.
-/
import Derived.Test.YtkpjgmdaolohiaaGreatDoorRows
import Derived.Test.YtkpjgmdaolohiaaGreatDoorQFrontNil2
import Derived.Test.YtkpjgmdaolohiaaGreatDoorCards
import Derived.Test.YtkpjgmdaolohiaaGreatDoorTie
import Derived.WalkKit
import Derived.ProofKit
import Derived.OpenShut
import Derived.ShutString
import Derived.ChangeOld
import Derived.Below
import Derived.Carry
import Derived.LaidMore
import Derived.LaidHandle
import Derived.Stop.Joined
import Derived.SevenTiedAt
namespace Go.Proofs.YtkpjgmdaolohiaaGreatDoor.frontNil
open Go.ChangeShapes Go.WideShapes Go.ChangeAt Go.RowKit
open Go.ChangeMaps (open_string shut_string)
set_option linter.unusedVariables false
set_option linter.unusedSimpArgs false

theorem own : ownKnob Tryz.prog.godebug = none := by kernel_rfl
theorem laidOut : laidOutB Tryz.prog = true := by kernel_rfl

theorem walk (w : World) (ht : NoHyp w.heap) (x0 : EvT20) (g0 : (fun _ => True) x0) :
    Calls Tryz.prog 3 #[.agg #[.int .i64 x0.1, .int .i64 x0.2.1, .slice x0.2.2.1.a x0.2.2.1.len x0.2.2.1.cap, .string x0.2.2.2.1, .bool x0.2.2.2.2.1, .string x0.2.2.2.2.2.1, .string x0.2.2.2.2.2.2.1, .int .i64 x0.2.2.2.2.2.2.2.1, .bool x0.2.2.2.2.2.2.2.2.1, .string x0.2.2.2.2.2.2.2.2.2.1]] w fun e w' => e = .returned (.bool true) ∧ Below w.heap.size w w' := by
  exact Go.H.walk_of (FrontNil_w (x := x0) (fun h' R hs => ⟨rfl, R, hs⟩) w.heap (Go.H.sat_old w.heap))

set_option maxRecDepth 100000 in
theorem lifted (os : Os) (started : os.Started) (H : Type) (enc : TypeId × Value → H) :
    ReturnsInHanded {} Tryz.checked os 3 .any (fun w args => (Rows.frontNilSpec.pre enc Tryz.prog Tryz.f3 [] false w args ∧ laidMetH Tryz.prog laid17 w) ∧ sizedMet enc Tryz.prog Tryz.f3 (OpenSpec.ofChange Rows.frontNilSpec) false w args)
      (Rows.frontNilSpec.post enc Tryz.prog Tryz.f3 false true false false) := by
  refine returnsInHanded_shapedR (C := Tryz.checked) (X := fun w _ => laidMetH Tryz.prog laid17 w) (fun _ _ _ hh h => h.of_heap hh) own started (by kernel_rfl) Tryz.func3
    (ChangeSpec.witness_shaped (enc := enc) (C := Tryz.checked) (os := os) (X := fun w _ => laidMetH Tryz.prog laid17 w) false (laidWorld os) #[.agg #[.int .i64 0, .int .i64 0, .slice none 0 0, .string (ByteArray.mk #[]), .bool false, .string (ByteArray.mk #[]), .string (ByteArray.mk #[]), .int .i64 0, .bool false, .string (ByteArray.mk #[])]] 8 rfl (World.shaped_of_RefB (by kernel_rfl) (by kernel_rfl)) (by kernel_rfl) (by kernel_rfl) (by kernel_rfl) (laid_met os _)) ?_
  intro W base args ds gs before hval0 hW _ hwt hL hsh _
  have hval : ∀ (j : Nat) t v, Tryz.f3.params[j]? = some t → args[j]? = some v → Value.okWide Tryz.prog W .any base t v := hval0
  have hW' := hW
  obtain ⟨p, q, hA0, hV, rfl, hfz, hnd⟩ := hW
  have hA : DataW.TrodAll enc Tryz.prog W 0 (fun _ => true) true Tryz.f3.params.toList args.toList ds p := hA0
  rw [Tryz.params3] at hA hval
  obtain ⟨v0, vs0, d0, ds0, p0, q0, hargs, rfl, rfl, h0, r0⟩ := trodAll_cons hA
  obtain ⟨rfl, rfl, rfl⟩ := trodAll_nil r0
  obtain rfl : args = #[v0] := by cases args; simp_all
  obtain ⟨rfl, rfl⟩ := trodVars_none hV
  have w0 : Go.R.okW Tryz.prog 26 d0 := fun n hn => by simpa using List.all_eq_true.1 hwt n (DataW.weights_mem_each (j := 0) (by kernel_rfl) rfl n hn)
  obtain ⟨cs0, rfl⟩ := Go.R.okWide_agg Tryz.underlying26 (hval 0 26 v0 rfl rfl)
  have k0 := h0
  have lt0 : ∀ x ∈ p0, x.block < W.heap.size := by obtain ⟨m, hm⟩ := k0; exact DataW.trod_lt m _ _ _ hm
  obtain ⟨x0, e0, g0⟩ : ∃ x : EvT20, (Value.agg cs0 = .agg #[.int .i64 x.1, .int .i64 x.2.1, .slice x.2.2.1.a x.2.2.1.len x.2.2.1.cap, .string x.2.2.2.1, .bool x.2.2.2.2.1, .string x.2.2.2.2.2.1, .string x.2.2.2.2.2.2.1, .int .i64 x.2.2.2.2.2.2.2.1, .bool x.2.2.2.2.2.2.2.2.1, .string x.2.2.2.2.2.2.2.2.2.1]) ∧ (fun _ => True) x := by
    obtain ⟨fuel, hf⟩ := h0
    obtain ⟨x, hx, hg⟩ := rd_Event20 (Go.R.okW_law Tryz.prog) fuel _ _ hf w0
    exact ⟨x, congrArg Value.agg (Array.toList_inj.1 hx), hg⟩
  cases e0
  clear hA0 hval0
  refine (walk W (nohyp_of_laid hL hsh) x0 g0).mono fun e W' ⟨he, bel⟩ => ?_
  subst he
  exact ⟨_, rfl, _, _, _, [], _, [], hW', trodAll_mk1 (shut_bool Tryz.underlying4 _), (trodAll_cons_mk (Below.trod laidOut (by kernel_rfl) (of_decide_eq_true (by kernel_rfl)) k0 bel lt0) trodAll_mk0), rfl, bel.frame _, fun h => by cases h⟩

theorem over : Rows.frontNilRow.holds Tryz.pinned (OpenSpec.ofChange Rows.frontNilSpec) :=
  OpenClaim.holds_of_wide 3 Tryz.f3 rfl rfl rfl rfl rfl rfl rfl ⟨rfl, rfl, rfl, rfl, rfl⟩ rfl rfl rfl rfl rfl (by kernel_rfl) Tryz.func3 (by kernel_rfl)
    (of_decide_eq_true (by kernel_rfl)) (by unfold Func.isWrapper; first | (rw [if_pos (by decide +kernel)]; kernel_rfl) | (rw [if_neg (by decide +kernel)]; exact ⟨rfl, rfl⟩))
    (fun os started H enc _ => lifted os started H enc)

theorem proved : Rows.FrontNilSaid := over

/-- THE TIED CARD. -/
theorem cardProved : Rows.FrontNilCardSaid :=
  Claim7.holds_tied_plain_at .later [] [.data, .pinned] true (true, "e7ca15b6535f4ca14d1f9795de86c129be80d54a588fee9567efd946d2924bd9") true
    proved (fun _ h => by cases h) (by kernel_rfl) (fun _ h => by cases h) frontNil_row_tie rfl ⟨rfl, rfl⟩ (by kernel_rfl) rfl
    (fun f fn hf hfn => by
      obtain rfl : f = 3 := Option.some.inj ((show Tryz.prog.funcNamed "aqueduct/aqueductlaw20.FrontNil" = some 3 by kernel_rfl).symm.trans hf) |>.symm
      obtain rfl : fn = Tryz.f3 := (Option.some.inj (Tryz.func3.symm.trans hfn)).symm
      exact ⟨by kernel_rfl, fun j t ht => by
        rw [Tryz.params3] at ht
        have hm : t ∈ [26] := by simpa using Array.mem_of_getElem? ht
        have hall : ([26].all fun u => !Tryz.prog.wantsStandIn u) = true := by kernel_rfl
        exact (show Tryz.prog.wantsStandIn t = false by simpa using List.all_eq_true.1 hall t hm)⟩)
    (by kernel_rfl)
#print axioms cardProved
end Go.Proofs.YtkpjgmdaolohiaaGreatDoor.frontNil
