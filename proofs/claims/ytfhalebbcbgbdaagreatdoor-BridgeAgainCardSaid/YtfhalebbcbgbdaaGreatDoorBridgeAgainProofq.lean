/-
  PROVED: 'aqueductlaw23.BridgeAgain' answers true whatever the input, and the input reads as it did: 'Rows.BridgeAgainSaid'. Conditions: none but the statement's own.
-/
import Derived.Test.YtfhalebbcbgbdaaGreatDoorRows
import Derived.Test.YtfhalebbcbgbdaaGreatDoorQ3
import Derived.Test.YtfhalebbcbgbdaaGreatDoorCards
import Derived.Test.YtfhalebbcbgbdaaGreatDoorTie
import Derived.WalkKit
import Derived.ProofKit
import Derived.OpenShut
import Derived.ShutString
import Derived.ChangeOld
import Derived.Below
import Derived.Carry
import Derived.LaidMore
import Derived.LaidHandle
import Derived.Stop.Joined
import Derived.SevenTiedAt
namespace Go.Proofs.YtfhalebbcbgbdaaGreatDoor.bridgeAgain
open Go.ChangeShapes Go.WideShapes Go.ChangeAt Go.RowKit
open Go.ChangeMaps (open_string shut_string)
set_option linter.unusedVariables false
set_option linter.unusedSimpArgs false

theorem own : ownKnob Tryz.prog.godebug = none := by kernel_rfl
theorem laidOut : laidOutB Tryz.prog = true := by kernel_rfl

theorem walk (w : World) (ht : TP w.heap) (x0 : Int) (g0 : (Lit.int .i64 x0).wf = true) (x1 : Go.H.Slc × List Int) (g1 : (Go.R.GoodG (fun x : Int => [Value.int .i64 x]) 1 (Tryz.prog.bytesOf 3) reachBytes w.heap (fun x => (Lit.int .i64 x).wf = true)) x1) :
    Calls Tryz.prog 5 #[.int .i64 x0, .slice x1.1.a x1.1.len x1.1.cap] w fun e w' => e = .returned (.bool true) ∧ Below w.heap.size w w' := by
  exact Go.H.walk_of (BridgeAgain_w ht ht.u8 g1.row (fun h' R hs => ⟨rfl, R, hs⟩) w.heap (Go.H.sat_old w.heap))

set_option maxRecDepth 100000 in
theorem lifted (os : Os) (started : os.Started) (H : Type) (enc : TypeId × Value → H) :
    ReturnsInHanded {} Tryz.checked os 5 .any (fun w args => (Rows.bridgeAgainSpec.pre enc Tryz.prog Tryz.f5 [] false w args ∧ laidMetH Tryz.prog laid23 w) ∧ sizedMet enc Tryz.prog Tryz.f5 (OpenSpec.ofChange Rows.bridgeAgainSpec) false w args)
      (Rows.bridgeAgainSpec.post enc Tryz.prog Tryz.f5 false true false false) := by
  refine returnsInHanded_shapedR (C := Tryz.checked) (X := fun w _ => laidMetH Tryz.prog laid23 w) (fun _ _ _ hh h => h.of_heap hh) own started (by kernel_rfl) Tryz.func5
    (ChangeSpec.witness_shaped (enc := enc) (C := Tryz.checked) (os := os) (X := fun w _ => laidMetH Tryz.prog laid23 w) false (laidWorld os) #[.int .i64 0, .slice none 0 0] 8 rfl (World.shaped_of_RefB (by kernel_rfl) (by kernel_rfl)) (by kernel_rfl) (by kernel_rfl) (by kernel_rfl) (laid_met23 os _)) ?_
  intro W base args ds gs before hval0 hW _ hwt hL hsh _
  have hval : ∀ (j : Nat) t v, Tryz.f5.params[j]? = some t → args[j]? = some v → Value.okWide Tryz.prog W .any base t v := hval0
  have hW' := hW
  obtain ⟨p, q, hA0, hV, rfl, hfz, hnd⟩ := hW
  have hA : DataW.TrodAll enc Tryz.prog W 0 (fun _ => true) true Tryz.f5.params.toList args.toList ds p := hA0
  rw [Tryz.params5] at hA hval
  obtain ⟨v0, vs0, d0, ds0, p0, q0, hargs, rfl, rfl, h0, r0⟩ := trodAll_cons hA
  obtain ⟨v1, vs1, d1, ds1, p1, q1, rfl, rfl, rfl, h1, r1⟩ := trodAll_cons r0
  obtain ⟨rfl, rfl, rfl⟩ := trodAll_nil r1
  obtain rfl : args = #[v0, v1] := by cases args; simp_all
  obtain ⟨rfl, rfl⟩ := trodVars_none hV
  have w1 : Go.R.okW Tryz.prog 35 d1 := fun n hn => by simpa using List.all_eq_true.1 hwt n (DataW.weights_mem_each (j := 1) (by kernel_rfl) rfl n hn)
  obtain ⟨x0, rfl, rfl, rfl, g0⟩ := open_int Tryz.underlying3 (hval 0 3 v0 rfl rfl) h0
  obtain ⟨a1, len1, cap1, rfl⟩ := okWide_slice Tryz.underlying35 (hval 1 35 v1 rfl rfl)
  have k1 := h1
  have lt1 : ∀ x ∈ p1, x.block < W.heap.size := by obtain ⟨m, hm⟩ := k1; exact DataW.trod_lt m _ _ _ hm
  obtain ⟨x1, e1, g1⟩ : ∃ x : Go.H.Slc × List Int, (Value.slice a1 len1 cap1 = .slice x.1.a x.1.len x.1.cap) ∧ (Go.R.GoodG (fun x : Int => [Value.int .i64 x]) 1 (Tryz.prog.bytesOf 3) reachBytes W.heap (fun x => (Lit.int .i64 x).wf = true)) x := by
    obtain ⟨fuel, hf⟩ := h1
    obtain ⟨x, hx, hg⟩ := rd_Ints23 (Go.R.okW_law Tryz.prog) fuel _ _ hf w1
    exact ⟨x, by simpa [Value.cells] using hx, hg⟩
  cases e1
  clear hA0 hval0
  refine (walk W (tp_of_laid23 hL hsh) x0 g0 x1 g1).mono fun e W' ⟨he, bel⟩ => ?_
  subst he
  exact ⟨_, rfl, _, _, _, [], _, [], hW', trodAll_mk1 (shut_bool Tryz.underlying4 _), (trodAll_cons_mk (shut_int Tryz.underlying3 g0) (trodAll_cons_mk (Below.trod laidOut (by kernel_rfl) (of_decide_eq_true (by kernel_rfl)) k1 bel lt1) trodAll_mk0)), rfl, bel.frame _, fun h => by cases h⟩

theorem over : Rows.bridgeAgainRow.holds Tryz.pinned (OpenSpec.ofChange Rows.bridgeAgainSpec) :=
  OpenClaim.holds_of_wide 5 Tryz.f5 rfl rfl rfl rfl rfl rfl rfl ⟨rfl, rfl, rfl, rfl, rfl⟩ rfl rfl rfl rfl rfl (by kernel_rfl) Tryz.func5 (by kernel_rfl)
    (of_decide_eq_true (by kernel_rfl)) (by unfold Func.isWrapper; first | (rw [if_pos (by decide +kernel)]; kernel_rfl) | (rw [if_neg (by decide +kernel)]; exact ⟨rfl, rfl⟩))
    (fun os started H enc _ => lifted os started H enc)

theorem proved : Rows.BridgeAgainSaid := over

/-- THE TIED CARD. -/
theorem cardProved : Rows.BridgeAgainCardSaid :=
  Claim7.holds_tied_plain_at .later [] [.data, .data, .data, .data, .pinned] true (true, "561581784295003d59f6ec77ba243f21f19832a26e7b2d8ac4caca4e0f9cdc79") true
    proved (fun _ h => by cases h) (by kernel_rfl) (fun _ h => by cases h) bridgeAgain_row_tie rfl ⟨rfl, rfl⟩ (by kernel_rfl) rfl
    (fun f fn hf hfn => by
      obtain rfl : f = 5 := Option.some.inj ((show Tryz.prog.funcNamed "aqueduct/aqueductlaw23.BridgeAgain" = some 5 by kernel_rfl).symm.trans hf) |>.symm
      obtain rfl : fn = Tryz.f5 := (Option.some.inj (Tryz.func5.symm.trans hfn)).symm
      exact ⟨by kernel_rfl, fun j t ht => by
        rw [Tryz.params5] at ht
        have hm : t ∈ [3, 35] := by simpa using Array.mem_of_getElem? ht
        have hall : ([3, 35].all fun u => !Tryz.prog.wantsStandIn u) = true := by kernel_rfl
        exact (show Tryz.prog.wantsStandIn t = false by simpa using List.all_eq_true.1 hall t hm)⟩)
    (by kernel_rfl)
#print axioms cardProved
end Go.Proofs.YtfhalebbcbgbdaaGreatDoor.bridgeAgain
