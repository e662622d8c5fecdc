/-
  PROVED: 'aqueductlaw16.TagsPlays' answers true whatever the input, and the input reads as it did: 'Rows.TagsPlaysSaid'. Conditions: none but the statement's own.
-/
import Derived.Test.YtngpaokjbcjpgaaDoorRows
import Derived.Test.YtngpaokjbcjpgaaDoorQTagsPlays1
import Derived.Test.YtngpaokjbcjpgaaDoorCards
import Derived.Test.YtngpaokjbcjpgaaDoorTie
import Derived.WalkKit
import Derived.ProofKit
import Derived.OpenShut
import Derived.ShutString
import Derived.ChangeOld
import Derived.Below
import Derived.Carry
import Derived.LaidMore
import Derived.LaidHandle
import Derived.Stop.Joined
import Derived.SevenTiedAt
namespace Go.Proofs.YtngpaokjbcjpgaaDoor.tagsPlays
open Go.ChangeShapes Go.WideShapes Go.ChangeAt Go.RowKit
open Go.ChangeMaps (open_string shut_string)
set_option linter.unusedVariables false
set_option linter.unusedSimpArgs false

theorem own : ownKnob Tryd.prog.godebug = none := by kernel_rfl
theorem laidOut : laidOutB Tryd.prog = true := by kernel_rfl

theorem walk (w : World) (ht : NoHyp w.heap) (x0 : Int) (g0 : (Lit.int .i64 x0).wf = true) (x1 : Go.H.Slc × List (Int × Int)) (g1 : (Go.R.GoodG (fun x : Int × Int => [.int .i64 x.1, .int .i64 x.2]) 2 (Tryd.prog.bytesOf 24) reachBytes w.heap good16) x1) (x2 : Int × Int) (g2 : (good16) x2) :
    Calls Tryd.prog 3 #[.int .i64 x0, .slice x1.1.a x1.1.len x1.1.cap, .agg #[.int .i64 x2.1, .int .i64 x2.2]] w fun e w' => e = .returned (.bool true) ∧ Below w.heap.size w w' := by
  exact Go.H.walk_of (TagsPlays_w (most := x0) (ask := x2) g1.row (fun h' R hs => ⟨rfl, R, hs⟩) w.heap (Go.H.sat_old w.heap))

set_option maxRecDepth 100000 in
theorem lifted (os : Os) (started : os.Started) (H : Type) (enc : TypeId × Value → H) :
    ReturnsInHanded {} Tryd.checked os 3 .any (fun w args => (Rows.tagsPlaysSpec.pre enc Tryd.prog Tryd.f3 [] false w args ∧ laidMetH Tryd.prog laid17 w) ∧ sizedMet enc Tryd.prog Tryd.f3 (OpenSpec.ofChange Rows.tagsPlaysSpec) false w args)
      (Rows.tagsPlaysSpec.post enc Tryd.prog Tryd.f3 false true false false) := by
  refine returnsInHanded_shapedR (C := Tryd.checked) (X := fun w _ => laidMetH Tryd.prog laid17 w) (fun _ _ _ hh h => h.of_heap hh) own started (by kernel_rfl) Tryd.func3
    (ChangeSpec.witness_shaped (enc := enc) (C := Tryd.checked) (os := os) (X := fun w _ => laidMetH Tryd.prog laid17 w) false (laidWorld os) #[.int .i64 0, .slice none 0 0, .agg #[.int .i64 0, .int .i64 0]] 8 rfl (World.shaped_of_RefB (by kernel_rfl) (by kernel_rfl)) (by kernel_rfl) (by kernel_rfl) (by kernel_rfl) (laid_met os _)) ?_
  intro W base args ds gs before hval0 hW _ hwt hL hsh _
  have hval : ∀ (j : Nat) t v, Tryd.f3.params[j]? = some t → args[j]? = some v → Value.okWide Tryd.prog W .any base t v := hval0
  have hW' := hW
  obtain ⟨p, q, hA0, hV, rfl, hfz, hnd⟩ := hW
  have hA : DataW.TrodAll enc Tryd.prog W 0 (fun _ => true) true Tryd.f3.params.toList args.toList ds p := hA0
  rw [Tryd.params3] at hA hval
  obtain ⟨v0, vs0, d0, ds0, p0, q0, hargs, rfl, rfl, h0, r0⟩ := trodAll_cons hA
  obtain ⟨v1, vs1, d1, ds1, p1, q1, rfl, rfl, rfl, h1, r1⟩ := trodAll_cons r0
  obtain ⟨v2, vs2, d2, ds2, p2, q2, rfl, rfl, rfl, h2, r2⟩ := trodAll_cons r1
  obtain ⟨rfl, rfl, rfl⟩ := trodAll_nil r2
  obtain rfl : args = #[v0, v1, v2] := by cases args; simp_all
  obtain ⟨rfl, rfl⟩ := trodVars_none hV
  have w1 : Go.R.okW Tryd.prog 22 d1 := fun n hn => by simpa using List.all_eq_true.1 hwt n (DataW.weights_mem_each (j := 1) (by kernel_rfl) rfl n hn)
  have w2 : Go.R.okW Tryd.prog 24 d2 := fun n hn => by simpa using List.all_eq_true.1 hwt n (DataW.weights_mem_each (j := 2) (by kernel_rfl) rfl n hn)
  obtain ⟨x0, rfl, rfl, rfl, g0⟩ := open_int Tryd.underlying3 (hval 0 3 v0 rfl rfl) h0
  obtain ⟨a1, len1, cap1, rfl⟩ := okWide_slice Tryd.underlying22 (hval 1 22 v1 rfl rfl)
  have k1 := h1
  have lt1 : ∀ x ∈ p1, x.block < W.heap.size := by obtain ⟨m, hm⟩ := k1; exact DataW.trod_lt m _ _ _ hm
  obtain ⟨x1, e1, g1⟩ : ∃ x : Go.H.Slc × List (Int × Int), (Value.slice a1 len1 cap1 = .slice x.1.a x.1.len x.1.cap) ∧ (Go.R.GoodG (fun x : Int × Int => [.int .i64 x.1, .int .i64 x.2]) 2 (Tryd.prog.bytesOf 24) reachBytes W.heap good16) x := by
    obtain ⟨fuel, hf⟩ := h1
    obtain ⟨x, hx, hg⟩ := rd_Tags16 (Go.R.okW_law Tryd.prog) fuel _ _ hf w1
    exact ⟨x, by simpa [Value.cells] using hx, hg⟩
  cases e1
  obtain ⟨cs2, rfl⟩ := Go.R.okWide_agg Tryd.underlying24 (hval 2 24 v2 rfl rfl)
  have k2 := h2
  have lt2 : ∀ x ∈ p2, x.block < W.heap.size := by obtain ⟨m, hm⟩ := k2; exact DataW.trod_lt m _ _ _ hm
  obtain ⟨x2, e2, g2⟩ : ∃ x : Int × Int, (Value.agg cs2 = .agg #[.int .i64 x.1, .int .i64 x.2]) ∧ (good16) x := by
    obtain ⟨fuel, hf⟩ := h2
    obtain ⟨x, hx, hg⟩ := rd_Tag16 (Go.R.okW_law Tryd.prog) fuel _ _ hf w2
    exact ⟨x, congrArg Value.agg (Array.toList_inj.1 hx), hg⟩
  cases e2
  clear hA0 hval0
  refine (walk W (nohyp_of_laid hL hsh) x0 g0 x1 g1 x2 g2).mono fun e W' ⟨he, bel⟩ => ?_
  subst he
  exact ⟨_, rfl, _, _, _, [], _, [], hW', trodAll_mk1 (shut_bool Tryd.underlying4 _), (trodAll_cons_mk (shut_int Tryd.underlying3 g0) (trodAll_cons_mk (Below.trod laidOut (by kernel_rfl) (of_decide_eq_true (by kernel_rfl)) k1 bel lt1) (trodAll_cons_mk (Below.trod laidOut (by kernel_rfl) (of_decide_eq_true (by kernel_rfl)) k2 bel lt2) trodAll_mk0))), rfl, bel.frame _, fun h => by cases h⟩

theorem over : Rows.tagsPlaysRow.holds Tryd.pinned (OpenSpec.ofChange Rows.tagsPlaysSpec) :=
  OpenClaim.holds_of_wide 3 Tryd.f3 rfl rfl rfl rfl rfl rfl rfl ⟨rfl, rfl, rfl, rfl, rfl⟩ rfl rfl rfl rfl rfl (by kernel_rfl) Tryd.func3 (by kernel_rfl)
    (of_decide_eq_true (by kernel_rfl)) (by unfold Func.isWrapper; first | (rw [if_pos (by decide +kernel)]; kernel_rfl) | (rw [if_neg (by decide +kernel)]; exact ⟨rfl, rfl⟩))
    (fun os started H enc _ => lifted os started H enc)

theorem proved : Rows.TagsPlaysSaid := over

/-- THE TIED CARD. -/
theorem cardProved : Rows.TagsPlaysCardSaid :=
  Claim7.holds_tied_plain_at .later [] [.data, .data, .data] true (true, "8b2aa9da3dba28c4a8d36cac74ab04675a946a34304aad56f8871cb88972c120") false
    proved (fun _ h => by cases h) (by kernel_rfl) (fun _ h => by cases h) tagsPlays_row_tie rfl ⟨rfl, rfl⟩ (by kernel_rfl) rfl
    (fun f fn hf hfn => by
      obtain rfl : f = 3 := Option.some.inj ((show Tryd.prog.funcNamed "aqueduct/aqueductlaw16.TagsPlays" = some 3 by kernel_rfl).symm.trans hf) |>.symm
      obtain rfl : fn = Tryd.f3 := (Option.some.inj (Tryd.func3.symm.trans hfn)).symm
      exact ⟨by kernel_rfl, fun j t ht => by
        rw [Tryd.params3] at ht
        have hm : t ∈ [3, 22, 24] := by simpa using Array.mem_of_getElem? ht
        have hall : ([3, 22, 24].all fun u => !Tryd.prog.wantsStandIn u) = true := by kernel_rfl
        exact (show Tryd.prog.wantsStandIn t = false by simpa using List.all_eq_true.1 hall t hm)⟩)
    (by kernel_rfl)
#print axioms cardProved
end Go.Proofs.YtngpaokjbcjpgaaDoor.tagsPlays
