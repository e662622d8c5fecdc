/-
  PROVED: 'aqueductlaw16.TagsOnce' answers true whatever the input, and the input reads as it did: 'Rows.TagsOnceSaid'. Conditions: none but the statement's own.
-/
import Derived.Test.YtlgddhcbiioefaaDoorRows
import Derived.Test.YtlgddhcbiioefaaDoorL16o
import Derived.Test.YtlgddhcbiioefaaDoorR16
import Derived.Test.YtlgddhcbiioefaaDoorD16
import Derived.Test.YtlgddhcbiioefaaDoorCards
import Derived.Test.YtlgddhcbiioefaaDoorTie
import Derived.WalkKit
import Derived.ProofKit
import Derived.OpenShut
import Derived.ShutString
import Derived.ChangeOld
import Derived.Below
import Derived.Carry
import Derived.LaidMore
import Derived.LaidHandle
import Derived.Stop.Joined
import Derived.SevenTiedAt
namespace Go.Proofs.YtlgddhcbiioefaaDoor.tagsOnce
open Go.ChangeShapes Go.WideShapes Go.ChangeAt Go.RowKit
open Go.ChangeMaps (open_string shut_string)
set_option linter.unusedVariables false

theorem own : ownKnob Tryd.prog.godebug = none := by kernel_rfl
theorem laidOut : laidOutB Tryd.prog = true := by kernel_rfl

theorem walk (w : World) (ht : NoHyp w.heap) (x0 : Int) (g0 : (Lit.int .i64 x0).wf = true) (x1 : Go.H.Slc × List (Int × Int)) (g1 : Go.H.GoodS (fun x : Int × Int => [.int .i64 x.1, .int .i64 x.2]) 2 w.heap good16 x1) :
    Calls Tryd.prog 7 #[.int .i64 x0, .slice x1.1.a x1.1.len x1.1.cap] w fun e w' => e = .returned (.bool true) ∧ Below w.heap.size w w' := by
  exact Go.H.walk_of (TagsOnce_spec (most := x0) g1.row (Go.H.sat_old w.heap) fun h' R hs => ⟨rfl, R, hs⟩)

set_option maxRecDepth 100000 in
theorem lifted (os : Os) (started : os.Started) (H : Type) (enc : TypeId × Value → H) :
    ReturnsInHanded {} Tryd.checked os 7 .any (fun w args => (Rows.tagsOnceSpec.pre enc Tryd.prog Tryd.f7 [] false w args ∧ laidMetH Tryd.prog laid16 w) ∧ sizedMet enc Tryd.prog Tryd.f7 (OpenSpec.ofChange Rows.tagsOnceSpec) false w args)
      (Rows.tagsOnceSpec.post enc Tryd.prog Tryd.f7 false true false false) := by
  refine returnsInHanded_of_change_and (C := Tryd.checked) (X := fun w _ => laidMetH Tryd.prog laid16 w) (fun _ _ _ hh h => h.of_heap hh) own started (by kernel_rfl) Tryd.func7
    (ChangeSpec.witness_shaped (enc := enc) (C := Tryd.checked) (os := os) (X := fun w _ => laidMetH Tryd.prog laid16 w) false (laidWorld16 os) #[.int .i64 0, .slice none 0 0] 8 rfl (World.shaped_of_RefB (by kernel_rfl) (by kernel_rfl)) (by kernel_rfl) (by kernel_rfl) (by kernel_rfl) (laid_met16 os _)) ?_
  intro W base args ds gs before hval0 hW _ _ hL _
  have hval : ∀ (j : Nat) t v, Tryd.f7.params[j]? = some t → args[j]? = some v → Value.okWide Tryd.prog W .any base t v := hval0
  have hW' := hW
  obtain ⟨p, q, hA0, hV, rfl, hfz, hnd⟩ := hW
  have hA : DataW.TrodAll enc Tryd.prog W 0 (fun _ => true) true Tryd.f7.params.toList args.toList ds p := hA0
  rw [Tryd.params7] at hA hval
  obtain ⟨v0, vs0, d0, ds0, p0, q0, hargs, rfl, rfl, h0, r0⟩ := trodAll_cons hA
  obtain ⟨v1, vs1, d1, ds1, p1, q1, rfl, rfl, rfl, h1, r1⟩ := trodAll_cons r0
  obtain ⟨rfl, rfl, rfl⟩ := trodAll_nil r1
  obtain rfl : args = #[v0, v1] := by cases args; simp_all
  obtain ⟨rfl, rfl⟩ := trodVars_none hV
  obtain ⟨x0, rfl, rfl, rfl, g0⟩ := open_int Tryd.underlying3 (hval 0 3 v0 rfl rfl) h0
  obtain ⟨a1, len1, cap1, rfl⟩ := okWide_slice Tryd.underlying99 (hval 1 99 v1 rfl rfl)
  have k1 := h1
  have lt1 : ∀ x ∈ p1, x.block < W.heap.size := by obtain ⟨m, hm⟩ := k1; exact DataW.trod_lt m _ _ _ hm
  obtain ⟨x1, e1, g1⟩ : ∃ x : Go.H.Slc × List (Int × Int), (Value.slice a1 len1 cap1 = .slice x.1.a x.1.len x.1.cap) ∧ (Go.H.GoodS (fun x : Int × Int => [.int .i64 x.1, .int .i64 x.2]) 2 W.heap good16) x := by
    obtain ⟨fuel, hf⟩ := h1
    obtain ⟨x, hx, hg⟩ := rd_Tags16 fuel _ _ hf
    exact ⟨x, by simpa [Value.cells] using hx, hg⟩
  cases e1
  clear hA0 hval0
  refine (walk W (nohyp_of_laid hL) x0 g0 x1 g1).mono fun e W' ⟨he, bel⟩ => ?_
  subst he
  exact ⟨_, rfl, _, _, _, [], _, [], hW', trodAll_mk1 (shut_bool Tryd.underlying4 _), (trodAll_cons_mk (shut_int Tryd.underlying3 g0) (trodAll_cons_mk (Below.trod laidOut (by kernel_rfl) (of_decide_eq_true (by kernel_rfl)) k1 bel lt1) trodAll_mk0)), rfl, bel.frame _, fun h => by cases h⟩

theorem over : Rows.tagsOnceRow.holds Tryd.pinned (OpenSpec.ofChange Rows.tagsOnceSpec) :=
  OpenClaim.holds_of_wide 7 Tryd.f7 rfl rfl rfl rfl rfl rfl rfl ⟨rfl, rfl, rfl, rfl, rfl⟩ rfl rfl rfl rfl rfl (by kernel_rfl) Tryd.func7 (by kernel_rfl)
    (of_decide_eq_true (by kernel_rfl)) (by unfold Func.isWrapper; first | (rw [if_pos (by decide +kernel)]; kernel_rfl) | (rw [if_neg (by decide +kernel)]; exact ⟨rfl, rfl⟩))
    (fun os started H enc _ => lifted os started H enc)

theorem proved : Rows.TagsOnceSaid := over

/-- THE TIED CARD. -/
theorem cardProved : Rows.TagsOnceCardSaid :=
  Claim7.holds_tied_plain_at .later [] [.data, .data, .data] true (true, "47e28f3f623d97c4222096a1ada09b98a740ff0f86fdd257074b6ed79bb53f83") true
    proved (fun _ h => by cases h) (by kernel_rfl) (fun _ h => by cases h) tagsOnce_row_tie rfl ⟨rfl, rfl⟩ (by kernel_rfl) rfl
    (fun f fn hf hfn => by
      obtain rfl : f = 7 := Option.some.inj ((show Tryd.prog.funcNamed "aqueduct/aqueductlaw16.TagsOnce" = some 7 by kernel_rfl).symm.trans hf) |>.symm
      obtain rfl : fn = Tryd.f7 := (Option.some.inj (Tryd.func7.symm.trans hfn)).symm
      exact ⟨by kernel_rfl, fun j t ht => by
        rw [Tryd.params7] at ht
        have hm : t ∈ [3, 99] := by simpa using Array.mem_of_getElem? ht
        have hall : ([3, 99].all fun u => !Tryd.prog.wantsStandIn u) = true := by kernel_rfl
        exact (show Tryd.prog.wantsStandIn t = false by simpa using List.all_eq_true.1 hall t hm)⟩)
    (by kernel_rfl)
#print axioms cardProved
end Go.Proofs.YtlgddhcbiioefaaDoor.tagsOnce
