/-
  PROVED: 'aqueductlaw21.AdvertNewest' answers true whatever the input, and the input reads as it did: 'Rows.AdvertNewestSaid'. Conditions: none but the statement's own.
-/
import Derived.Test.YtmdagnoknmfhcaaDoorRows
import Derived.Test.YtmdagnoknmfhcaaDoorHC
import Derived.Test.YtmdagnoknmfhcaaDoorL21n
import Derived.Test.YtmdagnoknmfhcaaDoorR21
import Derived.Test.YtmdagnoknmfhcaaDoorD17
import Derived.Test.YtmdagnoknmfhcaaDoorCards
import Derived.Test.YtmdagnoknmfhcaaDoorTie
import Derived.WalkKit
import Derived.ProofKit
import Derived.OpenShut
import Derived.ShutString
import Derived.ChangeOld
import Derived.Below
import Derived.Carry
import Derived.LaidMore
import Derived.LaidHandle
import Derived.Stop.Joined
import Derived.SevenTiedAt
namespace Go.Proofs.YtmdagnoknmfhcaaDoor.advertNewest
open Go.ChangeShapes Go.WideShapes Go.ChangeAt Go.RowKit
open Go.ChangeMaps (open_string shut_string)
set_option linter.unusedVariables false

theorem own : ownKnob Tryd.prog.godebug = none := by kernel_rfl
theorem laidOut : laidOutB Tryd.prog = true := by kernel_rfl

theorem walk (w : World) (ht : TP w.heap) (x0 : Go.H.Slc × List Adv21) (g0 : Go.H.GoodN encA21 4 64 w.heap (goodA21 w.heap) x0) (x1 : Go.H.Slc × List Int) (g1 : Go.H.GoodN (fun y : Int => [Value.int .i64 y]) 1 8 w.heap (fun y => (Lit.int .i64 y).wf = true) x1) :
    Calls Tryd.prog 8 #[.slice x0.1.a x0.1.len x0.1.cap, .slice x1.1.a x1.1.len x1.1.cap] w fun e w' => e = .returned (.bool true) ∧ Below w.heap.size w w' := by
  exact Go.H.walk_of (AdvertNewest_spec (Go.H.sat_old w.heap) ht g0.row g0.good g1.row fun h' R hs => ⟨rfl, R, hs⟩)

set_option maxRecDepth 100000 in
theorem lifted (os : Os) (started : os.Started) (H : Type) (enc : TypeId × Value → H) :
    ReturnsInHanded {} Tryd.checked os 8 .any (fun w args => (Rows.advertNewestSpec.pre enc Tryd.prog Tryd.f8 [] false w args ∧ laidMetH Tryd.prog laid17 w) ∧ sizedMet enc Tryd.prog Tryd.f8 (OpenSpec.ofChange Rows.advertNewestSpec) false w args)
      (Rows.advertNewestSpec.post enc Tryd.prog Tryd.f8 false true false false) := by
  refine returnsInHanded_shaped (C := Tryd.checked) (X := fun w _ => laidMetH Tryd.prog laid17 w) (fun _ _ _ hh h => h.of_heap hh) own started (by kernel_rfl) Tryd.func8
    (ChangeSpec.witness_shaped (enc := enc) (C := Tryd.checked) (os := os) (X := fun w _ => laidMetH Tryd.prog laid17 w) false (laidWorld os) #[.slice none 0 0, .slice none 0 0] 8 rfl (World.shaped_of_RefB (by kernel_rfl) (by kernel_rfl)) (by kernel_rfl) (by kernel_rfl) (by kernel_rfl) (laid_met os _)) ?_
  intro W base args ds gs before hval0 hW _ hwt hL hsh _
  have hval : ∀ (j : Nat) t v, Tryd.f8.params[j]? = some t → args[j]? = some v → Value.okWide Tryd.prog W .any base t v := hval0
  have hW' := hW
  obtain ⟨p, q, hA0, hV, rfl, hfz, hnd⟩ := hW
  have hA : DataW.TrodAll enc Tryd.prog W 0 (fun _ => true) true Tryd.f8.params.toList args.toList ds p := hA0
  rw [Tryd.params8] at hA hval
  obtain ⟨v0, vs0, d0, ds0, p0, q0, hargs, rfl, rfl, h0, r0⟩ := trodAll_cons hA
  obtain ⟨v1, vs1, d1, ds1, p1, q1, rfl, rfl, rfl, h1, r1⟩ := trodAll_cons r0
  obtain ⟨rfl, rfl, rfl⟩ := trodAll_nil r1
  obtain rfl : args = #[v0, v1] := by cases args; simp_all
  obtain ⟨rfl, rfl⟩ := trodVars_none hV
  obtain ⟨a0, len0, cap0, rfl⟩ := okWide_slice Tryd.underlying71 (hval 0 71 v0 rfl rfl)
  have w0 : ∀ n ∈ d0.weights Tryd.prog 71, n ≤ reachBytes := fun n hn => by simpa using List.all_eq_true.1 hwt n (DataW.weights_mem_each (j := 0) (by kernel_rfl) rfl n hn)
  have k0 := h0
  have lt0 : ∀ x ∈ p0, x.block < W.heap.size := by obtain ⟨m, hm⟩ := k0; exact DataW.trod_lt m _ _ _ hm
  obtain ⟨x0, e0, g0⟩ : ∃ x : Go.H.Slc × List Adv21, (Value.slice a0 len0 cap0 = .slice x.1.a x.1.len x.1.cap) ∧ (Go.H.GoodN encA21 4 64 W.heap (goodA21 W.heap)) x := by
    obtain ⟨fuel, hf⟩ := h0
    obtain ⟨x, hx, hg⟩ := rd_Adverts21 fuel _ _ hf w0
    exact ⟨x, by simpa [Value.cells] using hx, hg⟩
  cases e0
  obtain ⟨a1, len1, cap1, rfl⟩ := okWide_slice Tryd.underlying72 (hval 1 72 v1 rfl rfl)
  have w1 : ∀ n ∈ d1.weights Tryd.prog 72, n ≤ reachBytes := fun n hn => by simpa using List.all_eq_true.1 hwt n (DataW.weights_mem_each (j := 1) (by kernel_rfl) rfl n hn)
  have k1 := h1
  have lt1 : ∀ x ∈ p1, x.block < W.heap.size := by obtain ⟨m, hm⟩ := k1; exact DataW.trod_lt m _ _ _ hm
  obtain ⟨x1, e1, g1⟩ : ∃ x : Go.H.Slc × List Int, (Value.slice a1 len1 cap1 = .slice x.1.a x.1.len x.1.cap) ∧ (Go.H.GoodN (fun y : Int => [Value.int .i64 y]) 1 8 W.heap (fun y => (Lit.int .i64 y).wf = true)) x := by
    obtain ⟨fuel, hf⟩ := h1
    obtain ⟨x, hx, hg⟩ := rd_Ints21 fuel _ _ hf w1
    exact ⟨x, by simpa [Value.cells] using hx, hg⟩
  cases e1
  clear hA0 hval0
  refine (walk W (tp_of_laid hL hsh) x0 g0 x1 g1).mono fun e W' ⟨he, bel⟩ => ?_
  subst he
  exact ⟨_, rfl, _, _, _, [], _, [], hW', trodAll_mk1 (shut_bool Tryd.underlying4 _), (trodAll_cons_mk (Below.trod laidOut (by kernel_rfl) (of_decide_eq_true (by kernel_rfl)) k0 bel lt0) (trodAll_cons_mk (Below.trod laidOut (by kernel_rfl) (of_decide_eq_true (by kernel_rfl)) k1 bel lt1) trodAll_mk0)), rfl, bel.frame _, fun h => by cases h⟩

theorem over : Rows.advertNewestRow.holds Tryd.pinned (OpenSpec.ofChange Rows.advertNewestSpec) :=
  OpenClaim.holds_of_wide 8 Tryd.f8 rfl rfl rfl rfl rfl rfl rfl ⟨rfl, rfl, rfl, rfl, rfl⟩ rfl rfl rfl rfl rfl (by kernel_rfl) Tryd.func8 (by kernel_rfl)
    (of_decide_eq_true (by kernel_rfl)) (by unfold Func.isWrapper; first | (rw [if_pos (by decide +kernel)]; kernel_rfl) | (rw [if_neg (by decide +kernel)]; exact ⟨rfl, rfl⟩))
    (fun os started H enc _ => lifted os started H enc)

theorem proved : Rows.AdvertNewestSaid := over

/-- THE TIED CARD. -/
theorem cardProved : Rows.AdvertNewestCardSaid :=
  Claim7.holds_tied_plain_at .later [] [.data, .pinned] true (true, "71a48d05428e5e51829ce6cf71ade2217a654844fbe9d8a43254b08561a9ee10") false
    proved (fun _ h => by cases h) (by kernel_rfl) (fun _ h => by cases h) advertNewest_row_tie rfl ⟨rfl, rfl⟩ (by kernel_rfl) rfl
    (fun f fn hf hfn => by
      obtain rfl : f = 8 := Option.some.inj ((show Tryd.prog.funcNamed "aqueduct/aqueductlaw21.AdvertNewest" = some 8 by kernel_rfl).symm.trans hf) |>.symm
      obtain rfl : fn = Tryd.f8 := (Option.some.inj (Tryd.func8.symm.trans hfn)).symm
      exact ⟨by kernel_rfl, fun j t ht => by
        rw [Tryd.params8] at ht
        have hm : t ∈ [71, 72] := by simpa using Array.mem_of_getElem? ht
        have hall : ([71, 72].all fun u => !Tryd.prog.wantsStandIn u) = true := by kernel_rfl
        exact (show Tryd.prog.wantsStandIn t = false by simpa using List.all_eq_true.1 hall t hm)⟩)
    (by kernel_rfl)
#print axioms cardProved
end Go.Proofs.YtmdagnoknmfhcaaDoor.advertNewest
