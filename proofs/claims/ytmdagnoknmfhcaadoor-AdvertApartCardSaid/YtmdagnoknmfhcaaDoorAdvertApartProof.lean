/-
  PROVED: 'aqueductlaw21.AdvertApart' answers true whatever the input, and the input reads as it did: 'Rows.AdvertApartSaid'. Conditions: none but the statement's own.
-/
import Derived.Test.YtmdagnoknmfhcaaDoorRows
import Derived.Test.YtmdagnoknmfhcaaDoorHC
import Derived.Test.YtmdagnoknmfhcaaDoorL21a
import Derived.Test.YtmdagnoknmfhcaaDoorR21
import Derived.Test.YtmdagnoknmfhcaaDoorD17
import Derived.Test.YtmdagnoknmfhcaaDoorCards
import Derived.Test.YtmdagnoknmfhcaaDoorTie
import Derived.WalkKit
import Derived.ProofKit
import Derived.OpenShut
import Derived.ShutString
import Derived.ChangeOld
import Derived.Below
import Derived.Carry
import Derived.LaidMore
import Derived.LaidHandle
import Derived.Stop.Joined
import Derived.SevenTiedAt
namespace Go.Proofs.YtmdagnoknmfhcaaDoor.advertApart
open Go.ChangeShapes Go.WideShapes Go.ChangeAt Go.RowKit
open Go.ChangeMaps (open_string shut_string)
set_option linter.unusedVariables false

theorem own : ownKnob Tryd.prog.godebug = none := by kernel_rfl
theorem laidOut : laidOutB Tryd.prog = true := by kernel_rfl

theorem walk (w : World) (ht : TP w.heap) (x0 : Adv21) (g0 : (goodA21 w.heap) x0) :
    Calls Tryd.prog 10 #[.agg #[.int .i64 x0.1, .int .i64 x0.2.1, .slice x0.2.2.1.1.a x0.2.2.1.1.len x0.2.2.1.1.cap, .slice x0.2.2.2.1.a x0.2.2.2.1.len x0.2.2.2.1.cap]] w fun e w' => e = .returned (.bool true) ∧ Below w.heap.size w w' := by
  exact Go.H.walk_of (AdvertApart_spec (Go.H.sat_old w.heap) ht g0.2.2.1.row g0.2.2.2.row (cut_sz g0) fun h' R hs => ⟨rfl, R, hs⟩)

set_option maxRecDepth 100000 in
theorem lifted (os : Os) (started : os.Started) (H : Type) (enc : TypeId × Value → H) :
    ReturnsInHanded {} Tryd.checked os 10 .any (fun w args => (Rows.advertApartSpec.pre enc Tryd.prog Tryd.f10 [] false w args ∧ laidMetH Tryd.prog laid17 w) ∧ sizedMet enc Tryd.prog Tryd.f10 (OpenSpec.ofChange Rows.advertApartSpec) false w args)
      (Rows.advertApartSpec.post enc Tryd.prog Tryd.f10 false true false false) := by
  refine returnsInHanded_shaped (C := Tryd.checked) (X := fun w _ => laidMetH Tryd.prog laid17 w) (fun _ _ _ hh h => h.of_heap hh) own started (by kernel_rfl) Tryd.func10
    (ChangeSpec.witness_shaped (enc := enc) (C := Tryd.checked) (os := os) (X := fun w _ => laidMetH Tryd.prog laid17 w) false (laidWorld os) #[.agg #[.int .i64 0, .int .i64 0, .slice none 0 0, .slice none 0 0]] 8 rfl (World.shaped_of_RefB (by kernel_rfl) (by kernel_rfl)) (by kernel_rfl) (by kernel_rfl) (by kernel_rfl) (laid_met os _)) ?_
  intro W base args ds gs before hval0 hW _ hwt hL hsh _
  have hval : ∀ (j : Nat) t v, Tryd.f10.params[j]? = some t → args[j]? = some v → Value.okWide Tryd.prog W .any base t v := hval0
  have hW' := hW
  obtain ⟨p, q, hA0, hV, rfl, hfz, hnd⟩ := hW
  have hA : DataW.TrodAll enc Tryd.prog W 0 (fun _ => true) true Tryd.f10.params.toList args.toList ds p := hA0
  rw [Tryd.params10] at hA hval
  obtain ⟨v0, vs0, d0, ds0, p0, q0, hargs, rfl, rfl, h0, r0⟩ := trodAll_cons hA
  obtain ⟨rfl, rfl, rfl⟩ := trodAll_nil r0
  obtain rfl : args = #[v0] := by cases args; simp_all
  obtain ⟨rfl, rfl⟩ := trodVars_none hV
  obtain ⟨cs0, rfl⟩ := Go.H.okWide_struct Tryd.underlying51 (hval 0 51 v0 rfl rfl)
  have w0 : ∀ n ∈ d0.weights Tryd.prog 51, n ≤ reachBytes := fun n hn => by simpa using List.all_eq_true.1 hwt n (DataW.weights_mem_each (j := 0) (by kernel_rfl) rfl n hn)
  have k0 := h0
  have lt0 : ∀ x ∈ p0, x.block < W.heap.size := by obtain ⟨m, hm⟩ := k0; exact DataW.trod_lt m _ _ _ hm
  obtain ⟨x0, e0, g0⟩ : ∃ x : Adv21, (Value.agg cs0 = .agg #[.int .i64 x.1, .int .i64 x.2.1, .slice x.2.2.1.1.a x.2.2.1.1.len x.2.2.1.1.cap, .slice x.2.2.2.1.a x.2.2.2.1.len x.2.2.2.1.cap]) ∧ (goodA21 W.heap) x := by
    obtain ⟨fuel, hf⟩ := h0
    obtain ⟨x, hx, hg⟩ := rd_Advert21 fuel _ _ hf w0
    exact ⟨x, congrArg Value.agg (Array.toList_inj.1 hx), hg⟩
  cases e0
  clear hA0 hval0
  refine (walk W (tp_of_laid hL hsh) x0 g0).mono fun e W' ⟨he, bel⟩ => ?_
  subst he
  exact ⟨_, rfl, _, _, _, [], _, [], hW', trodAll_mk1 (shut_bool Tryd.underlying4 _), (trodAll_cons_mk (Below.trod laidOut (by kernel_rfl) (of_decide_eq_true (by kernel_rfl)) k0 bel lt0) trodAll_mk0), rfl, bel.frame _, fun h => by cases h⟩

theorem over : Rows.advertApartRow.holds Tryd.pinned (OpenSpec.ofChange Rows.advertApartSpec) :=
  OpenClaim.holds_of_wide 10 Tryd.f10 rfl rfl rfl rfl rfl rfl rfl ⟨rfl, rfl, rfl, rfl, rfl⟩ rfl rfl rfl rfl rfl (by kernel_rfl) Tryd.func10 (by kernel_rfl)
    (of_decide_eq_true (by kernel_rfl)) (by unfold Func.isWrapper; first | (rw [if_pos (by decide +kernel)]; kernel_rfl) | (rw [if_neg (by decide +kernel)]; exact ⟨rfl, rfl⟩))
    (fun os started H enc _ => lifted os started H enc)

theorem proved : Rows.AdvertApartSaid := over

/-- THE TIED CARD. -/
theorem cardProved : Rows.AdvertApartCardSaid :=
  Claim7.holds_tied_plain_at .later [] [.data, .pinned] true (true, "71a48d05428e5e51829ce6cf71ade2217a654844fbe9d8a43254b08561a9ee10") false
    proved (fun _ h => by cases h) (by kernel_rfl) (fun _ h => by cases h) advertApart_row_tie rfl ⟨rfl, rfl⟩ (by kernel_rfl) rfl
    (fun f fn hf hfn => by
      obtain rfl : f = 10 := Option.some.inj ((show Tryd.prog.funcNamed "aqueduct/aqueductlaw21.AdvertApart" = some 10 by kernel_rfl).symm.trans hf) |>.symm
      obtain rfl : fn = Tryd.f10 := (Option.some.inj (Tryd.func10.symm.trans hfn)).symm
      exact ⟨by kernel_rfl, fun j t ht => by
        rw [Tryd.params10] at ht
        have hm : t ∈ [51] := by simpa using Array.mem_of_getElem? ht
        have hall : ([51].all fun u => !Tryd.prog.wantsStandIn u) = true := by kernel_rfl
        exact (show Tryd.prog.wantsStandIn t = false by simpa using List.all_eq_true.1 hall t hm)⟩)
    (by kernel_rfl)
#print axioms cardProved
end Go.Proofs.YtmdagnoknmfhcaaDoor.advertApart
