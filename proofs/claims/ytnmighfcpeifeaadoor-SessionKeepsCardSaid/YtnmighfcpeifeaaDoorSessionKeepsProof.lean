/-
  PROVED: 'aqueductlaw18.SessionKeeps' answers true whatever the input, and the input reads as it did: 'Rows.SessionKeepsSaid'. Conditions: none but the statement's own.
-/
import Derived.Test.YtnmighfcpeifeaaDoorRows
import Derived.Test.YtnmighfcpeifeaaDoorHC
import Derived.Test.YtnmighfcpeifeaaDoorL18k
import Derived.Test.YtnmighfcpeifeaaDoorD18
import Derived.Test.YtnmighfcpeifeaaDoorCards
import Derived.Test.YtnmighfcpeifeaaDoorTie
import Derived.WalkKit
import Derived.ProofKit
import Derived.OpenShut
import Derived.ShutString
import Derived.ChangeOld
import Derived.Below
import Derived.Carry
import Derived.LaidMore
import Derived.LaidHandle
import Derived.Stop.Joined
import Derived.SevenTiedAt
namespace Go.Proofs.YtnmighfcpeifeaaDoor.sessionKeeps
open Go.ChangeShapes Go.WideShapes Go.ChangeAt Go.RowKit
open Go.ChangeMaps (open_string shut_string)
set_option linter.unusedVariables false

theorem own : ownKnob Tryd.prog.godebug = none := by kernel_rfl
theorem laidOut : laidOutB Tryd.prog = true := by kernel_rfl

theorem walk (w : World) (ht : U8 w.heap) (x0 : ByteArray) (g0 : x0.size ≤ reachBytes) (x1 : Int) (g1 : (Lit.int .i64 x1).wf = true) (x2 : Go.H.Slc × List Bool) (g2 : Go.H.GoodN (fun y : Bool => [Value.bool y]) 1 1 w.heap (fun _ => True) x2) :
    Calls Tryd.prog 3 #[.string x0, .int .i64 x1, .slice x2.1.a x2.1.len x2.1.cap] w fun e w' => e = .returned (.bool true) ∧ Below w.heap.size w w' := by
  exact Go.H.walk_of (SessionKeeps_spec (n0 := x1) (Go.H.sat_old w.heap) ht (Nat.le_trans g0 (by decide)) g2.row fun h' R hs => ⟨rfl, R, hs⟩)

set_option maxRecDepth 100000 in
theorem lifted (os : Os) (started : os.Started) (H : Type) (enc : TypeId × Value → H) :
    ReturnsInHanded {} Tryd.checked os 3 .any (fun w args => (Rows.sessionKeepsSpec.pre enc Tryd.prog Tryd.f3 [] false w args ∧ laidMetH Tryd.prog laid18 w) ∧ sizedMet enc Tryd.prog Tryd.f3 (OpenSpec.ofChange Rows.sessionKeepsSpec) false w args)
      (Rows.sessionKeepsSpec.post enc Tryd.prog Tryd.f3 false true false false) := by
  refine returnsInHanded_shaped (C := Tryd.checked) (X := fun w _ => laidMetH Tryd.prog laid18 w) (fun _ _ _ hh h => h.of_heap hh) own started (by kernel_rfl) Tryd.func3
    (ChangeSpec.witness_shaped (enc := enc) (C := Tryd.checked) (os := os) (X := fun w _ => laidMetH Tryd.prog laid18 w) false (laidWorld os) #[.string ⟨#[]⟩, .int .i64 0, .slice none 0 0] 8 rfl (World.shaped_of_RefB (by kernel_rfl) (by kernel_rfl)) (by kernel_rfl) (by kernel_rfl) (by kernel_rfl) (laid_met os _)) ?_
  intro W base args ds gs before hval0 hW _ hwt hL hsh _
  have hval : ∀ (j : Nat) t v, Tryd.f3.params[j]? = some t → args[j]? = some v → Value.okWide Tryd.prog W .any base t v := hval0
  have hW' := hW
  obtain ⟨p, q, hA0, hV, rfl, hfz, hnd⟩ := hW
  have hA : DataW.TrodAll enc Tryd.prog W 0 (fun _ => true) true Tryd.f3.params.toList args.toList ds p := hA0
  rw [Tryd.params3] at hA hval
  obtain ⟨v0, vs0, d0, ds0, p0, q0, hargs, rfl, rfl, h0, r0⟩ := trodAll_cons hA
  obtain ⟨v1, vs1, d1, ds1, p1, q1, rfl, rfl, rfl, h1, r1⟩ := trodAll_cons r0
  obtain ⟨v2, vs2, d2, ds2, p2, q2, rfl, rfl, rfl, h2, r2⟩ := trodAll_cons r1
  obtain ⟨rfl, rfl, rfl⟩ := trodAll_nil r2
  obtain rfl : args = #[v0, v1, v2] := by cases args; simp_all
  obtain ⟨rfl, rfl⟩ := trodVars_none hV
  have w0 : ∀ n ∈ d0.weights Tryd.prog 9, n ≤ reachBytes := fun n hn => by simpa using List.all_eq_true.1 hwt n (DataW.weights_mem_each (j := 0) (by kernel_rfl) rfl n hn)
  obtain ⟨x0, rfl, rfl, rfl, gg0⟩ := open_string Tryd.underlying9 (hval 0 9 v0 rfl rfl) h0
  have g0 : x0.size ≤ reachBytes := by have := w0 x0.data.toList.length (by simp [DataW.weights]); rwa [Array.length_toList] at this
  obtain ⟨x1, rfl, rfl, rfl, g1⟩ := open_int Tryd.underlying3 (hval 1 3 v1 rfl rfl) h1
  obtain ⟨a2, len2, cap2, rfl⟩ := okWide_slice Tryd.underlying22 (hval 2 22 v2 rfl rfl)
  have w2 : ∀ n ∈ d2.weights Tryd.prog 22, n ≤ reachBytes := fun n hn => by simpa using List.all_eq_true.1 hwt n (DataW.weights_mem_each (j := 2) (by kernel_rfl) rfl n hn)
  have k2 := h2
  have lt2 : ∀ x ∈ p2, x.block < W.heap.size := by obtain ⟨m, hm⟩ := k2; exact DataW.trod_lt m _ _ _ hm
  obtain ⟨x2, e2, g2⟩ : ∃ x : Go.H.Slc × List Bool, (Value.slice a2 len2 cap2 = .slice x.1.a x.1.len x.1.cap) ∧ (Go.H.GoodN (fun y : Bool => [Value.bool y]) 1 1 W.heap (fun _ => True)) x := by
    obtain ⟨fuel, hf⟩ := h2
    obtain ⟨x, hx, hg⟩ := rd_Bools18 fuel _ _ hf w2
    exact ⟨x, by simpa [Value.cells] using hx, hg⟩
  cases e2
  clear hA0 hval0
  refine (walk W (u8_of_laidS hL hsh) x0 g0 x1 g1 x2 g2).mono fun e W' ⟨he, bel⟩ => ?_
  subst he
  exact ⟨_, rfl, _, _, _, [], _, [], hW', trodAll_mk1 (shut_bool Tryd.underlying4 _), (trodAll_cons_mk (shut_string Tryd.underlying9 gg0) (trodAll_cons_mk (shut_int Tryd.underlying3 g1) (trodAll_cons_mk (Below.trod laidOut (by kernel_rfl) (of_decide_eq_true (by kernel_rfl)) k2 bel lt2) trodAll_mk0))), rfl, bel.frame _, fun h => by cases h⟩

theorem over : Rows.sessionKeepsRow.holds Tryd.pinned (OpenSpec.ofChange Rows.sessionKeepsSpec) :=
  OpenClaim.holds_of_wide 3 Tryd.f3 rfl rfl rfl rfl rfl rfl rfl ⟨rfl, rfl, rfl, rfl, rfl⟩ rfl rfl rfl rfl rfl (by kernel_rfl) Tryd.func3 (by kernel_rfl)
    (of_decide_eq_true (by kernel_rfl)) (by unfold Func.isWrapper; first | (rw [if_pos (by decide +kernel)]; kernel_rfl) | (rw [if_neg (by decide +kernel)]; exact ⟨rfl, rfl⟩))
    (fun os started H enc _ => lifted os started H enc)

theorem proved : Rows.SessionKeepsSaid := over

/-- THE TIED CARD. -/
theorem cardProved : Rows.SessionKeepsCardSaid :=
  Claim7.holds_tied_plain_at .later [] [.data, .pinned] true (true, "91c2ddee30a5c9e2f0a5df78f3f94ac708211745578e22936c29ac61c86218a6") false
    proved (fun _ h => by cases h) (by kernel_rfl) (fun _ h => by cases h) sessionKeeps_row_tie rfl ⟨rfl, rfl⟩ (by kernel_rfl) rfl
    (fun f fn hf hfn => by
      obtain rfl : f = 3 := Option.some.inj ((show Tryd.prog.funcNamed "aqueduct/aqueductlaw18.SessionKeeps" = some 3 by kernel_rfl).symm.trans hf) |>.symm
      obtain rfl : fn = Tryd.f3 := (Option.some.inj (Tryd.func3.symm.trans hfn)).symm
      exact ⟨by kernel_rfl, fun j t ht => by
        rw [Tryd.params3] at ht
        have hm : t ∈ [9, 3, 22] := by simpa using Array.mem_of_getElem? ht
        have hall : ([9, 3, 22].all fun u => !Tryd.prog.wantsStandIn u) = true := by kernel_rfl
        exact (show Tryd.prog.wantsStandIn t = false by simpa using List.all_eq_true.1 hall t hm)⟩)
    (by kernel_rfl)
#print axioms cardProved
end Go.Proofs.YtnmighfcpeifeaaDoor.sessionKeeps
