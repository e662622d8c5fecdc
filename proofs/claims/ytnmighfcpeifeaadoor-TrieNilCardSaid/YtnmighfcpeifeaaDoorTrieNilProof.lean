/-
  PROVED: 'aqueductlaw09.TrieNil' answers true whatever the input, and the input reads as it did: 'Rows.TrieNilSaid'. Conditions: none but the statement's own.
-/
import Derived.Test.YtnmighfcpeifeaaDoorRows
import Derived.Test.YtnmighfcpeifeaaDoorHrd
import Derived.Test.YtnmighfcpeifeaaDoorL09
import Derived.Test.YtnmighfcpeifeaaDoorD09
import Derived.Test.YtnmighfcpeifeaaDoorCards
import Derived.Test.YtnmighfcpeifeaaDoorTie
import Derived.WalkKit
import Derived.ProofKit
import Derived.OpenShut
import Derived.ShutString
import Derived.ChangeOld
import Derived.Below
import Derived.Carry
import Derived.LaidMore
import Derived.LaidHandle
import Derived.Stop.Joined
import Derived.SevenTiedAt
namespace Go.Proofs.YtnmighfcpeifeaaDoor.trieNil
open Go.ChangeShapes Go.WideShapes Go.ChangeAt Go.RowKit
open Go.ChangeMaps (open_string shut_string)
set_option linter.unusedVariables false
set_option linter.unusedSimpArgs false

theorem own : ownKnob Tryd.prog.godebug = none := by kernel_rfl
theorem laidOut : laidOutB Tryd.prog = true := by kernel_rfl

theorem walk (w : World) (ht : TP w.heap) (x0 : Int × ByteArray × Int) (g0 : (goodE09 reachBytes) x0) :
    Calls Tryd.prog 9 #[.agg #[.int .i64 x0.1, .string x0.2.1, .int .i64 x0.2.2]] w fun e w' => e = .returned (.bool true) ∧ Below w.heap.size w w' := by
  exact Go.H.walk_of (TrieNil_spec ht (e := x0) (Go.H.sat_old w.heap) fun h' R hs => ⟨rfl, R, hs⟩)

set_option maxRecDepth 100000 in
theorem lifted (os : Os) (started : os.Started) (H : Type) (enc : TypeId × Value → H) :
    ReturnsInHanded {} Tryd.checked os 9 .any (fun w args => (Rows.trieNilSpec.pre enc Tryd.prog Tryd.f9 [] false w args ∧ laidMetH Tryd.prog laid17 w) ∧ sizedMet enc Tryd.prog Tryd.f9 (OpenSpec.ofChange Rows.trieNilSpec) false w args)
      (Rows.trieNilSpec.post enc Tryd.prog Tryd.f9 false true false false) := by
  refine returnsInHanded_shapedR (C := Tryd.checked) (X := fun w _ => laidMetH Tryd.prog laid17 w) (fun _ _ _ hh h => h.of_heap hh) own started (by kernel_rfl) Tryd.func9
    (ChangeSpec.witness_shaped (enc := enc) (C := Tryd.checked) (os := os) (X := fun w _ => laidMetH Tryd.prog laid17 w) false (laidWorld os) #[.agg #[.int .i64 0, .string (ByteArray.mk #[]), .int .i64 0]] 8 rfl (World.shaped_of_RefB (by kernel_rfl) (by kernel_rfl)) (by kernel_rfl) (by kernel_rfl) (by kernel_rfl) (laid_met os _)) ?_
  intro W base args ds gs before hval0 hW _ hwt hL hsh _
  have hval : ∀ (j : Nat) t v, Tryd.f9.params[j]? = some t → args[j]? = some v → Value.okWide Tryd.prog W .any base t v := hval0
  have hW' := hW
  obtain ⟨p, q, hA0, hV, rfl, hfz, hnd⟩ := hW
  have hA : DataW.TrodAll enc Tryd.prog W 0 (fun _ => true) true Tryd.f9.params.toList args.toList ds p := hA0
  rw [Tryd.params9] at hA hval
  obtain ⟨v0, vs0, d0, ds0, p0, q0, hargs, rfl, rfl, h0, r0⟩ := trodAll_cons hA
  obtain ⟨rfl, rfl, rfl⟩ := trodAll_nil r0
  obtain rfl : args = #[v0] := by cases args; simp_all
  obtain ⟨rfl, rfl⟩ := trodVars_none hV
  have w0 : Go.R.okW Tryd.prog 91 d0 := fun n hn => by simpa using List.all_eq_true.1 hwt n (DataW.weights_mem_each (j := 0) (by kernel_rfl) rfl n hn)
  obtain ⟨cs0, rfl⟩ := Go.R.okWide_agg Tryd.underlying91 (hval 0 91 v0 rfl rfl)
  have k0 := h0
  have lt0 : ∀ x ∈ p0, x.block < W.heap.size := by obtain ⟨m, hm⟩ := k0; exact DataW.trod_lt m _ _ _ hm
  obtain ⟨x0, e0, g0⟩ : ∃ x : Int × ByteArray × Int, (Value.agg cs0 = .agg #[.int .i64 x.1, .string x.2.1, .int .i64 x.2.2]) ∧ (goodE09 reachBytes) x := by
    obtain ⟨fuel, hf⟩ := h0
    obtain ⟨x, hx, hg⟩ := rd_Entry09 (Go.R.okW_law Tryd.prog) fuel _ _ hf w0
    exact ⟨x, congrArg Value.agg (Array.toList_inj.1 hx), hg⟩
  cases e0
  clear hA0 hval0
  refine (walk W (tp_of_laid hL hsh) x0 g0).mono fun e W' ⟨he, bel⟩ => ?_
  subst he
  exact ⟨_, rfl, _, _, _, [], _, [], hW', trodAll_mk1 (shut_bool Tryd.underlying4 _), (trodAll_cons_mk (Below.trod laidOut (by kernel_rfl) (of_decide_eq_true (by kernel_rfl)) k0 bel lt0) trodAll_mk0), rfl, bel.frame _, fun h => by cases h⟩

theorem over : Rows.trieNilRow.holds Tryd.pinned (OpenSpec.ofChange Rows.trieNilSpec) :=
  OpenClaim.holds_of_wide 9 Tryd.f9 rfl rfl rfl rfl rfl rfl rfl ⟨rfl, rfl, rfl, rfl, rfl⟩ rfl rfl rfl rfl rfl (by kernel_rfl) Tryd.func9 (by kernel_rfl)
    (of_decide_eq_true (by kernel_rfl)) (by unfold Func.isWrapper; first | (rw [if_pos (by decide +kernel)]; kernel_rfl) | (rw [if_neg (by decide +kernel)]; exact ⟨rfl, rfl⟩))
    (fun os started H enc _ => lifted os started H enc)

theorem proved : Rows.TrieNilSaid := over

/-- THE TIED CARD. -/
theorem cardProved : Rows.TrieNilCardSaid :=
  Claim7.holds_tied_plain_at .later [] [.data, .pinned] true (true, "91c2ddee30a5c9e2f0a5df78f3f94ac708211745578e22936c29ac61c86218a6") false
    proved (fun _ h => by cases h) (by kernel_rfl) (fun _ h => by cases h) trieNil_row_tie rfl ⟨rfl, rfl⟩ (by kernel_rfl) rfl
    (fun f fn hf hfn => by
      obtain rfl : f = 9 := Option.some.inj ((show Tryd.prog.funcNamed "aqueduct/aqueductlaw09.TrieNil" = some 9 by kernel_rfl).symm.trans hf) |>.symm
      obtain rfl : fn = Tryd.f9 := (Option.some.inj (Tryd.func9.symm.trans hfn)).symm
      exact ⟨by kernel_rfl, fun j t ht => by
        rw [Tryd.params9] at ht
        have hm : t ∈ [91] := by simpa using Array.mem_of_getElem? ht
        have hall : ([91].all fun u => !Tryd.prog.wantsStandIn u) = true := by kernel_rfl
        exact (show Tryd.prog.wantsStandIn t = false by simpa using List.all_eq_true.1 hall t hm)⟩)
    (by kernel_rfl)
#print axioms cardProved
end Go.Proofs.YtnmighfcpeifeaaDoor.trieNil
