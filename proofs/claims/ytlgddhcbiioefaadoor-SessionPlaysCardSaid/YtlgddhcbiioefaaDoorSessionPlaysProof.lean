/-
  PROVED: 'aqueductlaw18.SessionPlays' answers true whatever the input, and the input reads as it did: 'Rows.SessionPlaysSaid'. Conditions: none but the statement's own.
-/
import Derived.Test.YtlgddhcbiioefaaDoorRows
import Derived.Test.YtlgddhcbiioefaaDoorL18q
import Derived.Test.YtlgddhcbiioefaaDoorR18z
import Derived.Test.YtlgddhcbiioefaaDoorD18
import Derived.Test.YtlgddhcbiioefaaDoorCards
import Derived.Test.YtlgddhcbiioefaaDoorTie
import Derived.WalkKit
import Derived.ProofKit
import Derived.OpenShut
import Derived.ShutString
import Derived.ChangeOld
import Derived.Below
import Derived.Carry
import Derived.LaidMore
import Derived.LaidHandle
import Derived.Stop.Joined
import Derived.SevenTiedAt
namespace Go.Proofs.YtlgddhcbiioefaaDoor.sessionPlays
open Go.ChangeShapes Go.WideShapes Go.ChangeAt Go.RowKit
open Go.ChangeMaps (open_string shut_string)
set_option linter.unusedVariables false

theorem own : ownKnob Tryd.prog.godebug = none := by kernel_rfl
theorem laidOut : laidOutB Tryd.prog = true := by kernel_rfl

theorem walk (w : World) (ht : U8 w.heap) (x0 : Go.H.Slc × List (Int × ByteArray × Bool × Bool × Int)) (g0 : Go.H.GoodS (fun x : Int × ByteArray × Bool × Bool × Int => [.int .i64 x.1, .string x.2.1, .bool x.2.2.1, .bool x.2.2.2.1, .int .i64 x.2.2.2.2]) 5 w.heap good18 x0) (z0 : ∀ y ∈ x0.2, y.2.1.size ≤ reachBytes) (x1 : Int × ByteArray × Bool × Bool × Int) (g1 : (good18) x1) :
    Calls Tryd.prog 6 #[.slice x0.1.a x0.1.len x0.1.cap, .agg #[.int .i64 x1.1, .string x1.2.1, .bool x1.2.2.1, .bool x1.2.2.2.1, .int .i64 x1.2.2.2.2]] w fun e w' => e = .returned (.bool true) ∧ Below w.heap.size w w' := by
  exact Go.H.walk_of (SessionPlays_spec ht (fun y hy => Nat.le_trans (z0 y hy) (by decide)) g0.row (ask := x1) (Go.H.sat_old w.heap) fun h' R hs => ⟨rfl, R, hs⟩)

set_option maxRecDepth 100000 in
theorem lifted (os : Os) (started : os.Started) (H : Type) (enc : TypeId × Value → H) :
    ReturnsInHanded {} Tryd.checked os 6 .any (fun w args => (Rows.sessionPlaysSpec.pre enc Tryd.prog Tryd.f6 [] false w args ∧ laidMetH Tryd.prog laid18 w) ∧ sizedMet enc Tryd.prog Tryd.f6 (OpenSpec.ofChange Rows.sessionPlaysSpec) false w args)
      (Rows.sessionPlaysSpec.post enc Tryd.prog Tryd.f6 false true false false) := by
  refine returnsInHanded_of_change_and (C := Tryd.checked) (X := fun w _ => laidMetH Tryd.prog laid18 w) (fun _ _ _ hh h => h.of_heap hh) own started (by kernel_rfl) Tryd.func6
    (ChangeSpec.witness_shaped (enc := enc) (C := Tryd.checked) (os := os) (X := fun w _ => laidMetH Tryd.prog laid18 w) false (laidWorld os) #[.slice none 0 0, .agg #[.int .i64 0, .string ⟨#[]⟩, .bool false, .bool false, .int .i64 0]] 8 rfl (World.shaped_of_RefB (by kernel_rfl) (by kernel_rfl)) (by kernel_rfl) (by kernel_rfl) (by kernel_rfl) (laid_met os _)) ?_
  intro W base args ds gs before hval0 hW _ hwt hL _
  have hval : ∀ (j : Nat) t v, Tryd.f6.params[j]? = some t → args[j]? = some v → Value.okWide Tryd.prog W .any base t v := hval0
  have hW' := hW
  obtain ⟨p, q, hA0, hV, rfl, hfz, hnd⟩ := hW
  have hA : DataW.TrodAll enc Tryd.prog W 0 (fun _ => true) true Tryd.f6.params.toList args.toList ds p := hA0
  rw [Tryd.params6] at hA hval
  obtain ⟨v0, vs0, d0, ds0, p0, q0, hargs, rfl, rfl, h0, r0⟩ := trodAll_cons hA
  obtain ⟨v1, vs1, d1, ds1, p1, q1, rfl, rfl, rfl, h1, r1⟩ := trodAll_cons r0
  obtain ⟨rfl, rfl, rfl⟩ := trodAll_nil r1
  obtain rfl : args = #[v0, v1] := by cases args; simp_all
  obtain ⟨rfl, rfl⟩ := trodVars_none hV
  obtain ⟨a0, len0, cap0, rfl⟩ := okWide_slice Tryd.underlying51 (hval 0 51 v0 rfl rfl)
  have k0 := h0
  have lt0 : ∀ x ∈ p0, x.block < W.heap.size := by obtain ⟨m, hm⟩ := k0; exact DataW.trod_lt m _ _ _ hm
  obtain ⟨x0, e0, g0⟩ : ∃ x : Go.H.Slc × List (Int × ByteArray × Bool × Bool × Int), (Value.slice a0 len0 cap0 = .slice x.1.a x.1.len x.1.cap) ∧ (Go.H.GoodS (fun x : Int × ByteArray × Bool × Bool × Int => [.int .i64 x.1, .string x.2.1, .bool x.2.2.1, .bool x.2.2.2.1, .int .i64 x.2.2.2.2]) 5 W.heap good18) x := by
    obtain ⟨fuel, hf⟩ := h0
    obtain ⟨x, hx, hg⟩ := rd_Acts18 fuel _ _ hf
    exact ⟨x, by simpa [Value.cells] using hx, hg⟩
  cases e0
  have w0 : ∀ n ∈ d0.weights Tryd.prog 51, n ≤ reachBytes := fun n hn => by simpa using List.all_eq_true.1 hwt n (DataW.weights_mem_each (j := 0) (by kernel_rfl) rfl n hn)
  have z0 : ∀ y ∈ x0.2, y.2.1.size ≤ reachBytes := rd_Acts18_sized k0 w0 g0.row
  obtain ⟨cs1, rfl⟩ := Go.H.okWide_struct Tryd.underlying54 (hval 1 54 v1 rfl rfl)
  have k1 := h1
  have lt1 : ∀ x ∈ p1, x.block < W.heap.size := by obtain ⟨m, hm⟩ := k1; exact DataW.trod_lt m _ _ _ hm
  obtain ⟨x1, e1, g1⟩ : ∃ x : Int × ByteArray × Bool × Bool × Int, (Value.agg cs1 = .agg #[.int .i64 x.1, .string x.2.1, .bool x.2.2.1, .bool x.2.2.2.1, .int .i64 x.2.2.2.2]) ∧ (good18) x := by
    obtain ⟨fuel, hf⟩ := h1
    obtain ⟨x, hx, hg⟩ := rd_Act18 fuel _ _ hf
    exact ⟨x, congrArg Value.agg (Array.toList_inj.1 hx), hg⟩
  cases e1
  clear hA0 hval0
  refine (walk W (u8_of_laid hL) x0 g0 z0 x1 g1).mono fun e W' ⟨he, bel⟩ => ?_
  subst he
  exact ⟨_, rfl, _, _, _, [], _, [], hW', trodAll_mk1 (shut_bool Tryd.underlying4 _), (trodAll_cons_mk (Below.trod laidOut (by kernel_rfl) (of_decide_eq_true (by kernel_rfl)) k0 bel lt0) (trodAll_cons_mk (Below.trod laidOut (by kernel_rfl) (of_decide_eq_true (by kernel_rfl)) k1 bel lt1) trodAll_mk0)), rfl, bel.frame _, fun h => by cases h⟩

theorem over : Rows.sessionPlaysRow.holds Tryd.pinned (OpenSpec.ofChange Rows.sessionPlaysSpec) :=
  OpenClaim.holds_of_wide 6 Tryd.f6 rfl rfl rfl rfl rfl rfl rfl ⟨rfl, rfl, rfl, rfl, rfl⟩ rfl rfl rfl rfl rfl (by kernel_rfl) Tryd.func6 (by kernel_rfl)
    (of_decide_eq_true (by kernel_rfl)) (by unfold Func.isWrapper; first | (rw [if_pos (by decide +kernel)]; kernel_rfl) | (rw [if_neg (by decide +kernel)]; exact ⟨rfl, rfl⟩))
    (fun os started H enc _ => lifted os started H enc)

theorem proved : Rows.SessionPlaysSaid := over

/-- THE TIED CARD. -/
theorem cardProved : Rows.SessionPlaysCardSaid :=
  Claim7.holds_tied_plain_at .later [] [.data, .pinned] true (true, "47e28f3f623d97c4222096a1ada09b98a740ff0f86fdd257074b6ed79bb53f83") true
    proved (fun _ h => by cases h) (by kernel_rfl) (fun _ h => by cases h) sessionPlays_row_tie rfl ⟨rfl, rfl⟩ (by kernel_rfl) rfl
    (fun f fn hf hfn => by
      obtain rfl : f = 6 := Option.some.inj ((show Tryd.prog.funcNamed "aqueduct/aqueductlaw18.SessionPlays" = some 6 by kernel_rfl).symm.trans hf) |>.symm
      obtain rfl : fn = Tryd.f6 := (Option.some.inj (Tryd.func6.symm.trans hfn)).symm
      exact ⟨by kernel_rfl, fun j t ht => by
        rw [Tryd.params6] at ht
        have hm : t ∈ [51, 54] := by simpa using Array.mem_of_getElem? ht
        have hall : ([51, 54].all fun u => !Tryd.prog.wantsStandIn u) = true := by kernel_rfl
        exact (show Tryd.prog.wantsStandIn t = false by simpa using List.all_eq_true.1 hall t hm)⟩)
    (by kernel_rfl)
#print axioms cardProved
end Go.Proofs.YtlgddhcbiioefaaDoor.sessionPlays
