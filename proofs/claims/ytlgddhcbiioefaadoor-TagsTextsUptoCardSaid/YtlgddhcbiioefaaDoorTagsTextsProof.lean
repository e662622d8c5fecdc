/-
  PROVED: 'aqueductlaw16.TagsTexts' answers true whatever the input of bulk at most 1048576, and the input reads as it did: 'Rows.TagsTextsUptoSaid'. Conditions: none but the statement's own.
-/
import Derived.Test.YtlgddhcbiioefaaDoorRows
import Derived.Test.YtlgddhcbiioefaaDoorL16t
import Derived.Test.YtlgddhcbiioefaaDoorR16
import Derived.Test.YtlgddhcbiioefaaDoorD16b
import Derived.Deep.DeepHandedRow
import Derived.Deep.DeepWitnessRowRef
import Derived.Test.YtlgddhcbiioefaaDoorCards
import Derived.Test.YtlgddhcbiioefaaDoorTie
import Derived.WalkKit
import Derived.ProofKit
import Derived.OpenShut
import Derived.ShutString
import Derived.ChangeOld
import Derived.Below
import Derived.Carry
import Derived.LaidMore
import Derived.LaidHandle
import Derived.Stop.Joined
import Derived.SevenTiedAt
namespace Go.Proofs.YtlgddhcbiioefaaDoor.tagsTexts
open Go.ChangeShapes Go.WideShapes Go.ChangeAt Go.RowKit
open Go.ChangeMaps (open_string shut_string)
set_option linter.unusedVariables false
set_option linter.unusedSimpArgs false

theorem own : ownKnob Tryd.prog.godebug = none := by kernel_rfl
theorem laidOut : laidOutB Tryd.prog = true := by kernel_rfl

theorem walk (w : World) (ht : TX w.heap) (x0 : (Int × Int) × Int × Int) (g0 : (good16L) x0) (x1 : ByteArray) (g1 : x1.size ≤ maxLen) (b1 : x1.size ≤ 1048576) :
    Calls Tryd.prog 10 #[.agg #[.int .i64 x0.1.1, .int .i64 x0.1.2, .int .i64 x0.2.1, .int .i64 x0.2.2], .string x1] w fun e w' => e = .returned (.bool true) ∧ Below w.heap.size w w' := by
  exact Go.H.walk_of (TagsTexts_spec ht b1 (Go.H.sat_old w.heap) fun h' R hs => ⟨rfl, R, hs⟩)

set_option maxRecDepth 100000 in
theorem contract (H : Type) (enc : TypeId × Value → H) (W : World) (base : Nat) (args : Array Value) (ds gs : List (DataW H)) (before : List MemPlace)
    (hval0 : ∀ (j : Nat) t v, Tryd.f10.params[j]? = some t → args[j]? = some v → Value.okWide Tryd.prog W .any base t v)
    (hW : DataW.Whole enc Tryd.prog Tryd.f10.params.toList Rows.tagsTextsSpec.vars false W args.toList ds gs before) (hL : laidMetH Tryd.prog laid16b W) (hsh : W.ShapedOpen Tryd.prog) (hcond : Rows.uptoSmall H (ds ++ gs) = true) :
    Calls Tryd.prog 10 args W fun e W' => ∃ v, e = .returned v ∧ Rows.tagsTextsSpec.post enc Tryd.prog Tryd.f10 false true false false W args v W' := by
  have hval : ∀ (j : Nat) t v, Tryd.f10.params[j]? = some t → args[j]? = some v → Value.okWide Tryd.prog W .any base t v := hval0
  have hW' := hW
  obtain ⟨p, q, hA0, hV, rfl, hfz, hnd⟩ := hW
  have hA : DataW.TrodAll enc Tryd.prog W 0 (fun _ => true) true Tryd.f10.params.toList args.toList ds p := hA0
  rw [Tryd.params10] at hA hval
  obtain ⟨v0, vs0, d0, ds0, p0, q0, hargs, rfl, rfl, h0, r0⟩ := trodAll_cons hA
  obtain ⟨v1, vs1, d1, ds1, p1, q1, rfl, rfl, rfl, h1, r1⟩ := trodAll_cons r0
  obtain ⟨rfl, rfl, rfl⟩ := trodAll_nil r1
  obtain rfl : args = #[v0, v1] := by cases args; simp_all
  obtain ⟨rfl, rfl⟩ := trodVars_none hV
  obtain ⟨cs0, rfl⟩ := Go.H.okWide_struct Tryd.underlying125 (hval 0 125 v0 rfl rfl)
  have k0 := h0
  have lt0 : ∀ x ∈ p0, x.block < W.heap.size := by obtain ⟨m, hm⟩ := k0; exact DataW.trod_lt m _ _ _ hm
  obtain ⟨x0, e0, g0⟩ : ∃ x : (Int × Int) × Int × Int, (Value.agg cs0 = .agg #[.int .i64 x.1.1, .int .i64 x.1.2, .int .i64 x.2.1, .int .i64 x.2.2]) ∧ (good16L) x := by
    obtain ⟨fuel, hf⟩ := h0
    obtain ⟨x, hx, hg⟩ := rd_Label16 fuel _ _ hf
    exact ⟨x, congrArg Value.agg (Array.toList_inj.1 hx), hg⟩
  cases e0
  obtain ⟨x1, rfl, rfl, rfl, g1⟩ := open_string Tryd.underlying9 (hval 1 9 v1 rfl rfl) h1
  clear hA0 hval0
  have hk := of_decide_eq_true hcond
  simp only [List.append_nil, Rows.uptoBulkAll, Rows.uptoBulk, Array.length_toList] at hk
  have b1 : x1.size ≤ 1048576 := by have e : x1.size = x1.data.size := rfl; omega
  refine (walk W (tx_of_laid hL hsh) x0 g0 x1 g1 b1).mono fun e W' ⟨he, bel⟩ => ?_
  subst he
  exact ⟨_, rfl, _, _, _, [], _, [], hW', trodAll_mk1 (shut_bool Tryd.underlying4 _), (trodAll_cons_mk (Below.trod laidOut (by kernel_rfl) (of_decide_eq_true (by kernel_rfl)) k0 bel lt0) (trodAll_cons_mk (shut_string Tryd.underlying9 g1) trodAll_mk0)), rfl, bel.frame _, fun h => by cases h⟩

theorem reads (os : Os) {H : Type} (enc : TypeId × Value → H) : ∃ places, DataW.whole enc Tryd.prog ((laidWorld os).forCall (fun _ _ => 0) ⟨#[], #[.agg #[.int .i64 0, .int .i64 0, .int .i64 0, .int .i64 0], .string ⟨#[]⟩], []⟩).memory Tryd.f10.params.toList Rows.tagsTextsSpec.vars false #[(.agg #[.int .i64 0, .int .i64 0, .int .i64 0, .int .i64 0] : Value), (.string ⟨#[]⟩ : Value)].toList 8 = some ([.agg [.agg [.lit (.int .i64 0), .lit (.int .i64 0)], .lit (.int .i64 0), .lit (.int .i64 0)], .lit (.string [])], [], places) :=
  ⟨[], by kernel_rfl⟩

set_option maxRecDepth 100000 in
theorem lifted (os : Os) (started : os.Started) (H : Type) (enc : TypeId × Value → H) (F : Stop.Interp) :
    ReturnsInHanded {} Tryd.checked os 10 .any ((Rows.OpenSpec.upto Rows.tagsTextsSpec).preRow enc Tryd.prog Tryd.f10 Rows.tagsTextsUptoRow.domain false Rows.tagsTextsUptoRow.laid) (((Rows.OpenSpec.upto Rows.tagsTextsSpec).at F).post enc Tryd.prog Tryd.f10 false true false false) := by
  obtain ⟨places, hx⟩ := reads os enc
  refine returnsInHanded_of_row (C := Tryd.checked) (s := Rows.OpenSpec.upto Rows.tagsTextsSpec) own started (by kernel_rfl) Tryd.func10
    (witness_row_atRef (enc := enc) (C := Tryd.checked) false (laidWorld os) #[.agg #[.int .i64 0, .int .i64 0, .int .i64 0, .int .i64 0], .string ⟨#[]⟩] rfl (by kernel_rfl) (by kernel_rfl) (by kernel_rfl)
      (OpenSpec.preRow_of_cond 8 hx (by kernel_rfl) (fun k hk => by cases hk; kernel_rfl) (by kernel_rfl) (laid_met16b os _))) ?_
  intro W base args ds gs before hval hW _ hcond _ hL hsh _
  exact contract H enc W base args ds gs before hval hW hL hsh (hcond _ rfl)

theorem proved : Rows.TagsTextsUptoSaid :=
  OpenClaim.holds_of_cond 10 Tryd.f10 rfl rfl rfl rfl rfl rfl rfl ⟨rfl, rfl, rfl, rfl, rfl⟩ rfl rfl rfl rfl rfl (by kernel_rfl) Tryd.func10 (by kernel_rfl)
    (of_decide_eq_true (by kernel_rfl)) (by unfold Func.isWrapper; first | (rw [if_pos (by decide +kernel)]; kernel_rfl) | (rw [if_neg (by decide +kernel)]; exact ⟨rfl, rfl⟩))
    (fun os started H enc _ F => by rw [OpenClaim.pre_eq_preRow]; exact lifted os started H enc F)

/-- THE TIED CARD. -/
theorem cardProved : Rows.TagsTextsUptoCardSaid :=
  Claim7.holds_tied_plain_at .later [] [.data, .data, .data, .data, .sentinel, .sentinel, .pinned] true (true, "47e28f3f623d97c4222096a1ada09b98a740ff0f86fdd257074b6ed79bb53f83") true
    proved (fun _ h => by cases h) (by kernel_rfl) (fun _ h => by cases h) tagsTextsUpto_row_tie rfl ⟨rfl, rfl⟩ (by kernel_rfl) rfl
    (fun f fn hf hfn => by
      obtain rfl : f = 10 := Option.some.inj ((show Tryd.prog.funcNamed "aqueduct/aqueductlaw16.TagsTexts" = some 10 by kernel_rfl).symm.trans hf) |>.symm
      obtain rfl : fn = Tryd.f10 := (Option.some.inj (Tryd.func10.symm.trans hfn)).symm
      exact ⟨by kernel_rfl, fun j t ht => by
        rw [Tryd.params10] at ht
        have hm : t ∈ [125, 9] := by simpa using Array.mem_of_getElem? ht
        have hall : ([125, 9].all fun u => !Tryd.prog.wantsStandIn u) = true := by kernel_rfl
        exact (show Tryd.prog.wantsStandIn t = false by simpa using List.all_eq_true.1 hall t hm)⟩)
    (by kernel_rfl)
#print axioms cardProved
end Go.Proofs.YtlgddhcbiioefaaDoor.tagsTexts
