/-
  PROVED: 'aqueductlaw09.TrieForgets' answers true whatever the input of bulk at most 1048576, and the input reads as it did: 'Rows.TrieForgetsUptoSaid'. Conditions: none but the statement's own.
-/
import Derived.Test.YtnpgpijkofbknaaGreatDoorRows
import Derived.Test.YtnpgpijkofbknaaGreatDoorHrd
import Derived.Test.YtnpgpijkofbknaaGreatDoorL09b
import Derived.Test.YtnpgpijkofbknaaGreatDoorD09
import Derived.Deep.DeepHandedRow
import Derived.Deep.DeepWitnessRowRef
import Derived.Test.YtnpgpijkofbknaaGreatDoorCards
import Derived.Test.YtnpgpijkofbknaaGreatDoorTie
import Derived.WalkKit
import Derived.ProofKit
import Derived.OpenShut
import Derived.ShutString
import Derived.ChangeOld
import Derived.Below
import Derived.Carry
import Derived.LaidMore
import Derived.LaidHandle
import Derived.Stop.Joined
import Derived.SevenTiedAt
namespace Go.Proofs.YtnpgpijkofbknaaGreatDoor.trieForgets
open Go.ChangeShapes Go.WideShapes Go.ChangeAt Go.RowKit
open Go.ChangeMaps (open_string shut_string)
set_option linter.unusedVariables false
set_option linter.unusedSimpArgs false

theorem own : ownKnob Tryz.prog.godebug = none := by kernel_rfl
theorem laidOut : laidOutB Tryz.prog = true := by kernel_rfl

theorem walk (w : World) (ht : TP w.heap) (x0 : Go.H.Slc × List (Int × Int × ByteArray × Int)) (g0 : (Go.R.GoodG encAct9 4 1 1048576 w.heap (goodA09 1048576)) x0) (x1 : Int × ByteArray × Int) (g1 : (goodE09 1048576) x1) (x2 : Go.H.Slc × List ByteArray) (g2 : (Go.R.GoodG (fun x : ByteArray => [.string x]) 1 1 1048576 w.heap (fun x => x.size ≤ 1048576)) x2) :
    Calls Tryz.prog 4 #[.slice x0.1.a x0.1.len x0.1.cap, .agg #[.int .i64 x1.1, .string x1.2.1, .int .i64 x1.2.2], .slice x2.1.a x2.1.len x2.1.cap] w fun e w' => e = .returned (.bool true) ∧ Below w.heap.size w w' := by
  exact Go.H.walk_of (TrieForgets_spec ht g0.row (fun x hx => Nat.le_trans (g0.good x hx).2.2.1 (by decide)) (e := x1) (Nat.le_trans g1.2.1 (by decide)) g2.row (fun x hx => Nat.le_trans (g2.good x hx) (by decide)) (Go.H.sat_old w.heap) fun h' R hs => ⟨rfl, R, hs⟩)

set_option maxRecDepth 100000 in
theorem contract (H : Type) (enc : TypeId × Value → H) (W : World) (base : Nat) (args : Array Value) (ds gs : List (DataW H)) (before : List MemPlace)
    (hval0 : ∀ (j : Nat) t v, Tryz.f4.params[j]? = some t → args[j]? = some v → Value.okWide Tryz.prog W .any base t v)
    (hW : DataW.Whole enc Tryz.prog Tryz.f4.params.toList Rows.trieForgetsSpec.vars false W args.toList ds gs before) (hL : laidMetH Tryz.prog laid17 W) (hsh : W.ShapedOpen Tryz.prog) (hcond : Rows.uptoSmall H (ds ++ gs) = true) :
    Calls Tryz.prog 4 args W fun e W' => ∃ v, e = .returned v ∧ Rows.trieForgetsSpec.post enc Tryz.prog Tryz.f4 false true false false W args v W' := by
  have hval : ∀ (j : Nat) t v, Tryz.f4.params[j]? = some t → args[j]? = some v → Value.okWide Tryz.prog W .any base t v := hval0
  have hW' := hW
  obtain ⟨p, q, hA0, hV, rfl, hfz, hnd⟩ := hW
  have hA : DataW.TrodAll enc Tryz.prog W 0 (fun _ => true) true Tryz.f4.params.toList args.toList ds p := hA0
  rw [Tryz.params4] at hA hval
  obtain ⟨v0, vs0, d0, ds0, p0, q0, hargs, rfl, rfl, h0, r0⟩ := trodAll_cons hA
  obtain ⟨v1, vs1, d1, ds1, p1, q1, rfl, rfl, rfl, h1, r1⟩ := trodAll_cons r0
  obtain ⟨v2, vs2, d2, ds2, p2, q2, rfl, rfl, rfl, h2, r2⟩ := trodAll_cons r1
  obtain ⟨rfl, rfl, rfl⟩ := trodAll_nil r2
  obtain rfl : args = #[v0, v1, v2] := by cases args; simp_all
  obtain ⟨rfl, rfl⟩ := trodVars_none hV
  have hk := of_decide_eq_true hcond
  simp only [List.append_nil, List.cons_append, List.nil_append, Rows.uptoBulkAll] at hk
  have w0 : okB 22 d0 := by unfold okB; omega
  have w1 : okB 34 d1 := by unfold okB; omega
  have w2 : okB 37 d2 := by unfold okB; omega
  clear hk
  obtain ⟨a0, len0, cap0, rfl⟩ := okWide_slice Tryz.underlying22 (hval 0 22 v0 rfl rfl)
  have k0 := h0
  have lt0 : ∀ x ∈ p0, x.block < W.heap.size := by obtain ⟨m, hm⟩ := k0; exact DataW.trod_lt m _ _ _ hm
  obtain ⟨x0, e0, g0⟩ : ∃ x : Go.H.Slc × List (Int × Int × ByteArray × Int), (Value.slice a0 len0 cap0 = .slice x.1.a x.1.len x.1.cap) ∧ (Go.R.GoodG encAct9 4 1 1048576 W.heap (goodA09 1048576)) x := by
    obtain ⟨fuel, hf⟩ := h0
    obtain ⟨x, hx, hg⟩ := rd_Acts09 okB_law fuel _ _ hf w0
    exact ⟨x, by simpa [Value.cells] using hx, hg⟩
  cases e0
  obtain ⟨cs1, rfl⟩ := Go.R.okWide_agg Tryz.underlying34 (hval 1 34 v1 rfl rfl)
  have k1 := h1
  have lt1 : ∀ x ∈ p1, x.block < W.heap.size := by obtain ⟨m, hm⟩ := k1; exact DataW.trod_lt m _ _ _ hm
  obtain ⟨x1, e1, g1⟩ : ∃ x : Int × ByteArray × Int, (Value.agg cs1 = .agg #[.int .i64 x.1, .string x.2.1, .int .i64 x.2.2]) ∧ (goodE09 1048576) x := by
    obtain ⟨fuel, hf⟩ := h1
    obtain ⟨x, hx, hg⟩ := rd_Entry09 okB_law fuel _ _ hf w1
    exact ⟨x, congrArg Value.agg (Array.toList_inj.1 hx), hg⟩
  cases e1
  obtain ⟨a2, len2, cap2, rfl⟩ := okWide_slice Tryz.underlying37 (hval 2 37 v2 rfl rfl)
  have k2 := h2
  have lt2 : ∀ x ∈ p2, x.block < W.heap.size := by obtain ⟨m, hm⟩ := k2; exact DataW.trod_lt m _ _ _ hm
  obtain ⟨x2, e2, g2⟩ : ∃ x : Go.H.Slc × List ByteArray, (Value.slice a2 len2 cap2 = .slice x.1.a x.1.len x.1.cap) ∧ (Go.R.GoodG (fun x : ByteArray => [.string x]) 1 1 1048576 W.heap (fun x => x.size ≤ 1048576)) x := by
    obtain ⟨fuel, hf⟩ := h2
    obtain ⟨x, hx, hg⟩ := rd_Texts09 okB_law fuel _ _ hf w2
    exact ⟨x, by simpa [Value.cells] using hx, hg⟩
  cases e2
  clear hA0 hval0
  refine (walk W (tp_of_laid hL hsh) x0 g0 x1 g1 x2 g2).mono fun e W' ⟨he, bel⟩ => ?_
  subst he
  exact ⟨_, rfl, _, _, _, [], _, [], hW', trodAll_mk1 (shut_bool Tryz.underlying4 _), (trodAll_cons_mk (Below.trod laidOut (by kernel_rfl) (of_decide_eq_true (by kernel_rfl)) k0 bel lt0) (trodAll_cons_mk (Below.trod laidOut (by kernel_rfl) (of_decide_eq_true (by kernel_rfl)) k1 bel lt1) (trodAll_cons_mk (Below.trod laidOut (by kernel_rfl) (of_decide_eq_true (by kernel_rfl)) k2 bel lt2) trodAll_mk0))), rfl, bel.frame _, fun h => by cases h⟩

theorem reads (os : Os) {H : Type} (enc : TypeId × Value → H) : ∃ places, DataW.whole enc Tryz.prog ((laidWorld os).forCall (fun _ _ => 0) ⟨#[], #[.slice none 0 0, .agg #[.int .i64 0, .string (ByteArray.mk #[]), .int .i64 0], .slice none 0 0], []⟩).memory Tryz.f4.params.toList Rows.trieForgetsSpec.vars false #[(.slice none 0 0 : Value), (.agg #[.int .i64 0, .string (ByteArray.mk #[]), .int .i64 0] : Value), (.slice none 0 0 : Value)].toList 8 = some ([.nil, .agg [.lit (.int .i64 0), .lit (.string []), .lit (.int .i64 0)], .nil], [], places) :=
  ⟨[], by kernel_rfl⟩

set_option maxRecDepth 100000 in
theorem lifted (os : Os) (started : os.Started) (H : Type) (enc : TypeId × Value → H) (F : Stop.Interp) :
    ReturnsInHanded {} Tryz.checked os 4 .any ((Rows.OpenSpec.upto Rows.trieForgetsSpec).preRow enc Tryz.prog Tryz.f4 Rows.trieForgetsUptoRow.domain false Rows.trieForgetsUptoRow.laid) (((Rows.OpenSpec.upto Rows.trieForgetsSpec).at F).post enc Tryz.prog Tryz.f4 false true false false) := by
  obtain ⟨places, hx⟩ := reads os enc
  refine returnsInHanded_of_row (C := Tryz.checked) (s := Rows.OpenSpec.upto Rows.trieForgetsSpec) own started (by kernel_rfl) Tryz.func4
    (witness_row_atRef (enc := enc) (C := Tryz.checked) false (laidWorld os) #[.slice none 0 0, .agg #[.int .i64 0, .string (ByteArray.mk #[]), .int .i64 0], .slice none 0 0] rfl (by kernel_rfl) (by kernel_rfl) (by kernel_rfl)
      (OpenSpec.preRow_of_cond 8 hx (by kernel_rfl) (fun k hk => by cases hk; kernel_rfl) (by kernel_rfl) (laid_met os _))) ?_
  intro W base args ds gs before hval hW _ hcond _ hL hsh _
  exact contract H enc W base args ds gs before hval hW hL hsh (hcond _ rfl)

theorem proved : Rows.TrieForgetsUptoSaid :=
  OpenClaim.holds_of_cond 4 Tryz.f4 rfl rfl rfl rfl rfl rfl rfl ⟨rfl, rfl, rfl, rfl, rfl⟩ rfl rfl rfl rfl rfl (by kernel_rfl) Tryz.func4 (by kernel_rfl)
    (of_decide_eq_true (by kernel_rfl)) (by unfold Func.isWrapper; first | (rw [if_pos (by decide +kernel)]; kernel_rfl) | (rw [if_neg (by decide +kernel)]; exact ⟨rfl, rfl⟩))
    (fun os started H enc _ F => by rw [OpenClaim.pre_eq_preRow]; exact lifted os started H enc F)

/-- THE TIED CARD. -/
theorem cardProved : Rows.TrieForgetsUptoCardSaid :=
  Claim7.holds_tied_plain_at .later [] [.data, .pinned] true (true, "155f4457962bd20451366b09ab56b3453bc10f17f5cadeeb0e2695883c6106a2") false
    proved (fun _ h => by cases h) (by kernel_rfl) (fun _ h => by cases h) trieForgetsUpto_row_tie rfl ⟨rfl, rfl⟩ (by kernel_rfl) rfl
    (fun f fn hf hfn => by
      obtain rfl : f = 4 := Option.some.inj ((show Tryz.prog.funcNamed "aqueduct/aqueductlaw09.TrieForgets" = some 4 by kernel_rfl).symm.trans hf) |>.symm
      obtain rfl : fn = Tryz.f4 := (Option.some.inj (Tryz.func4.symm.trans hfn)).symm
      exact ⟨by kernel_rfl, fun j t ht => by
        rw [Tryz.params4] at ht
        have hm : t ∈ [22, 34, 37] := by simpa using Array.mem_of_getElem? ht
        have hall : ([22, 34, 37].all fun u => !Tryz.prog.wantsStandIn u) = true := by kernel_rfl
        exact (show Tryz.prog.wantsStandIn t = false by simpa using List.all_eq_true.1 hall t hm)⟩)
    (by kernel_rfl)
#print axioms cardProved
end Go.Proofs.YtnpgpijkofbknaaGreatDoor.trieForgets
