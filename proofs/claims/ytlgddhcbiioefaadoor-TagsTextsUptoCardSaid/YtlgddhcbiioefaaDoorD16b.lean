/-
  D16b: the variables that TagsBack's and TagsTexts' rows list: a world that meets the condition; what it gives.
-/
import Derived.Test.YtlgddhcbiioefaaDoorD18
import Derived.Test.YtlgddhcbiioefaaDoorCpar
import Derived.Lib.LaidTab
import Derived.Lib.LaidU8
import Derived.Shelf.Vars
namespace Go.Proofs.YtlgddhcbiioefaaDoor
open Go.ChangeShapes Go.WideShapes Go.ChangeAt Go.RowKit Go.Proofs Go.Lib Go.H
set_option linter.unusedSimpArgs false
set_option linter.unusedVariables false
set_option maxRecDepth 100000

def laid16b : List (String × DataW Unit) := Rows.tagsBackUptoRow.laid

theorem laid_met16b (os : Os) (args : Array Value) : laidMetH Tryd.prog laid16b ((laidWorld os).forCall (fun _ _ => 0) ⟨#[], args, []⟩).memory :=
  laidMetH_of_parts3 (fuel := 8) (laidMet_of_run' 8 (by kernel_rfl) (by kernel_rfl)) (by kernel_rfl) (by kernel_rfl)

theorem iface_of_trod {H : Type} {enc : TypeId × Value → H} {P : Program} {w : World} {base : Nat} {sp : Nat → Bool} {fuel : Nat} {t : TypeId} {ms : Array (String × TypeId)} {cs : List Value} {nm : String} {d : DataW H} {p : List MemPlace}
    (ht : P.underlying t = some (.interface ms)) (h : DataW.trod enc P w base sp false fuel t cs = some (.iface nm d, p)) : ∃ u v, cs = [.iface u v] := by
  cases fuel with
  | zero => simp [DataW.trod] at h
  | succ n =>
    simp only [DataW.trod, ht] at h
    split at h
    all_goals first
      | exact ⟨_, _, rfl⟩
      | (cases h; done)
      | (simp at h; done)
      | (rename_i e _; cases e; done)
      | (rename_i e; cases e; done)

theorem cell_of_iface {P : Program} {W : World} {n nm : String} {d : DataW Unit} {g : Nat} {t : TypeId} {ms : Array (String × TypeId)} (h : VarReads P W n (.iface nm d)) (hg : P.globalNamed n = some g)
    (hty : (P.globals[g]?).map (·.type) = some t) (ht : P.underlying t = some (.interface ms)) : ∃ u v, cellH W.heap ⟨g, 0, none⟩ = some (.iface u v) := by
  obtain ⟨g', t', cs, fuel, p, hg', ht', hvar, hd⟩ := h
  obtain rfl := Option.some.inj (hg.symm.trans hg')
  obtain rfl := Option.some.inj (hty.symm.trans ht')
  obtain ⟨u, v, e⟩ := iface_of_trod ht hd
  refine ⟨u, v, ?_⟩
  have := World.var?_cell hg hvar 0
  have e2 : cs[0]? = some (.iface u v) := by rw [← Array.getElem?_toList, e]; rfl
  rw [e2] at this
  exact this

theorem block_of_tab {P : Program} {W : World} {n : String} {k : IntKind} {zs : List Int} {g c : Nat} {t e : TypeId} (h : VarReads P W n (tabData k zs)) (hg : P.globalNamed n = some g)
    (hty : (P.globals[g]?).map (·.type) = some t) (ht : P.underlying t = some (.array c e)) (he : P.underlying e = some (.int k)) (hce : P.cellsOf e = 1) (hct : P.cellsOf t = c) :
    ∃ t' f, W.heap[g]? = some (.cells (zs.map fun z => Value.int k z).toArray t' f) := by
  obtain ⟨g', t', cs, fuel, p, hg', ht', hvar, hd⟩ := h
  obtain rfl := Option.some.inj (hg.symm.trans hg')
  obtain rfl := Option.some.inj (hty.symm.trans ht')
  have hc := cells_of_tab ht he hce hct hd
  unfold World.var? at hvar
  rw [hg] at hvar
  simp only [Option.bind_some] at hvar
  cases hb : W.heap[g]? with
  | none => rw [hb] at hvar; cases hvar
  | some o =>
    rw [hb] at hvar
    cases o with
    | cells cs' t' f =>
      cases hvar
      rw [← hc]
      exact ⟨t', f, by simp⟩
    | _ => cases hvar

theorem tx_of_laid {W : World} (h : laidMetH Tryd.prog laid16b W) (hsh : W.ShapedOpen Tryd.prog) : TX W.heap := by
  rw [MakeChecks.laidMetH_plain _ _ _ (by kernel_rfl)] at h
  refine ⟨?_, ?_, ?_, ?_⟩
  · have h1 := laidMet.reads h (n := "internal/strconv.uint64pow10") (d := Rows.laid_internal_strconv_uint64pow10) (by unfold laid16b Rows.tagsBackUptoRow; simp)
    rw [show (Rows.laid_internal_strconv_uint64pow10 : DataW Unit) = tabData .u64 pow10Tab by kernel_rfl] at h1
    exact block_of_tab h1 (by kernel_rfl) (by kernel_rfl) Tryd.underlying283 Tryd.underlying245 (by kernel_rfl) (by kernel_rfl)
  · exact cell_of_shapedOpen_int (t := 3) (zero := #[.int .i64 0]) hsh (of_decide_eq_true (by kernel_rfl)) (by kernel_rfl) rfl (by kernel_rfl) (by kernel_rfl) Tryd.underlying3
  · have h1 := laidMet.reads h (n := "strconv.ErrSyntax") (d := Rows.laid_strconv_ErrSyntax) (by unfold laid16b Rows.tagsBackUptoRow; simp)
    exact cell_of_iface h1 (by kernel_rfl) (by kernel_rfl) Tryd.underlying185
  · have h1 := laidMet.reads h (n := "strconv.ErrRange") (d := Rows.laid_strconv_ErrRange) (by unfold laid16b Rows.tagsBackUptoRow; simp)
    exact cell_of_iface h1 (by kernel_rfl) (by kernel_rfl) Tryd.underlying185

end Go.Proofs.YtlgddhcbiioefaaDoor
