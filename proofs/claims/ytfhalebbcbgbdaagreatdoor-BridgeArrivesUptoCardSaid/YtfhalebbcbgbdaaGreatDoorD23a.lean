/-
  D23a: the variables that BridgeArrives' row lists: a world that meets the condition; what it gives; the bulk's law; readers of the arguments.
-/
import Derived.Test.YtfhalebbcbgbdaaGreatDoorRows
import Derived.Test.YtfhalebbcbgbdaaGreatDoorChecked
import Derived.Test.YtfhalebbcbgbdaaGreatDoorCtop
import Derived.Test.YtfhalebbcbgbdaaGreatDoorCpar
import Derived.Test.YtfhalebbcbgbdaaGreatDoorHrd
import Derived.Lib.LaidTab
import Derived.Lib.LaidU8
import Derived.Shelf.Vars
import Derived.ProofKit
import Derived.LaidMore
import Derived.LaidHandle
import Derived.OpenShut
import Derived.Stop.Joined
import Derived.Lib.LaidU8T
import Derived.PinnedBridge
namespace Go.Proofs.YtfhalebbcbgbdaaGreatDoor
open Go.ChangeShapes Go.WideShapes Go.ChangeAt Go.RowKit Go.Proofs Go.Lib Go.H
set_option linter.unusedSimpArgs false
set_option linter.unusedVariables false
set_option maxRecDepth 100000

def laid23a : List (String × DataW Unit) := Rows.bridgeArrivesUptoRow.laid

noncomputable def laidWorld (os : Os) : World :=
  let w0 := World.doorLaid Tryz.prog 400 os
  { w0 with heap := w0.heap.modify 6 fun
      | .cells _ t frozen => .cells ((List.range 256).map fun c => Value.int .u8 (firstT c)).toArray t frozen
      | o => o }

theorem laid_met23a (os : Os) (args : Array Value) : laidMetH Tryz.prog laid23a ((laidWorld os).forCall (fun _ _ => 0) ⟨#[], args, []⟩).memory :=
  laidMetH_of_parts3 (fuel := 8) (laidMet_of_run' 8 (by kernel_rfl) (by kernel_rfl)) (by kernel_rfl) (by kernel_rfl)

theorem u8_extra : U8Extra Tryz.prog u8_ren where
  n3 := by kernel_rfl
  n4 := by kernel_rfl
  y3 := by kernel_rfl
  y4 := by kernel_rfl
  c5 := by kernel_rfl
  c119 := by kernel_rfl
  c138 := by kernel_rfl

theorem accept_eq : (Rows.laid_unicode_utf8_acceptRanges : DataW Unit) = acceptData := by kernel_rfl
theorem first_eq : (Rows.laid_unicode_utf8_first : DataW Unit) = firstData := Pinned.utf8First_eq

theorem iface_of_trod {H : Type} {enc : TypeId × Value → H} {P : Program} {w : World} {base : Nat} {sp : Nat → Bool} {fuel : Nat} {t : TypeId} {ms : Array (String × TypeId)} {cs : List Value} {nm : String} {d : DataW H} {p : List MemPlace}
    (ht : P.underlying t = some (.interface ms)) (h : DataW.trod enc P w base sp false fuel t cs = some (.iface nm d, p)) : ∃ u v, cs = [.iface u v] := by
  cases fuel with
  | zero => simp [DataW.trod] at h
  | succ n =>
    simp only [DataW.trod, ht] at h
    split at h
    all_goals first
      | exact ⟨_, _, rfl⟩
      | (cases h; done)
      | (simp at h; done)
      | (rename_i e _; cases e; done)
      | (rename_i e; cases e; done)

theorem cell_of_iface {P : Program} {W : World} {n nm : String} {d : DataW Unit} {g : Nat} {t : TypeId} {ms : Array (String × TypeId)} (h : VarReads P W n (.iface nm d)) (hg : P.globalNamed n = some g)
    (hty : (P.globals[g]?).map (·.type) = some t) (ht : P.underlying t = some (.interface ms)) : ∃ u v, cellH W.heap ⟨g, 0, none⟩ = some (.iface u v) := by
  obtain ⟨g', t', cs, fuel, p, hg', ht', hvar, hd⟩ := h
  obtain rfl := Option.some.inj (hg.symm.trans hg')
  obtain rfl := Option.some.inj (hty.symm.trans ht')
  obtain ⟨u, v, e⟩ := iface_of_trod ht hd
  refine ⟨u, v, ?_⟩
  have := World.var?_cell hg hvar 0
  have e2 : cs[0]? = some (.iface u v) := by rw [← Array.getElem?_toList, e]; rfl
  rw [e2] at this
  exact this

theorem block_of_tab {P : Program} {W : World} {n : String} {k : IntKind} {zs : List Int} {g c : Nat} {t e : TypeId} (h : VarReads P W n (tabData k zs)) (hg : P.globalNamed n = some g)
    (hty : (P.globals[g]?).map (·.type) = some t) (ht : P.underlying t = some (.array c e)) (he : P.underlying e = some (.int k)) (hce : P.cellsOf e = 1) (hct : P.cellsOf t = c) :
    ∃ t' f, W.heap[g]? = some (.cells (zs.map fun z => Value.int k z).toArray t' f) := by
  obtain ⟨g', t', cs, fuel, p, hg', ht', hvar, hd⟩ := h
  obtain rfl := Option.some.inj (hg.symm.trans hg')
  obtain rfl := Option.some.inj (hty.symm.trans ht')
  have hc := cells_of_tab ht he hce hct hd
  unfold World.var? at hvar
  rw [hg] at hvar
  simp only [Option.bind_some] at hvar
  cases hb : W.heap[g]? with
  | none => rw [hb] at hvar; cases hvar
  | some o =>
    rw [hb] at hvar
    cases o with
    | cells cs' t' f =>
      cases hvar
      rw [← hc]
      exact ⟨t', f, by simp⟩
    | _ => cases hvar

abbrev TA (h0 : Heap) : Prop := TX h0 ∧ TP h0
theorem ta_of_laid {W : World} (h : laidMetH Tryz.prog laid23a W) (hsh : W.ShapedOpen Tryz.prog) : TA W.heap := by
  rw [MakeChecks.laidMetH_plain _ _ _ (by kernel_rfl)] at h
  have hmax : ∃ m, cellH W.heap ⟨3, 0, none⟩ = some (.int .i64 m) := cell_of_shapedOpen_int (t := 3) (zero := #[.int .i64 0]) hsh (of_decide_eq_true (by kernel_rfl)) (by kernel_rfl) rfl (by kernel_rfl) (by kernel_rfl) Tryz.underlying3
  refine ⟨⟨?_, hmax, ?_, ?_⟩, ⟨?_, hmax⟩⟩
  · have h1 := laidMet.reads h (n := "internal/strconv.uint64pow10") (d := Rows.laid_internal_strconv_uint64pow10) (by unfold laid23a Rows.bridgeArrivesUptoRow; simp)
    rw [show (Rows.laid_internal_strconv_uint64pow10 : DataW Unit) = tabData .u64 pow10Tab by kernel_rfl] at h1
    exact block_of_tab h1 (by kernel_rfl) (by kernel_rfl) Tryz.underlying274 Tryz.underlying125 (by kernel_rfl) (by kernel_rfl)
  · have h1 := laidMet.reads h (n := "strconv.ErrSyntax") (d := Rows.laid_strconv_ErrSyntax) (by unfold laid23a Rows.bridgeArrivesUptoRow; simp)
    exact cell_of_iface h1 (by kernel_rfl) (by kernel_rfl) Tryz.underlying167
  · have h1 := laidMet.reads h (n := "strconv.ErrRange") (d := Rows.laid_strconv_ErrRange) (by unfold laid23a Rows.bridgeArrivesUptoRow; simp)
    exact cell_of_iface h1 (by kernel_rfl) (by kernel_rfl) Tryz.underlying167
  · have h4 := laidMet.reads h (n := "unicode/utf8.acceptRanges") (d := Rows.laid_unicode_utf8_acceptRanges) (by unfold laid23a Rows.bridgeArrivesUptoRow; simp)
    have h3 := laidMet.reads h (n := "unicode/utf8.first") (d := Rows.laid_unicode_utf8_first) (by unfold laid23a Rows.bridgeArrivesUptoRow; simp)
    rw [accept_eq] at h4
    rw [first_eq] at h3
    have ht := utf8Tabs_of_readsT (L := { u8 with }) u8_extra h3 h4
    exact ⟨fun c hc => ht.1 c hc, fun i hi => ht.2 i hi⟩

/-! ### the bulk -/

def okB {H : Type} (t : TypeId) (d : DataW H) : Prop := Rows.uptoBulk d ≤ 1048576

theorem bulk_mem {H : Type} : ∀ {l : List (DataW H)} {d : DataW H}, d ∈ l → Rows.uptoBulk d ≤ Rows.uptoBulkAll l
  | x :: l, d, h => by
    simp only [Rows.uptoBulkAll]
    rcases List.mem_cons.1 h with rfl | h
    · omega
    · have := bulk_mem h
      omega
theorem bulk_pos {H : Type} (d : DataW H) : 1 ≤ Rows.uptoBulk d := by
  cases d with
  | lit l => cases l <;> simp [Rows.uptoBulk]
  | _ => simp [Rows.uptoBulk]
theorem bulk_len {H : Type} : ∀ (l : List (DataW H)), l.length ≤ Rows.uptoBulkAll l
  | [] => Nat.zero_le _
  | d :: l => by
    have := bulk_len l
    have := bulk_pos d
    simp only [List.length_cons, Rows.uptoBulkAll]
    omega

theorem okB_law {H : Type} : Go.R.OkLaw (H := H) Tryz.prog okB 1048576 (fun _ => 1) where
  str h := by simp only [okB, Rows.uptoBulk] at h; omega
  elem _ h hd := by simp only [okB, Rows.uptoBulk] at h ⊢; have := bulk_mem hd; omega
  cnt {t e elems rest} _ h := by simp only [okB, Rows.uptoBulk] at h; have := bulk_len elems; omega
  field _ h _ hd := by simp only [okB, Rows.uptoBulk] at h ⊢; have := bulk_mem (List.mem_of_getElem? hd); omega
  arr _ h hd := by simp only [okB, Rows.uptoBulk] at h ⊢; have := bulk_mem hd; omega

/-! ### the arguments -/

abbrev MsG := ByteArray × ByteArray × Int × Bool × ByteArray
abbrev encMG (x : MsG) : List Value := [.string x.1, .string x.2.1, .int .i64 x.2.2.1, .bool x.2.2.2.1, .string x.2.2.2.2]
abbrev goodM23 (top : Nat) (x : MsG) : Prop := x.1.size ≤ top ∧ x.2.1.size ≤ top ∧ (Lit.int .i64 x.2.2.1).wf = true ∧ True ∧ x.2.2.2.2.size ≤ top

section
variable {H : Type} {ec : TypeId × Value → H} {w : World} {base : Nat} {sp : Nat → Bool} {held : Bool} {ok : TypeId → DataW H → Prop} {top : Nat} {wt : TypeId → Nat}
theorem rd_Msg23 (hk : Go.R.OkLaw Tryz.prog ok top wt) : Go.R.RdG ec Tryz.prog w base sp held ok 23 encMG (goodM23 top) :=
  Go.R.rg_struct hk Tryz.underlying23 (n := 5) (by kernel_rfl)
    (Go.R.rf_cons (c := 1) (by kernel_rfl) (by rfl) (Go.R.rg_str hk Tryz.underlying9) (Go.R.rf_cons (c := 1) (by kernel_rfl) (by rfl) (Go.R.rg_str hk Tryz.underlying9) (Go.R.rf_cons (c := 1) (by kernel_rfl) (by rfl) (Go.R.rg_int Tryz.underlying3)
      (Go.R.rf_cons (c := 1) (by kernel_rfl) (by rfl) (Go.R.rg_bool Tryz.underlying4) (Go.R.rf_one (c := 1) (by kernel_rfl) (by rfl) (by decide) (Go.R.rg_str hk Tryz.underlying9))))))
theorem rd_Pair23 (hk : Go.R.OkLaw Tryz.prog ok top wt) : Go.R.RdG ec Tryz.prog w base sp held ok 42 (fun x : ByteArray × ByteArray => [.string x.1, .string x.2]) (fun x => x.1.size ≤ top ∧ x.2.size ≤ top) :=
  Go.R.rg_array2 hk Tryz.underlying42 (by kernel_rfl) (by kernel_rfl) (Go.R.rg_str hk Tryz.underlying9) (fun _ => rfl)
theorem rd_Users23 (hk : Go.R.OkLaw Tryz.prog ok top wt) : Go.R.RdG ec Tryz.prog w base sp held ok 24 (fun x : Slc × List (ByteArray × ByteArray) => [.slice x.1.a x.1.len x.1.cap]) (Go.R.GoodG (fun x : ByteArray × ByteArray => [.string x.1, .string x.2]) 2 (wt 42) top w.heap (fun x => x.1.size ≤ top ∧ x.2.size ≤ top)) :=
  Go.R.rg_slice hk Tryz.underlying24 (by kernel_rfl) rfl (rd_Pair23 hk)
end

end Go.Proofs.YtfhalebbcbgbdaaGreatDoor
