/-
  D09: the tables of unicode/utf8 as the rows of law 9 list them: a world that meets the condition; what it gives; the bulk's law; readers of the arguments.
-/
import Derived.Test.YtnpgpijkofbknaaGreatDoorRows
import Derived.Test.YtnpgpijkofbknaaGreatDoorChecked
import Derived.Test.YtnpgpijkofbknaaGreatDoorCtop
import Derived.Test.YtnpgpijkofbknaaGreatDoorHrd
import Derived.Shelf.Vars
import Derived.ProofKit
import Derived.LaidMore
import Derived.LaidHandle
import Derived.OpenShut
import Derived.Stop.Joined
import Derived.Lib.LaidU8T
import Derived.PinnedBridge
namespace Go.Proofs.YtnpgpijkofbknaaGreatDoor
open Go.ChangeShapes Go.WideShapes Go.ChangeAt Go.RowKit Go.Proofs Go.Lib Go.H
set_option linter.unusedSimpArgs false
set_option linter.unusedVariables false
set_option maxRecDepth 100000

def laid17 : List (String × DataW Unit) := Rows.trieListsRow.laid
theorem laid17_eq : laid17 = [("unicode/utf8.acceptRanges", Rows.laid_unicode_utf8_acceptRanges), ("unicode/utf8.first", Rows.laid_unicode_utf8_first)] := rfl

noncomputable def laidWorld (os : Os) : World :=
  let w0 := World.doorLaid Tryz.prog 400 os
  { w0 with heap := w0.heap.modify 1 fun
      | .cells _ t frozen => .cells ((List.range 256).map fun c => Value.int .u8 (firstT c)).toArray t frozen
      | o => o }

theorem laid_met (os : Os) (args : Array Value) : laidMetH Tryz.prog laid17 ((laidWorld os).forCall (fun _ _ => 0) ⟨#[], args, []⟩).memory :=
  laidMetH_of_parts3 (fuel := 8) (laidMet_of_run' 8 (by kernel_rfl) (by kernel_rfl)) (by kernel_rfl) (by kernel_rfl)

theorem u8_extra : U8Extra Tryz.prog u8_ren where
  n3 := by kernel_rfl
  n4 := by kernel_rfl
  y3 := by kernel_rfl
  y4 := by kernel_rfl
  c5 := by kernel_rfl
  c119 := by kernel_rfl
  c138 := by kernel_rfl

theorem accept_eq : (Rows.laid_unicode_utf8_acceptRanges : DataW Unit) = acceptData := by kernel_rfl
theorem first_eq : (Rows.laid_unicode_utf8_first : DataW Unit) = firstData := Pinned.utf8First_eq

theorem u8_of_laid {W : World} (h : laidMetH Tryz.prog laid17 W) : U8 W.heap := by
  rw [MakeChecks.laidMetH_plain _ _ _ (by kernel_rfl)] at h
  have h4 := laidMet.reads h (n := "unicode/utf8.acceptRanges") (d := Rows.laid_unicode_utf8_acceptRanges) (by rw [laid17_eq]; exact List.mem_cons_self ..)
  have h3 := laidMet.reads h (n := "unicode/utf8.first") (d := Rows.laid_unicode_utf8_first) (by rw [laid17_eq]; exact List.mem_cons_of_mem _ (List.mem_cons_self ..))
  rw [accept_eq] at h4
  rw [first_eq] at h3
  have ht := utf8Tabs_of_readsT (L := { u8 with }) u8_extra h3 h4
  exact ⟨fun c hc => ht.1 c hc, fun i hi => ht.2 i hi⟩

theorem tp_of_laid {W : World} (h : laidMetH Tryz.prog laid17 W) (hsh : W.ShapedOpen Tryz.prog) : TP W.heap :=
  ⟨u8_of_laid h, cell_of_shapedOpen_int (t := 3) (zero := #[.int .i64 0]) hsh (of_decide_eq_true (by kernel_rfl)) (by kernel_rfl) rfl (by kernel_rfl) (by kernel_rfl) Tryz.underlying3⟩

/-! ### the bulk -/

def okB {H : Type} (t : TypeId) (d : DataW H) : Prop := Rows.uptoBulk d ≤ 1048576

theorem bulk_mem {H : Type} : ∀ {l : List (DataW H)} {d : DataW H}, d ∈ l → Rows.uptoBulk d ≤ Rows.uptoBulkAll l
  | x :: l, d, h => by
    simp only [Rows.uptoBulkAll]
    rcases List.mem_cons.1 h with rfl | h
    · omega
    · have := bulk_mem h
      omega
theorem bulk_pos {H : Type} (d : DataW H) : 1 ≤ Rows.uptoBulk d := by
  cases d with
  | lit l => cases l <;> simp [Rows.uptoBulk]
  | _ => simp [Rows.uptoBulk]
theorem bulk_len {H : Type} : ∀ (l : List (DataW H)), l.length ≤ Rows.uptoBulkAll l
  | [] => Nat.zero_le _
  | d :: l => by
    have := bulk_len l
    have := bulk_pos d
    simp only [List.length_cons, Rows.uptoBulkAll]
    omega

theorem okB_law {H : Type} : Go.R.OkLaw (H := H) Tryz.prog okB 1048576 (fun _ => 1) where
  str h := by simp only [okB, Rows.uptoBulk] at h; omega
  elem _ h hd := by simp only [okB, Rows.uptoBulk] at h ⊢; have := bulk_mem hd; omega
  cnt {t e elems rest} _ h := by simp only [okB, Rows.uptoBulk] at h; have := bulk_len elems; omega
  field _ h _ hd := by simp only [okB, Rows.uptoBulk] at h ⊢; have := bulk_mem (List.mem_of_getElem? hd); omega
  arr _ h hd := by simp only [okB, Rows.uptoBulk] at h ⊢; have := bulk_mem hd; omega

/-! ### the arguments -/

abbrev goodE09 (top : Nat) (x : Int × ByteArray × Int) : Prop := (Lit.int .i64 x.1).wf = true ∧ x.2.1.size ≤ top ∧ (Lit.int .i64 x.2.2).wf = true
abbrev goodA09 (top : Nat) (x : Int × Int × ByteArray × Int) : Prop := (Lit.int .i64 x.1).wf = true ∧ goodE09 top x.2

section
variable {H : Type} {ec : TypeId × Value → H} {w : World} {base : Nat} {sp : Nat → Bool} {held : Bool} {ok : TypeId → DataW H → Prop} {top : Nat} {wt : TypeId → Nat}
theorem rd_Entry09 (hk : Go.R.OkLaw Tryz.prog ok top wt) : Go.R.RdG ec Tryz.prog w base sp held ok 34 (fun x : Int × ByteArray × Int => [.int .i64 x.1, .string x.2.1, .int .i64 x.2.2]) (goodE09 top) :=
  Go.R.rg_struct hk Tryz.underlying34 (n := 3) (by kernel_rfl)
    (Go.R.rf_cons (c := 1) (by kernel_rfl) (by rfl) (Go.R.rg_int Tryz.underlying3) (Go.R.rf_cons (c := 1) (by kernel_rfl) (by rfl) (Go.R.rg_str hk Tryz.underlying9) (Go.R.rf_one (c := 1) (by kernel_rfl) (by rfl) (by decide) (Go.R.rg_int Tryz.underlying3))))
theorem rd_Act09 (hk : Go.R.OkLaw Tryz.prog ok top wt) : Go.R.RdG ec Tryz.prog w base sp held ok 36 (fun x : Int × Int × ByteArray × Int => [.int .i64 x.1, .int .i64 x.2.1, .string x.2.2.1, .int .i64 x.2.2.2]) (goodA09 top) :=
  Go.R.rg_map (fun x : Int × Int × ByteArray × Int => x) (Go.R.rg_struct hk Tryz.underlying36 (n := 4) (by kernel_rfl)
    (Go.R.rf_cons (c := 1) (by kernel_rfl) (by rfl) (Go.R.rg_int Tryz.underlying3) (Go.R.rf_one (c := 3) (by kernel_rfl) (by rfl) (by decide) (rd_Entry09 hk)))) (fun _ => rfl) (fun _ h => h)
theorem rd_Acts09 (hk : Go.R.OkLaw Tryz.prog ok top wt) : Go.R.RdG ec Tryz.prog w base sp held ok 22 (fun x : Slc × List (Int × Int × ByteArray × Int) => [.slice x.1.a x.1.len x.1.cap]) (Go.R.GoodG (fun x : Int × Int × ByteArray × Int => [.int .i64 x.1, .int .i64 x.2.1, .string x.2.2.1, .int .i64 x.2.2.2]) 4 (wt 36) top w.heap (goodA09 top)) :=
  Go.R.rg_slice hk Tryz.underlying22 (by kernel_rfl) rfl (rd_Act09 hk)
theorem rd_Texts09 (hk : Go.R.OkLaw Tryz.prog ok top wt) : Go.R.RdG ec Tryz.prog w base sp held ok 37 (fun x : Slc × List ByteArray => [.slice x.1.a x.1.len x.1.cap]) (Go.R.GoodG (fun x : ByteArray => [.string x]) 1 (wt 9) top w.heap (fun x => x.size ≤ top)) :=
  Go.R.rg_slice hk Tryz.underlying37 (by kernel_rfl) rfl (Go.R.rg_str hk Tryz.underlying9)
end

end Go.Proofs.YtnpgpijkofbknaaGreatDoor
