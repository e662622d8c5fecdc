/-
  Ctag: contracts: sets of tags.
-/
import Derived.Test.YtfhalebbcbgbdaaGreatDoorCids
import Derived.Test.YtfhalebbcbgbdaaGreatDoorHx
import Derived.Test.YtfhalebbcbgbdaaGreatDoorHB
namespace Go.Proofs.YtfhalebbcbgbdaaGreatDoor
open Go.H Go.Proofs
set_option linter.unusedSimpArgs false
set_option linter.unusedVariables false
set_option synthInstance.maxSize 100000
set_option synthInstance.maxHeartbeats 400000

abbrev TagT := Int × Int

def goodTag (t : TagT) : Prop := 0 ≤ t.1 ∧ t.1 < 8 ∧ 1 ≤ t.2 ∧ t.2 ≤ 9007199254740992
instance (t : TagT) : Decidable (goodTag t) := by unfold goodTag; infer_instance

theorem tgood_spec {h : Heap} {R : List Asn} (hs : sat h R) {t : TagT} {Q : Value → Heap → Prop} (hq : ∀ h', sat h' R → Q (.bool (decide (goodTag t))) h') :
    HCalls Tryz.prog 98 #[e2 t] h Q := by
  obtain ⟨a, b⟩ := t
  refine tags_Tag_good_calls (a, b, ()) h Q ?_
  unfold tags_Tag_good
  refine new_cells hs fun tb h1 hs1 => ?_
  have c0 : cellH h1 ⟨tb, 0, none⟩ = some (.int .i64 a) := hs1.cell 0
  have c1 : cellH h1 ⟨tb, 1, none⟩ = some (.int .i64 b) := hs1.cell 1
  have hq' := hq h1 hs1.drop
  refine bind_cut (fun x h' => h' = h1 ∧ x.1 = decide (goodTag (a, b))) ?_ ?_
  · unfold goodTag
    by_cases g1 : 0 ≤ a <;> by_cases g2 : a < 8 <;> by_cases g3 : 1 ≤ b <;> by_cases g4 : b ≤ 9007199254740992 <;> simp [add_own, c0, c1, g1, g2, g3, g4] <;> omega
  · rintro ⟨x, ⟨⟩⟩ h2 ⟨rfl, hx⟩
    simp only at hx
    subst hx
    exact hq'


end Go.Proofs.YtfhalebbcbgbdaaGreatDoor
