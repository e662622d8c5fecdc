/-
  Cu8: contracts: characters of texts (utf8 by the shelf, text.next, text.Fault).
-/
import Derived.Test.YtnpgpijkofbknaaGreatDoorSf
import Derived.Test.YtnpgpijkofbknaaGreatDoorHB
import Derived.Test.YtnpgpijkofbknaaGreatDoorKu8
import Derived.Shelf.Unicode.DecodeAny
import Derived.Shelf.Unicode.DecodeLastEight
namespace Go.Proofs.YtnpgpijkofbknaaGreatDoor
open Go.H Go.Proofs
set_option linter.unusedSimpArgs false
set_option linter.unusedVariables false
set_option synthInstance.maxSize 100000
set_option synthInstance.maxHeartbeats 400000

/-- the two tables, in the heap that was there -/
def U8 (h0 : Heap) : Prop :=
  (∀ c, c < 256 → cellH h0 ⟨u8_ren.g 3, c, none⟩ = some (.int .u8 (Lib.firstT c))) ∧
  (∀ i, i < 16 → cellH h0 ⟨u8_ren.g 4, 2 * i, none⟩ = some (.int .u8 (Lib.accLo i)) ∧ cellH h0 ⟨u8_ren.g 4, 2 * i + 1, none⟩ = some (.int .u8 (Lib.accHi i)))

theorem U8.tabs {h h0 : Heap} {R : List Asn} (ht : U8 h0) (hs : sat h (old h0 :: R)) {w : World} (hw : w.heap = h) : Lib.Utf8Tabs (u8_ren.g 3) (u8_ren.g 4) w := by
  subst hw
  exact ⟨fun c hc => hs.old_cell (ht.1 c hc), fun i hi => ⟨hs.old_cell (ht.2 i hi).1, hs.old_cell (ht.2 i hi).2⟩⟩

theorem Decode_spec {h h0 : Heap} {R : List Asn} (hs : sat h (old h0 :: R)) (ht : U8 h0) (s : ByteArray) {Q : Value → Heap → Prop}
    (hq : ∀ h', sat h' (old h0 :: R) → Q (.tuple #[.int .i32 (Lib.decodeGo s).1, .int .i64 (Lib.decodeGo s).2]) h') : HCalls Tryz.prog 102 #[.string s] h Q :=
  calls_below hs (fun w hw => Any.utf8_DecodeRuneInString u8 s w (ht.tabs hs hw)) hq

/-- how many bytes the first character has; 0: there is none that may be -/
def nextLen (s : ByteArray) : Nat := if (Lib.decodeGo s).1 = 0 ∨ ((Lib.decodeGo s).1 = 65533 ∧ (Lib.decodeGo s).2 < 2) then 0 else (Lib.decodeGo s).2

theorem nextLen_le (s : ByteArray) : nextLen s ≤ s.size := by
  unfold nextLen
  split
  · exact Nat.zero_le _
  · exact Lib.decodeGo_le_size s

theorem next_spec {h h0 : Heap} {R : List Asn} (hs : sat h (old h0 :: R)) (ht : U8 h0) (s : ByteArray) {Q : Value → Heap → Prop}
    (hq : ∀ h', sat h' (old h0 :: R) → Q (.int .i64 (nextLen s)) h') : HCalls Tryz.prog 88 #[.string s] h Q := by
  refine text_next_calls s h Q ?_
  unfold text_next
  simp
  refine Decode_spec hs ht s fun h' hs' => ?_
  have := hq h' hs'
  unfold nextLen at this
  by_cases g1 : (Lib.decodeGo s).1 = 0
  · simpa [g1] using this
  · by_cases g2 : (Lib.decodeGo s).1 = 65533
    · by_cases g3 : (Lib.decodeGo s).2 < 2
      · have g3' : ((Lib.decodeGo s).2 : Int) < 2 := by omega
        simpa [g1, g2, g3, g3'] using this
      · have g3' : ¬ ((Lib.decodeGo s).2 : Int) < 2 := by omega
        simpa [g1, g2, g3, g3'] using this
    · have g2' : ¬ ((Lib.decodeGo s).1 : Int) = 65533 := by omega
      simpa [g1, g2, g2'] using this

def faultGo (s : ByteArray) : Nat → Nat → Option Nat
  | 0, _ => none
  | f + 1, at' => if at' < s.size then (if nextLen (s.extract at' s.size) = 0 then some at' else faultGo s f (at' + nextLen (s.extract at' s.size))) else none
/-- the first byte at which a text is none -/
def faultOf (s : ByteArray) : Option Nat := faultGo s (s.size + 1) 0

def faultV : Option Nat → Value
  | some n => .tuple #[.int .i64 n, .bool true]
  | none => .tuple #[.int .i64 0, .bool false]

theorem Fault_spec {h h0 : Heap} {R : List Asn} (hs : sat h (old h0 :: R)) (ht : U8 h0) (s : ByteArray) (hsz : s.size ≤ 9223372036854775807) {Q : Value → Heap → Prop}
    (hq : ∀ h', sat h' (old h0 :: R) → Q (faultV (faultOf s)) h') : HCalls Tryz.prog 67 #[.string s] h Q := by
  refine text_Fault_calls s h Q ?_
  unfold text_Fault
  simp only [HM.bind_apply]
  refine loop_gx (γ := Nat × Nat) (fun g c h' => c.1 = (g.2 : Int) ∧ g.2 ≤ s.size ∧ s.size - g.2 < g.1 ∧ faultGo s g.1 g.2 = faultOf s ∧ sat h' (old h0 :: R)) (fun g => g.1) (s.size + 1, 0) ⟨rfl, Nat.zero_le _, by simp, rfl, hs⟩ ?_
  rintro ⟨f, at'⟩ ⟨c, ⟨⟩⟩ h1 ⟨hc, hle, hf, hg, hs1⟩
  simp only at hc hle hf hg
  subst hc
  cases f with
  | zero => omega
  | succ f =>
  simp only [faultGo] at hg
  by_cases hlt : at' < s.size
  · rw [if_pos hlt] at hg
    have hlt' : (at' : Int) < (s.size : Int) := by omega
    simp [hlt']
    refine ⟨at', s.size, rfl, ⟨rfl, by omega⟩, ?_⟩
    refine next_spec hs1 ht _ fun h2 hs2 => ?_
    have hn := nextLen_le (s.extract at' s.size)
    generalize nextLen (s.extract at' s.size) = n at hg hn ⊢
    have hsize : (s.extract at' s.size).size = s.size - at' := by simp
    rw [hsize] at hn
    by_cases h0 : n = 0
    · rw [if_pos h0] at hg
      have := hq h2 hs2
      rw [← hg] at this
      simpa [h0, faultV] using this
    · rw [if_neg h0] at hg
      simp [h0]
      exact .mk (f, at' + n) (by simp) ⟨by simp only []; rw [wrap_id (by omega) (by omega)]; rfl, by simp only []; omega, by simp only []; omega, hg, hs2⟩
  · rw [if_neg hlt] at hg
    have hlt' : ¬ (at' : Int) < (s.size : Int) := by omega
    have := hq h1 hs1
    rw [← hg] at this
    simpa [hlt', faultV] using this

end Go.Proofs.YtnpgpijkofbknaaGreatDoor
