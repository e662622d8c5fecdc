/-
  Cchr: the document's characters are the library's.
-/
import Derived.Test.YtnpgpijkofbknaaGreatDoorCu8
import Derived.Test.YtnpgpijkofbknaaGreatDoorSf
import Derived.Lib.DecodeN
namespace Go.Proofs.YtnpgpijkofbknaaGreatDoor
open Go.H Go.Proofs Go.Lib
set_option linter.unusedSimpArgs false
set_option linter.unusedVariables false
set_option synthInstance.maxSize 100000
set_option synthInstance.maxHeartbeats 400000

def tailN (n k b lo hi : Nat) : Prop := k < n ∧ lo ≤ b ∧ b ≤ hi
instance (n k b lo hi : Nat) : Decidable (tailN n k b lo hi) := by unfold tailN; infer_instance
def charN (n b0 b1 b2 b3 : Nat) : Nat :=
  if 1 ≤ b0 ∧ b0 ≤ 127 then 1
  else if 194 ≤ b0 ∧ b0 ≤ 223 ∧ tailN n 1 b1 128 191 then 2
  else if 224 ≤ b0 ∧ b0 ≤ 239 ∧ tailN n 1 b1 128 191 ∧ tailN n 2 b2 128 191 then (if (b0 = 224 ∧ ¬ tailN n 1 b1 160 191) ∨ (b0 = 237 ∧ ¬ tailN n 1 b1 128 159) then 0 else 3)
  else if 240 ≤ b0 ∧ b0 ≤ 244 ∧ tailN n 1 b1 128 191 ∧ tailN n 2 b2 128 191 ∧ tailN n 3 b3 128 191 then (if (b0 = 240 ∧ ¬ tailN n 1 b1 144 191) ∨ (b0 = 244 ∧ ¬ tailN n 1 b1 128 143) then 0 else 4)
  else 0
def nextN (d : Nat × Nat) : Nat := if d.1 = 0 ∨ (d.1 = 65533 ∧ d.2 < 2) then 0 else d.2

theorem nextN_bad : nextN (65533, 1) = 0 := by decide
theorem nextN_k {x k : Nat} (hx : x ≠ 0) (hk : 2 ≤ k) : nextN (x, k) = k := by
  unfold nextN
  rw [if_neg]
  rintro (h | h)
  · exact hx h
  · have := h.2
    simp only at this
    omega

theorem next_char (n b0 b1 b2 b3 : Nat) (hn : 1 ≤ n) (h0 : b0 < 256) (h1 : b1 < 256) (h2 : b2 < 256) (h3 : b3 < 256) : nextN (decodeN n b0 b1 b2 b3) = charN n b0 b1 b2 b3 := by
  unfold decodeN charN tailN
  split
  · unfold nextN
    by_cases g : b0 = 0
    · subst g; rfl
    · rw [if_neg (show ¬ (b0 = 0 ∨ (b0 = 65533 ∧ 1 < 2)) by omega), if_pos (by omega)]
  split
  · split
    · rw [nextN_k (by omega) (by omega), if_neg (by omega), if_pos (by omega)]
    · rw [nextN_bad, if_neg (by omega), if_neg (by omega), if_neg (by omega), if_neg (by omega)]
  split
  · split
    · rw [nextN_k (by omega) (by omega), if_neg (by omega), if_neg (by omega), if_pos (by omega), if_neg (by omega)]
    · rw [nextN_bad, if_neg (by omega), if_neg (by omega), if_pos (by omega), if_pos (by omega)]
  split
  · split
    · rw [nextN_k (by omega) (by omega), if_neg (by omega), if_neg (by omega), if_neg (by omega), if_pos (by omega), if_neg (by omega)]
    · rw [nextN_bad, if_neg (by omega), if_neg (by omega), if_neg (by omega)]
      split
      · rw [if_pos (by omega)]
      · rfl
  · rw [nextN_bad, if_neg (by omega), if_neg (by omega), if_neg (by omega), if_neg (by omega)]

theorem decode_tail (s : ByteArray) (pos : Nat) (h : pos < s.size) : decodeGo (s.extract pos s.size) = Utf8.decode s pos := by
  have hsz : (s.extract pos s.size).size = s.size - pos := by simp
  have hg : ∀ k, ((s.extract pos s.size).get! k).toNat = (s.get! (pos + k)).toNat := fun k => by
    show (((s.extract pos s.size).data)[k]!).toNat = ((s.data)[pos + k]!).toNat
    rw [ByteArray.data_extract]
    by_cases hk : pos + k < s.size
    · have h1 : pos + k < s.data.size := hk
      rw [getElem!_pos (s.data.extract pos s.size) k (by rw [Array.size_extract]; omega), getElem!_pos s.data (pos + k) h1, Array.getElem_extract]
    · have h1 : ¬ pos + k < s.data.size := hk
      rw [getElem!_neg (s.data.extract pos s.size) k (by rw [Array.size_extract]; omega), getElem!_neg s.data (pos + k) h1]
  unfold decodeGo
  rw [if_neg (by rw [hsz]; omega), decode_at, decode_at, hsz, Nat.sub_zero, hg, hg, hg, hg, Nat.add_zero, Nat.zero_add, Nat.zero_add, Nat.zero_add]

theorem nextLen_char (s : ByteArray) (pos : Nat) (h : pos < s.size) :
    nextLen (s.extract pos s.size) = charN (s.size - pos) (s.get! pos).toNat (s.get! (pos + 1)).toNat (s.get! (pos + 2)).toNat (s.get! (pos + 3)).toNat := by
  rw [← next_char _ _ _ _ _ (by omega) (UInt8.toNat_lt _) (UInt8.toNat_lt _) (UInt8.toNat_lt _) (UInt8.toNat_lt _), ← decode_at, ← decode_tail s pos h]
  rfl

theorem get_bang {s : ByteArray} {k : Nat} (h : k < s.size) : s[k]? = some (s.get! k) := by
  rw [getElem?_pos s k h]
  have h1 : k < s.data.size := h
  show some (s.data[k]) = some (s.data[k]!)
  rw [getElem!_pos s.data k h1]

variable {h : Heap} {R : List Asn}

theorem wrap_byte (b : UInt8) : IntKind.wrap .i64 ((b.toNat : Int)) = (b.toNat : Int) := by
  have := UInt8.toNat_lt b
  exact wrap_id (by omega) (by omega)

theorem rtail_spec {s : ByteArray} (hsz : s.size ≤ 9223372036854775807) {pos k lo hi : Nat} (hpos : pos < s.size) (hk : k ≤ 3) (hlo : lo ≤ 255) (hhi : hi ≤ 255) {Q : Value → Heap → Prop}
    (hq : Q (.bool (decide (tailN (s.size - pos) k (s.get! (pos + k)).toNat lo hi))) h) : HCalls Tryz.prog 107 #[.string s, .int .i64 ((pos + k : Nat) : Int), .int .i64 lo, .int .i64 hi] h Q := by
  refine ref02_tail_calls s _ lo hi h Q ?_
  unfold ref02_tail
  refine bind_cut (fun x h' => h' = h ∧ x.1 = decide (tailN (s.size - pos) k (s.get! (pos + k)).toNat lo hi)) ?_ ?_
  · rw [HM.ite_apply]
    unfold tailN
    by_cases h1 : pos + k < s.size
    · rw [if_pos (by simp only [decide_eq_true_eq]; omega)]
      have hb := get_bang h1
      generalize s.get! (pos + k) = b at hb
      refine ⟨b, by omega, by rw [Int.toNat_natCast]; exact hb, ?_⟩
      dsimp only
      rw [wrap_byte, HM.ite_apply]
      by_cases h2 : lo ≤ b.toNat
      · rw [if_pos (by simp only [decide_eq_true_eq]; omega)]
        refine ⟨b, by omega, by rw [Int.toNat_natCast]; exact hb, rfl, ?_⟩
        dsimp only
        rw [wrap_byte]
        have h3 : k < s.size - pos := by omega
        simp [h2, h3]
      · rw [if_neg (by simp only [decide_eq_true_eq]; omega)]
        exact ⟨rfl, by simp [h2]⟩
    · rw [if_neg (by simp only [decide_eq_true_eq]; omega)]
      have h3 : ¬ k < s.size - pos := by omega
      exact ⟨rfl, by simp [h3]⟩
  rintro ⟨x, ⟨⟩⟩ h1 ⟨rfl, hx⟩
  simp only at hx
  subst hx
  exact hq

set_option maxRecDepth 100000 in
theorem Char_spec {s : ByteArray} (hsz : s.size ≤ 9223372036854775800) {pos : Nat} (hpos : pos < s.size) {Q : Value → Heap → Prop}
    (hq : Q (.int .i64 (nextLen (s.extract pos s.size))) h) : HCalls Tryz.prog 93 #[.string s, .int .i64 pos] h Q := by
  refine ref02_Char_calls s pos h Q ?_
  unfold ref02_Char
  rw [nextLen_char s pos hpos] at hq
  have hb := get_bang hpos
  refine ⟨s.get! pos, by omega, by rw [Int.toNat_natCast]; exact hb, ?_⟩
  dsimp only
  rw [wrap_byte]
  have tl : ∀ (k lo hi : Nat) {Q' : Value → Heap → Prop}, k ≤ 3 → lo ≤ 255 → hi ≤ 255 → Q' (.bool (decide (tailN (s.size - pos) k (s.get! (pos + k)).toNat lo hi))) h →
      HCalls Tryz.prog 107 #[.string s, .int .i64 (IntKind.wrap .i64 ((pos : Int) + k)), .int .i64 lo, .int .i64 hi] h Q' := fun k lo hi Q' h1 h2 h3 hq' => by
    rw [wrap_id (by omega) (by omega), show (pos : Int) + k = ((pos + k : Nat) : Int) by omega]
    exact rtail_spec (by omega) hpos h1 h2 h3 hq'
  have hb0 := UInt8.toNat_lt (s.get! pos)
  unfold charN at hq
  generalize (s.get! pos).toNat = b0 at hq hb0
  refine bind_cut (fun x h' => h' = h ∧ x.1 = decide (1 ≤ b0 ∧ b0 ≤ 127)) ?_ ?_
  · by_cases g1 : 1 ≤ b0
    · have : (1 : Int) ≤ b0 := by omega
      simp [g1, this]; omega
    · have : ¬ (1 : Int) ≤ b0 := by omega
      simp [g1, this]
  rintro ⟨x, ⟨⟩⟩ h1 ⟨rfl, hx⟩
  simp only at hx
  subst hx
  (try dsimp only); rw [HM.ite_apply]
  by_cases c1 : 1 ≤ b0 ∧ b0 ≤ 127
  · rw [if_pos (by simpa using c1)]
    rw [if_pos c1] at hq
    exact hq
  rw [if_neg (by simpa using c1)]
  rw [if_neg c1] at hq
  refine bind_call1 (tl 1 128 191 (by decide) (by decide) (by decide) ⟨_, rfl, ?_⟩)
  refine bind_call1 (tl 2 128 191 (by decide) (by decide) (by decide) ⟨_, rfl, ?_⟩)
  refine bind_call1 (tl 3 128 191 (by decide) (by decide) (by decide) ⟨_, rfl, ?_⟩)
  dsimp only
  refine bind_cut (fun x h' => h' = h1 ∧ x.1 = decide (194 ≤ b0 ∧ b0 ≤ 223 ∧ tailN (s.size - pos) 1 (s.get! (pos + 1)).toNat 128 191)) ?_ ?_
  · by_cases g1 : 194 ≤ b0
    · have e1 : (194 : Int) ≤ b0 := by omega
      by_cases g2 : b0 ≤ 223
      · have e2 : (b0 : Int) ≤ 223 := by omega
        simp [g1, g2, e1, e2]
      · have e2 : ¬ (b0 : Int) ≤ 223 := by omega
        simp [g1, g2, e1, e2]
    · have e1 : ¬ (194 : Int) ≤ b0 := by omega
      simp [g1, e1]
  rintro ⟨x, ⟨⟩⟩ h2 ⟨rfl, hx⟩
  simp only at hx
  subst hx
  (try dsimp only); rw [HM.ite_apply]
  by_cases c2 : 194 ≤ b0 ∧ b0 ≤ 223 ∧ tailN (s.size - pos) 1 (s.get! (pos + 1)).toNat 128 191
  · rw [if_pos (by simpa using c2)]
    rw [if_pos c2] at hq
    exact hq
  rw [if_neg (by simpa using c2)]
  rw [if_neg c2] at hq
  refine bind_cut (fun x h' => h' = h2 ∧ x.1 = decide (224 ≤ b0 ∧ b0 ≤ 239 ∧ tailN (s.size - pos) 1 (s.get! (pos + 1)).toNat 128 191 ∧ tailN (s.size - pos) 2 (s.get! (pos + 2)).toNat 128 191)) ?_ ?_
  · by_cases g1 : 224 ≤ b0
    · have e1 : (224 : Int) ≤ b0 := by omega
      by_cases g2 : b0 ≤ 239
      · have e2 : (b0 : Int) ≤ 239 := by omega
        by_cases g3 : tailN (s.size - pos) 1 (s.get! (pos + 1)).toNat 128 191 <;> simp [g1, g2, e1, e2, g3]
      · have e2 : ¬ (b0 : Int) ≤ 239 := by omega
        simp [g1, g2, e1, e2]
    · have e1 : ¬ (224 : Int) ≤ b0 := by omega
      simp [g1, e1]
  rintro ⟨x, ⟨⟩⟩ h3 ⟨rfl, hx⟩
  simp only at hx
  subst hx
  (try dsimp only); rw [HM.ite_apply]
  by_cases c3 : 224 ≤ b0 ∧ b0 ≤ 239 ∧ tailN (s.size - pos) 1 (s.get! (pos + 1)).toNat 128 191 ∧ tailN (s.size - pos) 2 (s.get! (pos + 2)).toNat 128 191
  · rw [if_pos (by simpa using c3)]
    rw [if_pos c3] at hq
    refine bind_call1 (tl 1 160 191 (by decide) (by decide) (by decide) ⟨_, rfl, ?_⟩)
    refine bind_call1 (tl 1 128 159 (by decide) (by decide) (by decide) ⟨_, rfl, ?_⟩)
    dsimp only
    refine bind_cut (fun x h' => h' = h3 ∧ x.1 = decide ((b0 = 224 ∧ ¬ tailN (s.size - pos) 1 (s.get! (pos + 1)).toNat 160 191) ∨ (b0 = 237 ∧ ¬ tailN (s.size - pos) 1 (s.get! (pos + 1)).toNat 128 159))) ?_ ?_
    · by_cases g1 : b0 = 224
      · subst g1
        by_cases g2 : tailN (s.size - pos) 1 (s.get! (pos + 1)).toNat 160 191 <;> simp [g2]
      · have e1 : ¬ (b0 : Int) = 224 := by omega
        by_cases g3 : b0 = 237
        · subst g3
          simp
        · have e3 : ¬ (b0 : Int) = 237 := by omega
          simp [g1, g3, e1, e3]
    rintro ⟨x, ⟨⟩⟩ h4 ⟨rfl, hx⟩
    simp only at hx
    subst hx
    (try dsimp only); rw [HM.ite_apply]
    by_cases c4 : (b0 = 224 ∧ ¬ tailN (s.size - pos) 1 (s.get! (pos + 1)).toNat 160 191) ∨ (b0 = 237 ∧ ¬ tailN (s.size - pos) 1 (s.get! (pos + 1)).toNat 128 159)
    · rw [if_pos (by simp only [c4, decide_true])]
      rw [if_pos c4] at hq
      exact hq
    · rw [if_neg (by simp only [c4, decide_false, Bool.false_eq_true, not_false_eq_true])]
      rw [if_neg c4] at hq
      exact hq
  rw [if_neg (by simpa using c3)]
  rw [if_neg c3] at hq
  refine bind_cut (fun x h' => h' = h3 ∧ x.1 = decide (240 ≤ b0 ∧ b0 ≤ 244 ∧ tailN (s.size - pos) 1 (s.get! (pos + 1)).toNat 128 191 ∧ tailN (s.size - pos) 2 (s.get! (pos + 2)).toNat 128 191 ∧ tailN (s.size - pos) 3 (s.get! (pos + 3)).toNat 128 191)) ?_ ?_
  · by_cases g1 : 240 ≤ b0
    · have e1 : (240 : Int) ≤ b0 := by omega
      by_cases g2 : b0 ≤ 244
      · have e2 : (b0 : Int) ≤ 244 := by omega
        by_cases g3 : tailN (s.size - pos) 1 (s.get! (pos + 1)).toNat 128 191 <;> by_cases g4 : tailN (s.size - pos) 2 (s.get! (pos + 2)).toNat 128 191 <;> simp [g1, g2, e1, e2, g3, g4]
      · have e2 : ¬ (b0 : Int) ≤ 244 := by omega
        simp [g1, g2, e1, e2]
    · have e1 : ¬ (240 : Int) ≤ b0 := by omega
      simp [g1, e1]
  rintro ⟨x, ⟨⟩⟩ h4 ⟨rfl, hx⟩
  simp only at hx
  subst hx
  (try dsimp only); rw [HM.ite_apply]
  by_cases c5 : 240 ≤ b0 ∧ b0 ≤ 244 ∧ tailN (s.size - pos) 1 (s.get! (pos + 1)).toNat 128 191 ∧ tailN (s.size - pos) 2 (s.get! (pos + 2)).toNat 128 191 ∧ tailN (s.size - pos) 3 (s.get! (pos + 3)).toNat 128 191
  · rw [if_pos (by simpa using c5)]
    rw [if_pos c5] at hq
    refine bind_call1 (tl 1 144 191 (by decide) (by decide) (by decide) ⟨_, rfl, ?_⟩)
    refine bind_call1 (tl 1 128 143 (by decide) (by decide) (by decide) ⟨_, rfl, ?_⟩)
    dsimp only
    refine bind_cut (fun x h' => h' = h4 ∧ x.1 = decide ((b0 = 240 ∧ ¬ tailN (s.size - pos) 1 (s.get! (pos + 1)).toNat 144 191) ∨ (b0 = 244 ∧ ¬ tailN (s.size - pos) 1 (s.get! (pos + 1)).toNat 128 143))) ?_ ?_
    · by_cases g1 : b0 = 240
      · subst g1
        by_cases g2 : tailN (s.size - pos) 1 (s.get! (pos + 1)).toNat 144 191 <;> simp [g2]
      · have e1 : ¬ (b0 : Int) = 240 := by omega
        by_cases g3 : b0 = 244
        · subst g3
          simp
        · have e3 : ¬ (b0 : Int) = 244 := by omega
          simp [g1, g3, e1, e3]
    rintro ⟨x, ⟨⟩⟩ h5 ⟨rfl, hx⟩
    simp only at hx
    subst hx
    (try dsimp only); rw [HM.ite_apply]
    by_cases c6 : (b0 = 240 ∧ ¬ tailN (s.size - pos) 1 (s.get! (pos + 1)).toNat 144 191) ∨ (b0 = 244 ∧ ¬ tailN (s.size - pos) 1 (s.get! (pos + 1)).toNat 128 143)
    · rw [if_pos (by simp only [c6, decide_true])]
      rw [if_pos c6] at hq
      exact hq
    · rw [if_neg (by simp only [c6, decide_false, Bool.false_eq_true, not_false_eq_true])]
      rw [if_neg c6] at hq
      exact hq
  rw [if_neg (by simpa using c5)]
  rw [if_neg c5] at hq
  exact hq

theorem rFault_spec (hs : sat h R) (s : ByteArray) (hsz : s.size ≤ 9223372036854775800) {Q : Value → Heap → Prop} (hq : Q (faultV (faultOf s)) h) :
    HCalls Tryz.prog 71 #[.string s] h Q := by
  refine ref02_Fault_calls s h Q ?_
  unfold ref02_Fault
  rw [HM.bind_apply]
  refine loop_gx (γ := Nat × Nat) (fun g c h' => c.1 = (g.2 : Int) ∧ g.2 ≤ s.size ∧ s.size - g.2 < g.1 ∧ faultGo s g.1 g.2 = faultOf s ∧ h' = h) (fun g => g.1) (s.size + 1, 0) ⟨rfl, Nat.zero_le _, by simp, rfl, rfl⟩ ?_
  rintro ⟨f, at'⟩ ⟨c, ⟨⟩⟩ h1 ⟨hc, hle, hf, hg, rfl⟩
  simp only at hc hle hf hg
  subst hc
  cases f with
  | zero => omega
  | succ f =>
  simp only [faultGo] at hg
  (try dsimp only); rw [HM.ite_apply]
  by_cases hlt : at' < s.size
  · rw [if_pos hlt] at hg
    rw [if_pos (by simp only [decide_eq_true_eq]; omega)]
    refine bind_call1 (Char_spec hsz hlt ⟨((nextLen (s.extract at' s.size) : Nat) : Int), rfl, ?_⟩)
    have hn := nextLen_le (s.extract at' s.size)
    generalize nextLen (s.extract at' s.size) = n at hg hn ⊢
    have hsize : (s.extract at' s.size).size = s.size - at' := by simp
    rw [hsize] at hn
    (try dsimp only); rw [HM.ite_apply]
    by_cases h0 : n = 0
    · rw [if_pos h0] at hg
      rw [← hg] at hq
      rw [if_pos (by simp [h0])]
      simp only [Sum.elim_inl, Sum.elim_inr, HM.pure_apply]
      exact hq
    · rw [if_neg h0] at hg
      rw [if_neg (by simp [h0])]
      simp only [Sum.elim_inl, Sum.elim_inr, HM.pure_apply]
      exact .mk (f, at' + n) (by simp) ⟨by simp only []; rw [wrap_id (by omega) (by omega)]; rfl, by simp only []; omega, by simp only []; omega, hg, rfl⟩
  · rw [if_neg hlt] at hg
    rw [← hg] at hq
    rw [if_neg (by simp only [decide_eq_true_eq]; omega)]
    simp only [Sum.elim_inl, Sum.elim_inr, HM.pure_apply]
    exact hq

end Go.Proofs.YtnpgpijkofbknaaGreatDoor
