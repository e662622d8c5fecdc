/-
  Csrt: contracts: the entries of a trie are sorted.
-/
import Derived.Test.YtnpgpijkofbknaaGreatDoorLr09
import Derived.Test.YtnpgpijkofbknaaGreatDoorKord
import Derived.Test.YtnpgpijkofbknaaGreatDoorHsrt
namespace Go.Proofs.YtnpgpijkofbknaaGreatDoor
open Go.H Go.Proofs Go.Shelf Go.Sort
set_option linter.unusedSimpArgs false
set_option linter.unusedVariables false
set_option maxRecDepth 100000

def sortE9_ren : Go.Shelf.Ren := ⟨fun n => match n with | 6 => 22 | 15 => 39 | 14 => 38 | 28 => 61 | 29 => 62 | 20 => 53 | 21 => 54 | 22 => 55 | 23 => 56 | 24 => 57 | 25 => 58 | 26 => 59 | 27 => 60 | 46 => 73 | 47 => 74 | 48 => 75 | 49 => 76 | 50 => 77 | 57 => 97 | n => n, fun n => match n with | 22 => 29 | 24 => 41 | 25 => 63 | 3 => 3 | 39 => 85 | 0 => 0 | 53 => 103 | 55 => 105 | 4 => 4 | 46 => 97 | 45 => 96 | 50 => 73 | 5 => 5 | 9 => 9 | 66 => 113 | 70 => 117 | 76 => 137 | 77 => 138 | n => n, fun n => n⟩
theorem sortE9 : SlLaysF0.n6 Tryz.prog sortE9_ren where
  mixed := by kernel_rfl
  f6 := ⟨Tryz.f22.name, by kernel_rfl, Tryz.func22.trans (congrArg some (by kernel_rfl))⟩
  f14 := ⟨Tryz.f38.name, by kernel_rfl, Tryz.func38.trans (congrArg some (by kernel_rfl))⟩
  f15 := Tryz.func39.trans (congrArg some (by kernel_rfl))
  f20 := ⟨Tryz.f53.name, by kernel_rfl, Tryz.func53.trans (congrArg some (by kernel_rfl))⟩
  f21 := ⟨Tryz.f54.name, by kernel_rfl, Tryz.func54.trans (congrArg some (by kernel_rfl))⟩
  f22 := ⟨Tryz.f55.name, by kernel_rfl, Tryz.func55.trans (congrArg some (by kernel_rfl))⟩
  f23 := ⟨Tryz.f56.name, by kernel_rfl, Tryz.func56.trans (congrArg some (by kernel_rfl))⟩
  f24 := ⟨Tryz.f57.name, by kernel_rfl, Tryz.func57.trans (congrArg some (by kernel_rfl))⟩
  f25 := ⟨Tryz.f58.name, by kernel_rfl, Tryz.func58.trans (congrArg some (by kernel_rfl))⟩
  f26 := ⟨Tryz.f59.name, by kernel_rfl, Tryz.func59.trans (congrArg some (by kernel_rfl))⟩
  f27 := ⟨Tryz.f60.name, by kernel_rfl, Tryz.func60.trans (congrArg some (by kernel_rfl))⟩
  f28 := Tryz.func61.trans (congrArg some (by kernel_rfl))
  f29 := Tryz.func62.trans (congrArg some (by kernel_rfl))
  f46 := ⟨Tryz.f73.name, by kernel_rfl, Tryz.func73.trans (congrArg some (by kernel_rfl))⟩
  f47 := Tryz.func74.trans (congrArg some (by kernel_rfl))
  f48 := Tryz.func75.trans (congrArg some (by kernel_rfl))
  f49 := ⟨Tryz.f76.name, by kernel_rfl, Tryz.func76.trans (congrArg some (by kernel_rfl))⟩
  f50 := ⟨Tryz.f77.name, by kernel_rfl, Tryz.func77.trans (congrArg some (by kernel_rfl))⟩
  f57 := ⟨Tryz.f97.name, by kernel_rfl, Tryz.func97.trans (congrArg some (by kernel_rfl))⟩
  t0 := Tryz.underlying0
  a0 := Tryz.isAgg0
  z0 := Tryz.sizeOf0
  v0 := Tryz.zeroValue0
  t3 := Tryz.underlying3
  a3 := Tryz.isAgg3
  z3 := Tryz.sizeOf3
  v3 := Tryz.zeroValue3
  t4 := Tryz.underlying4
  a4 := Tryz.isAgg4
  z4 := Tryz.sizeOf4
  v4 := Tryz.zeroValue4
  t5 := Tryz.underlying5
  a5 := Tryz.isAgg5
  z5 := Tryz.sizeOf5
  v5 := Tryz.zeroValue5
  t9 := Tryz.underlying9
  a9 := Tryz.isAgg9
  z9 := Tryz.sizeOf9
  v9 := Tryz.zeroValue9
  t22 := Tryz.underlying29
  a22 := Tryz.isAgg29
  z22 := Tryz.sizeOf29
  v22 := Tryz.zeroValue29
  t25 := Tryz.underlying63
  a25 := Tryz.isAgg63
  z25 := Tryz.sizeOf63
  v25 := Tryz.zeroValue63
  t39 := Tryz.underlying85
  a39 := Tryz.isAgg85
  z39 := Tryz.sizeOf85
  v39 := Tryz.zeroValue85
  t45 := Tryz.underlying96
  a45 := Tryz.isAgg96
  z45 := Tryz.sizeOf96
  v45 := Tryz.zeroValue96
  t46 := Tryz.underlying97
  a46 := Tryz.isAgg97
  z46 := Tryz.sizeOf97
  v46 := Tryz.zeroValue97
  t50 := Tryz.underlying73
  a50 := Tryz.isAgg73
  z50 := Tryz.sizeOf73
  v50 := Tryz.zeroValue73
  t53 := Tryz.underlying103
  a53 := Tryz.isAgg103
  z53 := Tryz.sizeOf103
  v53 := Tryz.zeroValue103
  t55 := Tryz.underlying105
  a55 := Tryz.isAgg105
  z55 := Tryz.sizeOf105
  v55 := Tryz.zeroValue105
  t66 := Tryz.underlying113
  a66 := Tryz.isAgg113
  z66 := Tryz.sizeOf113
  v66 := Tryz.zeroValue113
  t70 := Tryz.underlying117
  a70 := Tryz.isAgg117
  z70 := Tryz.sizeOf117
  v70 := Tryz.zeroValue117
  t76 := Tryz.underlying137
  a76 := Tryz.isAgg137
  z76 := Tryz.sizeOf137
  v76 := Tryz.zeroValue137
  t77 := Tryz.underlying138
  a77 := Tryz.isAgg138
  z77 := Tryz.sizeOf138
  v77 := Tryz.zeroValue138


theorem cmpInt_iff (a b : Int) : (Lib.compareInt a b < 0 ↔ a < b) ∧ (Lib.compareInt a b = 0 ↔ a = b) := by
  unfold Lib.compareInt
  by_cases h1 : a < b
  · rw [if_pos h1]; constructor <;> constructor <;> intro _ <;> omega
  · rw [if_neg h1]
    by_cases h2 : b < a
    · rw [if_pos h2]; constructor <;> constructor <;> intro _ <;> omega
    · rw [if_neg h2]; constructor <;> constructor <;> intro _ <;> omega

theorem cmpB_lt : ∀ (a b : List UInt8), Lib.compareBytes a b < 0 ↔ a < b
  | [], [] => by simp [Lib.compareBytes]
  | [], b :: l => by simp [Lib.compareBytes]
  | a :: l, [] => by simp [Lib.compareBytes]
  | a :: l, b :: m => by
    unfold Lib.compareBytes
    rw [List.cons_lt_cons_iff]
    by_cases h1 : a < b
    · simp [h1]
    · rw [if_neg h1]
      by_cases h2 : b < a
      · rw [if_pos h2]
        have : a ≠ b := fun e => by subst e; exact h1 h2
        simp [h1, this]
      · rw [if_neg h2]
        have e : a = b := by
          apply UInt8.toNat_inj.1
          have h3 : ¬ a.toNat < b.toNat := fun h => h1 (UInt8.lt_iff_toNat_lt.2 h)
          have h4 : ¬ b.toNat < a.toNat := fun h => h2 (UInt8.lt_iff_toNat_lt.2 h)
          omega
        rw [cmpB_lt l m]
        simp [h1, e]

theorem ltE_iff (x y : Ent) : ltOf cmpE x y = decide (ltK (keyE x) (keyE y)) := by
  unfold ltOf
  rw [decide_eq_decide]
  unfold cmpE ltK
  have h1 := cmpInt_iff x.1 y.1
  by_cases h0 : Lib.compareInt x.1 y.1 = 0
  · rw [if_pos h0, cmpB_lt]
    have e := h1.2.1 h0
    constructor
    · intro h; exact .inr ⟨e, h⟩
    · rintro (h | ⟨_, h⟩)
      · simp only at h; omega
      · exact h
  · rw [if_neg h0, h1.1]
    constructor
    · intro h; exact .inl h
    · rintro (h | ⟨e, _⟩)
      · exact h
      · exact absurd (h1.2.2 e) h0

theorem swoE : SWO (ltOf cmpE) where
  irrefl x := by rw [ltE_iff]; simpa using ordK.irr _
  trans x y z h1 h2 := by
    rw [ltE_iff, decide_eq_true_eq] at *
    exact ordK.trans h1 h2
  ntrans x y z h1 h2 := by
    rw [ltE_iff, decide_eq_false_iff_not] at *
    intro h3
    rcases ordK.tri (keyE x) (keyE y) with e | e | e
    · rw [e] at h3; exact h2 h3
    · exact h1 e
    · rcases ordK.tri (keyE y) (keyE z) with e' | e' | e'
      · rw [e'] at e; exact ordK.irr _ (ordK.trans e h3)
      · exact h2 e'
      · exact ordK.irr _ (ordK.trans (ordK.trans e' e) h3)

instance : Inhabited Ent := ⟨(0, ByteArray.mk #[], 0)⟩

/-- the entries in order -/
theorem Sort9_spec {h : Heap} {R : List Asn} {s : Slc} {es : List Ent} (hs : sat h (ownS encE 3 s es :: R)) (hl : es.length ≤ 100000) {Q : Value → Heap → Prop}
    (hq : ∀ (ys : List Ent) h', ys.Perm es → ys.Pairwise (fun a b => ¬ ltK (keyE b) (keyE a)) → sat h' (ownS encE 3 s ys :: R) → Q (.tuple #[]) h') :
    HCalls Tryz.prog 22 #[.slice s.a s.len s.cap, .func (.func 23) #[] #[]] h Q :=
  sort_own eE_len (by decide) eE_cell sortE9 Tryz.isAgg41 Tryz.sizeOf41 cmpE swoE 23 (enters_of Tryz.func23 (by kernel_rfl) rfl) (fun x y W => order9 x y W) hs (by omega) fun ys h' hp hpw hs' =>
    hq ys h' hp (hpw.imp fun {a b} hab => by rw [ltE_iff, decide_eq_false_iff_not] at hab; exact hab) hs'

end Go.Proofs.YtnpgpijkofbknaaGreatDoor
