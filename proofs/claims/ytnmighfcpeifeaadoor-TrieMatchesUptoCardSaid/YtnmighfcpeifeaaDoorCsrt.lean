/-
  Csrt: contracts: the entries of a trie are sorted.
-/
import Derived.Test.YtnmighfcpeifeaaDoorLr09
import Derived.Test.YtnmighfcpeifeaaDoorKord
import Derived.Test.YtnmighfcpeifeaaDoorHsrt
namespace Go.Proofs.YtnmighfcpeifeaaDoor
open Go.H Go.Proofs Go.Shelf Go.Sort
set_option linter.unusedSimpArgs false
set_option linter.unusedVariables false
set_option maxRecDepth 100000

def sortE9_ren : Go.Shelf.Ren := ⟨fun n => match n with | 6 => 70 | 15 => 107 | 14 => 106 | 28 => 139 | 29 => 140 | 20 => 131 | 21 => 132 | 22 => 133 | 23 => 134 | 24 => 135 | 25 => 136 | 26 => 137 | 27 => 138 | 46 => 165 | 47 => 166 | 48 => 167 | 49 => 168 | 50 => 169 | 57 => 195 | n => n, fun n => match n with | 22 => 84 | 24 => 95 | 25 => 164 | 3 => 3 | 39 => 210 | 0 => 0 | 53 => 240 | 55 => 73 | 4 => 4 | 46 => 234 | 45 => 233 | 50 => 106 | 5 => 5 | 9 => 9 | 66 => 257 | 70 => 261 | 76 => 282 | 77 => 283 | n => n, fun n => n⟩
theorem sortE9 : SlLaysF0.n6 Tryd.prog sortE9_ren where
  mixed := by kernel_rfl
  f6 := ⟨Tryd.f70.name, by kernel_rfl, Tryd.func70.trans (congrArg some (by kernel_rfl))⟩
  f14 := ⟨Tryd.f106.name, by kernel_rfl, Tryd.func106.trans (congrArg some (by kernel_rfl))⟩
  f15 := Tryd.func107.trans (congrArg some (by kernel_rfl))
  f20 := ⟨Tryd.f131.name, by kernel_rfl, Tryd.func131.trans (congrArg some (by kernel_rfl))⟩
  f21 := ⟨Tryd.f132.name, by kernel_rfl, Tryd.func132.trans (congrArg some (by kernel_rfl))⟩
  f22 := ⟨Tryd.f133.name, by kernel_rfl, Tryd.func133.trans (congrArg some (by kernel_rfl))⟩
  f23 := ⟨Tryd.f134.name, by kernel_rfl, Tryd.func134.trans (congrArg some (by kernel_rfl))⟩
  f24 := ⟨Tryd.f135.name, by kernel_rfl, Tryd.func135.trans (congrArg some (by kernel_rfl))⟩
  f25 := ⟨Tryd.f136.name, by kernel_rfl, Tryd.func136.trans (congrArg some (by kernel_rfl))⟩
  f26 := ⟨Tryd.f137.name, by kernel_rfl, Tryd.func137.trans (congrArg some (by kernel_rfl))⟩
  f27 := ⟨Tryd.f138.name, by kernel_rfl, Tryd.func138.trans (congrArg some (by kernel_rfl))⟩
  f28 := Tryd.func139.trans (congrArg some (by kernel_rfl))
  f29 := Tryd.func140.trans (congrArg some (by kernel_rfl))
  f46 := ⟨Tryd.f165.name, by kernel_rfl, Tryd.func165.trans (congrArg some (by kernel_rfl))⟩
  f47 := Tryd.func166.trans (congrArg some (by kernel_rfl))
  f48 := Tryd.func167.trans (congrArg some (by kernel_rfl))
  f49 := ⟨Tryd.f168.name, by kernel_rfl, Tryd.func168.trans (congrArg some (by kernel_rfl))⟩
  f50 := ⟨Tryd.f169.name, by kernel_rfl, Tryd.func169.trans (congrArg some (by kernel_rfl))⟩
  f57 := ⟨Tryd.f195.name, by kernel_rfl, Tryd.func195.trans (congrArg some (by kernel_rfl))⟩
  t0 := Tryd.underlying0
  a0 := Tryd.isAgg0
  z0 := Tryd.sizeOf0
  v0 := Tryd.zeroValue0
  t3 := Tryd.underlying3
  a3 := Tryd.isAgg3
  z3 := Tryd.sizeOf3
  v3 := Tryd.zeroValue3
  t4 := Tryd.underlying4
  a4 := Tryd.isAgg4
  z4 := Tryd.sizeOf4
  v4 := Tryd.zeroValue4
  t5 := Tryd.underlying5
  a5 := Tryd.isAgg5
  z5 := Tryd.sizeOf5
  v5 := Tryd.zeroValue5
  t9 := Tryd.underlying9
  a9 := Tryd.isAgg9
  z9 := Tryd.sizeOf9
  v9 := Tryd.zeroValue9
  t22 := Tryd.underlying84
  a22 := Tryd.isAgg84
  z22 := Tryd.sizeOf84
  v22 := Tryd.zeroValue84
  t25 := Tryd.underlying164
  a25 := Tryd.isAgg164
  z25 := Tryd.sizeOf164
  v25 := Tryd.zeroValue164
  t39 := Tryd.underlying210
  a39 := Tryd.isAgg210
  z39 := Tryd.sizeOf210
  v39 := Tryd.zeroValue210
  t45 := Tryd.underlying233
  a45 := Tryd.isAgg233
  z45 := Tryd.sizeOf233
  v45 := Tryd.zeroValue233
  t46 := Tryd.underlying234
  a46 := Tryd.isAgg234
  z46 := Tryd.sizeOf234
  v46 := Tryd.zeroValue234
  t50 := Tryd.underlying106
  a50 := Tryd.isAgg106
  z50 := Tryd.sizeOf106
  v50 := Tryd.zeroValue106
  t53 := Tryd.underlying240
  a53 := Tryd.isAgg240
  z53 := Tryd.sizeOf240
  v53 := Tryd.zeroValue240
  t55 := Tryd.underlying73
  a55 := Tryd.isAgg73
  z55 := Tryd.sizeOf73
  v55 := Tryd.zeroValue73
  t66 := Tryd.underlying257
  a66 := Tryd.isAgg257
  z66 := Tryd.sizeOf257
  v66 := Tryd.zeroValue257
  t70 := Tryd.underlying261
  a70 := Tryd.isAgg261
  z70 := Tryd.sizeOf261
  v70 := Tryd.zeroValue261
  t76 := Tryd.underlying282
  a76 := Tryd.isAgg282
  z76 := Tryd.sizeOf282
  v76 := Tryd.zeroValue282
  t77 := Tryd.underlying283
  a77 := Tryd.isAgg283
  z77 := Tryd.sizeOf283
  v77 := Tryd.zeroValue283


theorem cmpInt_iff (a b : Int) : (Lib.compareInt a b < 0 ↔ a < b) ∧ (Lib.compareInt a b = 0 ↔ a = b) := by
  unfold Lib.compareInt
  by_cases h1 : a < b
  · rw [if_pos h1]; constructor <;> constructor <;> intro _ <;> omega
  · rw [if_neg h1]
    by_cases h2 : b < a
    · rw [if_pos h2]; constructor <;> constructor <;> intro _ <;> omega
    · rw [if_neg h2]; constructor <;> constructor <;> intro _ <;> omega

theorem cmpB_lt : ∀ (a b : List UInt8), Lib.compareBytes a b < 0 ↔ a < b
  | [], [] => by simp [Lib.compareBytes]
  | [], b :: l => by simp [Lib.compareBytes]
  | a :: l, [] => by simp [Lib.compareBytes]
  | a :: l, b :: m => by
    unfold Lib.compareBytes
    rw [List.cons_lt_cons_iff]
    by_cases h1 : a < b
    · simp [h1]
    · rw [if_neg h1]
      by_cases h2 : b < a
      · rw [if_pos h2]
        have : a ≠ b := fun e => by subst e; exact h1 h2
        simp [h1, this]
      · rw [if_neg h2]
        have e : a = b := by
          apply UInt8.toNat_inj.1
          have h3 : ¬ a.toNat < b.toNat := fun h => h1 (UInt8.lt_iff_toNat_lt.2 h)
          have h4 : ¬ b.toNat < a.toNat := fun h => h2 (UInt8.lt_iff_toNat_lt.2 h)
          omega
        rw [cmpB_lt l m]
        simp [h1, e]

theorem ltE_iff (x y : Ent) : ltOf cmpE x y = decide (ltK (keyE x) (keyE y)) := by
  unfold ltOf
  rw [decide_eq_decide]
  unfold cmpE ltK
  have h1 := cmpInt_iff x.1 y.1
  by_cases h0 : Lib.compareInt x.1 y.1 = 0
  · rw [if_pos h0, cmpB_lt]
    have e := h1.2.1 h0
    constructor
    · intro h; exact .inr ⟨e, h⟩
    · rintro (h | ⟨_, h⟩)
      · simp only at h; omega
      · exact h
  · rw [if_neg h0, h1.1]
    constructor
    · intro h; exact .inl h
    · rintro (h | ⟨e, _⟩)
      · exact h
      · exact absurd (h1.2.2 e) h0

theorem swoE : SWO (ltOf cmpE) where
  irrefl x := by rw [ltE_iff]; simpa using ordK.irr _
  trans x y z h1 h2 := by
    rw [ltE_iff, decide_eq_true_eq] at *
    exact ordK.trans h1 h2
  ntrans x y z h1 h2 := by
    rw [ltE_iff, decide_eq_false_iff_not] at *
    intro h3
    rcases ordK.tri (keyE x) (keyE y) with e | e | e
    · rw [e] at h3; exact h2 h3
    · exact h1 e
    · rcases ordK.tri (keyE y) (keyE z) with e' | e' | e'
      · rw [e'] at e; exact ordK.irr _ (ordK.trans e h3)
      · exact h2 e'
      · exact ordK.irr _ (ordK.trans (ordK.trans e' e) h3)

instance : Inhabited Ent := ⟨(0, ByteArray.mk #[], 0)⟩

/-- the entries in order -/
theorem Sort9_spec {h : Heap} {R : List Asn} {s : Slc} {es : List Ent} (hs : sat h (ownS encE 3 s es :: R)) (hl : es.length ≤ 100000) {Q : Value → Heap → Prop}
    (hq : ∀ (ys : List Ent) h', ys.Perm es → ys.Pairwise (fun a b => ¬ ltK (keyE b) (keyE a)) → sat h' (ownS encE 3 s ys :: R) → Q (.tuple #[]) h') :
    HCalls Tryd.prog 70 #[.slice s.a s.len s.cap, .func (.func 71) #[] #[]] h Q :=
  sort_own eE_len (by decide) eE_cell sortE9 Tryd.isAgg95 Tryd.sizeOf95 cmpE swoE 71 (enters_of Tryd.func71 (by kernel_rfl) rfl) (fun x y W => order9 x y W) hs (by omega) fun ys h' hp hpw hs' =>
    hq ys h' hp (hpw.imp fun {a b} hab => by rw [ltE_iff, decide_eq_false_iff_not] at hab; exact hab) hs'

end Go.Proofs.YtnmighfcpeifeaaDoor
