/-
  Cnum: contracts: numbers and data as bytes (the program, the document).
-/
import Derived.Test.YtfhalebbcbgbdaaGreatDoorLnum
import Derived.Test.YtfhalebbcbgbdaaGreatDoorCtpm
import Derived.Test.YtfhalebbcbgbdaaGreatDoorHv
import Derived.Test.YtfhalebbcbgbdaaGreatDoorSh
namespace Go.Proofs.YtfhalebbcbgbdaaGreatDoor
open Go.H Go.Proofs Go.Lib
set_option linter.unusedSimpArgs false
set_option linter.unusedVariables false
set_option synthInstance.maxSize 100000
set_option synthInstance.maxHeartbeats 400000
set_option maxRecDepth 100000

abbrev eU (n : Int) : List Value := [.int .u8 n]
theorem eU_len : ∀ x : Int, (eU x).length = 1 := fun _ => rfl
theorem eU_cell : ∀ x : Int, ∀ v ∈ eU x, v.oneCell' = true := fun x v hv => by rw [List.mem_singleton.1 hv]; rfl
theorem eU_flat : ∀ xs : List Int, xs.flatMap eU = xs.map (Value.int .u8)
  | [] => rfl
  | x :: xs => by rw [List.flatMap_cons, eU_flat xs]; rfl

variable {h h0 : Heap} {R : List Asn}

def wideW (w : Nat) : Prop := w = 1 ∨ w = 2 ∨ w = 4

theorem pow_w {w : Nat} (hw : wideW w) : IntKind.wrap .i64 (1 * 2 ^ (min (Int.toNat (IntKind.wrap .i64 (8 * (w : Int)))) (IntKind.bits .i64))) = ((256 ^ w : Nat) : Int) := by
  rcases hw with rfl | rfl | rfl <;> decide
theorem req_w {w : Nat} (hw : wideW w) : 0 ≤ IntKind.wrap .i64 (8 * (w : Int)) := by
  rcases hw with rfl | rfl | rfl <;> decide
theorem w_le {w : Nat} (hw : wideW w) : 1 ≤ w ∧ w ≤ 4 := by
  rcases hw with rfl | rfl | rfl <;> decide
theorem pow_le {w : Nat} (hw : wideW w) : 256 ^ w ≤ 4294967296 := by
  rcases hw with rfl | rfl | rfl <;> decide

theorem wrap_u8 (n : Nat) : IntKind.wrap .u8 (n : Int) = ((n % 256 : Nat) : Int) := by
  simp [IntKind.wrap, IntKind.bits, IntKind.signed]

theorem byte_at {n g : Nat} (hg : g ≤ 3) : IntKind.wrap .u8 (Int.fdiv (n : Int) (2 ^ (min (Int.toNat (IntKind.wrap .i64 (8 * (g : Int)))) (IntKind.bits .i64)))) = ((n / 256 ^ g % 256 : Nat) : Int) := by
  rw [wrap_id (by omega) (by omega)]
  have e1 : min (Int.toNat (8 * (g : Int))) (IntKind.bits .i64) = 8 * g := by
    show min _ 64 = _
    omega
  rw [e1]
  have e2 : ((2 : Int) ^ (8 * g)) = ((256 ^ g : Nat) : Int) := by
    rw [Int.natCast_pow, Int.pow_mul]
    rfl
  rw [e2, Int.fdiv_eq_ediv_of_nonneg _ (Int.natCast_nonneg _), ← Int.natCast_ediv, wrap_u8]

theorem wide_spec {w : Nat} (hw : wideW w) {Q : Value → Heap → Prop} (hq : Q (.bool true) h) : HCalls Tryz.prog 127 #[.int .i64 w] h Q := by
  refine varint_wide_calls w h Q ?_
  unfold varint_wide
  refine bind_cut (fun z h' => h' = h ∧ z.1 = true) ?_ ?_
  · rcases hw with rfl | rfl | rfl
    · (try dsimp only); rw [HM.ite_apply, if_pos (by rfl)]; exact ⟨rfl, rfl⟩
    · (try dsimp only); rw [HM.ite_apply, if_neg (by decide)]
      (try dsimp only); rw [HM.ite_apply, if_pos (by rfl)]; exact ⟨rfl, rfl⟩
    · (try dsimp only); rw [HM.ite_apply, if_neg (by decide)]
      (try dsimp only); rw [HM.ite_apply, if_neg (by decide)]; exact ⟨rfl, rfl⟩
  rintro ⟨z, ⟨⟩⟩ h1 ⟨rfl, hz⟩
  simp only at hz
  subst hz
  exact hq

theorem strOf_own {sl : Slc} {xs : List Int} (hs : sat h (ownS eU 1 sl xs :: R)) {Q : ByteArray → Heap → Prop} (hq : Q (bytesOfInts xs) h) : HM.strOf sl h Q := by
  refine ⟨xs, ?_, hq⟩
  have := row_reads eU_len (hs.own_row eU_len) (by decide)
  rw [Nat.mul_one, eU_flat] at this
  exact this

theorem Fixed_spec (hs : sat h R) {w n : Nat} (hw : wideW w) (hn : n < 256 ^ w) {Q : Value → Heap → Prop} (hq : ∀ h', sat h' R → Q (.tuple #[.string (fixB w n), .int .u8 0]) h') :
    HCalls Tryz.prog 88 #[.int .i64 w, .int .i64 n] h Q := by
  refine varint_Fixed_calls w n h Q ?_
  unfold varint_Fixed
  have hwl := w_le hw
  refine bind_call1 (wide_spec hw ⟨true, rfl, ?_⟩)
  (try dsimp only); rw [HM.ite_apply, if_neg (by simp)]
  refine bind_cut (fun z h' => h' = h ∧ z.1 = false) ?_ ?_
  · (try dsimp only); rw [HM.ite_apply, if_neg (by simp)]
    refine ⟨req_w hw, rfl, ?_⟩
    rw [pow_w hw]
    simp only [decide_eq_false_iff_not]
    omega
  rintro ⟨z, ⟨⟩⟩ h1 ⟨rfl, hz⟩
  simp only at hz
  subst hz
  (try dsimp only); rw [HM.ite_apply, if_neg (by simp)]
  (try dsimp only); rw [HM.bind_apply]
  refine loop_gx (γ := Nat) (fun g c h' => c.2.1 = (g : Int) - 1 ∧ g ≤ w ∧ ∃ xs : List Int, xs ++ beT g n = beT w n ∧ sat h' (ownS eU 1 c.1 xs :: R)) (fun g => g) w
    ⟨by simp only; exact wrap_id (by omega) (by omega), Nat.le_refl _, [], rfl, ownS_nil hs⟩ ?_
  rintro g ⟨out, c, ⟨⟩⟩ h2 ⟨hc, hg, xs, hx, hs2⟩
  simp only at hc hs2
  subst hc
  (try dsimp only); rw [HM.ite_apply]
  cases g with
  | succ g =>
    rw [if_pos (by simp only [decide_eq_true_eq]; omega)]
    have e : ((g + 1 : Nat) : Int) - 1 = (g : Int) := by omega
    rw [e]
    refine ⟨by rw [wrap_id (by omega) (by omega)]; omega, ?_⟩
    rw [byte_at (by omega)]
    have hxl : xs.length ≤ 4 := by
      have := congrArg List.length hx
      rw [List.length_append, beT_len, beT_len] at this
      omega
    refine app_new (x := ((n / 256 ^ g % 256 : Nat) : Int)) eU_len eU_cell rfl hs2 (by decide) (by decide) (by omega) fun s' h3 hs3 => ?_
    simp only [Sum.elim_inl, Sum.elim_inr, HM.pure_apply]
    exact .mk g (by omega) ⟨by simp only; rw [wrap_id (by omega) (by omega)], by omega, _, by rw [List.append_assoc, ← hx]; rfl, hs3⟩
  | zero =>
    rw [if_neg (by simp)]
    simp only [Sum.elim_inl, Sum.elim_inr, HM.pure_apply]
    rw [beT, List.append_nil] at hx
    subst hx
    (try dsimp only); rw [HM.bind_apply]
    refine strOf_own hs2 ?_
    exact hq _ hs2.drop

theorem most_spec {w : Nat} (hw : wideW w) {Q : Value → Heap → Prop} (hq : Q (.int .i64 ((256 ^ w : Nat) : Int)) h) : HCalls Tryz.prog 139 #[.int .i64 w] h Q := by
  refine ref01_most_calls w h Q ?_
  unfold ref01_most
  rcases hw with rfl | rfl | rfl
  · (try dsimp only); rw [HM.ite_apply, if_pos (by rfl)]; exact hq
  · (try dsimp only); rw [HM.ite_apply, if_neg (by decide)]
    (try dsimp only); rw [HM.ite_apply, if_pos (by rfl)]; exact hq
  · (try dsimp only); rw [HM.ite_apply, if_neg (by decide)]
    (try dsimp only); rw [HM.ite_apply, if_neg (by decide)]
    (try dsimp only); rw [HM.ite_apply, if_pos (by rfl)]; exact hq

theorem rFixed_spec (hs : sat h R) {w n : Nat} (hw : wideW w) (hn : n < 256 ^ w) {Q : Value → Heap → Prop} (hq : ∀ h', sat h' R → Q (.tuple #[.string (fixB w n), .int .i64 0]) h') :
    HCalls Tryz.prog 93 #[.int .i64 w, .int .i64 n] h Q := by
  refine ref01_Fixed_calls w n h Q ?_
  unfold ref01_Fixed
  have hwl := w_le hw
  have hpl := pow_le hw
  have hp0 : 0 < 256 ^ w := Nat.pow_pos (by decide)
  refine bind_call1 (most_spec hw ⟨_, rfl, ?_⟩)
  generalize hP : 256 ^ w = P at hn hpl hp0
  (try dsimp only); rw [HM.ite_apply, if_neg (by simp; omega)]
  refine bind_cut (fun z h' => h' = h ∧ z.1 = false) ?_ ?_
  · (try dsimp only); rw [HM.ite_apply, if_neg (by simp)]
    refine ⟨rfl, ?_⟩
    simp only [decide_eq_false_iff_not]
    omega
  rintro ⟨z, ⟨⟩⟩ h1 ⟨rfl, hz⟩
  simp only at hz
  subst hz
  (try dsimp only); rw [HM.ite_apply, if_neg (by simp)]
  (try dsimp only); rw [HM.bind_apply]
  refine loop_gx (γ := Nat) (fun g c h' => g ≤ w ∧ c.1 = fixB (w - g) n ∧ c.2.1 = ((n / 256 ^ (w - g) : Nat) : Int) ∧ c.2.2.1 = ((w - g : Nat) : Int) ∧ sat h' R) (fun g => g) w
    ⟨Nat.le_refl _, by rw [Nat.sub_self]; rfl, by simp, by simp, hs⟩ ?_
  rintro g ⟨t, m, c, ⟨⟩⟩ h2 ⟨hg, ht, hm, hc, hs2⟩
  simp only at ht hm hc
  subst ht hm hc
  (try dsimp only); rw [HM.ite_apply]
  by_cases hi : w - g < w
  · rw [if_pos (by simp only [decide_eq_true_eq]; omega)]
    refine ⟨by decide, ?_⟩
    have hdl : n / 256 ^ (w - g) ≤ n := Nat.div_le_self _ _
    have e1 : IntKind.wrap .u8 (Int.tmod (((n / 256 ^ (w - g) : Nat)) : Int) 256) = ((n / 256 ^ (w - g) % 256 : Nat) : Int) := by
      rw [Int.tmod_eq_emod_of_nonneg (Int.natCast_nonneg _), show (256 : Int) = ((256 : Nat) : Int) from rfl, ← Int.natCast_emod, wrap_u8, Nat.mod_mod]
    have e2 : IntKind.wrap .i64 (Int.tdiv (((n / 256 ^ (w - g) : Nat)) : Int) 256) = ((n / 256 ^ (w - (g - 1)) : Nat) : Int) := by
      rw [Int.tdiv_eq_ediv_of_nonneg (Int.natCast_nonneg _), show (256 : Int) = ((256 : Nat) : Int) from rfl, ← Int.natCast_ediv]
      have h3 : n / 256 ^ (w - g) / 256 ≤ n / 256 ^ (w - g) := Nat.div_le_self _ _
      rw [wrap_id (by omega) (by omega), Nat.div_div_eq_div_mul, show 256 ^ (w - g) * 256 = 256 ^ (w - (g - 1)) from by rw [← Nat.pow_succ]; congr 1; omega]
    rw [e1, e2]
    refine new_cells hs2 fun b h3 hs3 => ?_
    have hs4 := own_flat' (enc := eU) (xs := [((n / 256 ^ (w - g) % 256 : Nat) : Int)]) eU_len rfl hs3
    (try dsimp only); rw [HM.bind_apply]
    refine strOf_own hs4 ?_
    refine ⟨?_, by decide, ?_⟩
    · rw [ints_size, fixB_size]
      simp only [List.length_cons, List.length_nil]
      omega
    simp only [Sum.elim_inl, Sum.elim_inr, HM.pure_apply]
    refine .mk (g - 1) (by omega) ⟨by omega, ?_, rfl, by simp only; rw [wrap_id (by omega) (by omega)]; omega, hs3.drop⟩
    simp only
    unfold fixB
    rw [ints_append, show w - (g - 1) = w - g + 1 by omega]
    rfl
  · rw [if_neg (by simp only [decide_eq_true_eq]; omega)]
    simp only [Sum.elim_inl, Sum.elim_inr, HM.pure_apply]
    have hg0 : w - g = w := by omega
    rw [hg0]
    exact hq _ hs2
where
  own_flat' {α : Type} {enc : α → List Value} {size : Nat} {h : Heap} {R : List Asn} (henc : ∀ x, (enc x).length = size) {b : Nat} {xs : List α} {cs : Array Value} (he : cs = (xs.flatMap enc).toArray) (hs : sat h (cells b cs :: R)) :
    sat h (ownS enc size ⟨some ⟨b, 0, none⟩, xs.length, xs.length⟩ xs :: R) := by
    subst he
    refine ownS_mk (o := 0) ⟨by simp, Nat.le_refl _, rfl, by simp [flat_len henc], ?_⟩ hs
    simp only [Nat.zero_mul, List.drop_zero, List.toList_toArray]
    rw [List.take_of_length_le (by rw [flat_len henc]; exact Nat.le_refl _)]

def fixV (k : IntKind) (w at' : Nat) : Option Nat → Value
  | some n => .tuple #[.int .i64 (n : Int), .int .i64 ((at' + w : Nat) : Int), .int k 0]
  | none => .tuple #[.int .i64 0, .int .i64 0, .int k 242]

theorem or_byte {a b : Nat} (ha : a < 16777216) (hb : b < 256) : bitOp .or .i64 (IntKind.wrap .i64 ((a : Int) * 2 ^ (min (Int.toNat 8) (IntKind.bits .i64)))) (IntKind.wrap .i64 (b : Int)) = ((a * 256 + b : Nat) : Int) := by
  have e0 : ((2 : Int) ^ (min (Int.toNat 8) (IntKind.bits .i64))) = 256 := by decide
  rw [e0, wrap_id (by omega) (by omega), wrap_id (by omega) (by omega)]
  show IntKind.wrap .i64 (((BitVec.ofInt 64 ((a : Int) * 256) ||| BitVec.ofInt 64 (b : Int)).toNat : Nat) : Int) = _
  have e1 : (a : Int) * 256 = ((a * 256 : Nat) : Int) := by omega
  rw [e1, BitVec.ofInt_natCast, BitVec.ofInt_natCast, BitVec.toNat_or, BitVec.toNat_ofNat, BitVec.toNat_ofNat, Nat.mod_eq_of_lt (by omega), Nat.mod_eq_of_lt (by omega)]
  have e2 := Nat.shiftLeft_add_eq_or_of_lt (i := 8) (b := b) (by omega) a
  rw [Nat.shiftLeft_eq] at e2
  rw [show a * 256 = a * 2 ^ 8 from rfl, ← e2, wrap_id (by omega) (by omega)]



theorem Data_spec (hs : sat h R) {s : ByteArray} (hsz : s.size ≤ 65535) {Q : Value → Heap → Prop} (hq : ∀ h', sat h' R → Q (.tuple #[.string (datB s), .int .u8 0]) h') : HCalls Tryz.prog 198 #[.string s] h Q := by
  refine varint_Data_calls s h Q ?_
  unfold varint_Data
  (try dsimp only); rw [HM.ite_apply, if_neg (by simp only [decide_eq_true_eq]; omega)]
  refine bind_callN (Fixed_spec (w := 2) hs (.inr (.inl rfl)) (by simpa using Nat.lt_succ_of_le hsz) fun h1 hs1 => ⟨(fixB 2 s.size, 0, ()), rfl, ?_⟩)
  refine ⟨by rw [fixB_size]; omega, ?_⟩
  exact hq _ hs1
theorem rData_spec (hs : sat h R) {s : ByteArray} (hsz : s.size ≤ 65535) {Q : Value → Heap → Prop} (hq : ∀ h', sat h' R → Q (.tuple #[.string (datB s), .int .i64 0]) h') : HCalls Tryz.prog 204 #[.string s] h Q := by
  refine ref01_Data_calls s h Q ?_
  unfold ref01_Data
  (try dsimp only); rw [HM.ite_apply, if_neg (by simp only [decide_eq_true_eq]; omega)]
  refine bind_callN (rFixed_spec (w := 2) hs (.inr (.inl rfl)) (by simpa using Nat.lt_succ_of_le hsz) fun h1 hs1 => ⟨(fixB 2 s.size, 0, ()), rfl, ?_⟩)
  refine ⟨by rw [fixB_size]; omega, ?_⟩
  exact hq _ hs1

def datV (k : IntKind) : Option (ByteArray × Nat) → Value
  | some p => .tuple #[.string p.1, .int .i64 (p.2 : Int), .int k 0]
  | none => .tuple #[.string (ByteArray.mk #[]), .int .i64 0, .int k 242]


end Go.Proofs.YtfhalebbcbgbdaaGreatDoor
