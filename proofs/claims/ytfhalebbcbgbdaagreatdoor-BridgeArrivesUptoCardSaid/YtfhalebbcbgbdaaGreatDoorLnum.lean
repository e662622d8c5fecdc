/-
  Lnum: the plain law of numbers as bytes.
-/
import Derived.Test.YtfhalebbcbgbdaaGreatDoorLtop
namespace Go.Proofs.YtfhalebbcbgbdaaGreatDoor
open Go.H Go.Proofs Go.Lib
set_option linter.unusedSimpArgs false
set_option linter.unusedVariables false

/-- a number's last w bytes, the highest first -/
def beT : Nat → Nat → List Int
  | 0, _ => []
  | w + 1, n => ((n / 256 ^ w % 256 : Nat) : Int) :: beT w n

theorem beT_len : ∀ (w n : Nat), (beT w n).length = w
  | 0, _ => rfl
  | w + 1, n => by rw [beT, List.length_cons, beT_len w n]
theorem beT_byte : ∀ (w n : Nat), ∀ x ∈ beT w n, 0 ≤ x ∧ x < 256
  | 0, _, _, h => by simp [beT] at h
  | w + 1, n, x, h => by
    rw [beT] at h
    rcases List.mem_cons.1 h with rfl | h
    · omega
    · exact beT_byte w n x h

theorem ints_data (ns : List Int) : (bytesOfInts ns).data.toList = ns.map fun n => UInt8.ofNat n.toNat := by
  unfold bytesOfInts
  have : ∀ (ns : List Int) (r : ByteArray), (ns.foldl (fun r n => r.push (UInt8.ofNat n.toNat)) r).data.toList = r.data.toList ++ ns.map fun n => UInt8.ofNat n.toNat := by
    intro ns
    induction ns with
    | nil => intro r; simp
    | cons n ns ih => intro r; rw [List.foldl_cons, ih]; simp
  rw [this]
  rfl
theorem ints_size (ns : List Int) : (bytesOfInts ns).size = ns.length := by
  have := congrArg List.length (ints_data ns)
  rw [Array.length_toList, List.length_map] at this
  exact this
theorem ints_append (a b : List Int) : bytesOfInts a ++ bytesOfInts b = bytesOfInts (a ++ b) := by
  refine data_inj ?_
  simp only [ByteArray.data_append, Array.toList_append, ints_data, List.map_append]

def fixB (w n : Nat) : ByteArray := bytesOfInts (beT w n)
theorem fixB_size (w n : Nat) : (fixB w n).size = w := by unfold fixB; rw [ints_size, beT_len]

/-- the number that bytes are -/
def valL (l : List UInt8) : Nat := l.foldl (fun a b => a * 256 + b.toNat) 0
theorem valL_go : ∀ (l : List UInt8) (a : Nat), l.foldl (fun a b => a * 256 + b.toNat) a = a * 256 ^ l.length + valL l
  | [], a => by simp [valL]
  | b :: l, a => by
    unfold valL
    rw [List.foldl_cons, valL_go l, List.foldl_cons, valL_go l (0 * 256 + b.toNat), List.length_cons, Nat.pow_succ]
    rw [Nat.add_mul, Nat.zero_mul, Nat.zero_add, Nat.mul_assoc, Nat.mul_comm 256, Nat.add_assoc]
theorem valL_snoc (l : List UInt8) (b : UInt8) : valL (l ++ [b]) = valL l * 256 + b.toNat := by
  unfold valL
  rw [List.foldl_append]
  rfl
theorem valL_lt : ∀ l : List UInt8, valL l < 256 ^ l.length
  | [] => by simp [valL]
  | b :: l => by
    have h1 := valL_lt l
    have h2 := UInt8.toNat_lt b
    have : valL (b :: l) = b.toNat * 256 ^ l.length + valL l := by
      show List.foldl _ (0 * 256 + b.toNat) l = _
      rw [valL_go l, Nat.zero_mul, Nat.zero_add]
    rw [this, List.length_cons, Nat.pow_succ]
    calc b.toNat * 256 ^ l.length + valL l < b.toNat * 256 ^ l.length + 256 ^ l.length := by omega
      _ = (b.toNat + 1) * 256 ^ l.length := by rw [Nat.add_mul, Nat.one_mul]
      _ ≤ 256 * 256 ^ l.length := Nat.mul_le_mul_right _ (by omega)
      _ = 256 ^ l.length * 256 := Nat.mul_comm _ _

theorem valL_be : ∀ (w n : Nat), valL ((beT w n).map fun n => UInt8.ofNat n.toNat) = n % 256 ^ w
  | 0, n => by simp [beT, valL, Nat.mod_one]
  | w + 1, n => by
    have ih := valL_be w n
    rw [beT, List.map_cons]
    show List.foldl _ (0 * 256 + (UInt8.ofNat (((n / 256 ^ w % 256 : Nat) : Int)).toNat).toNat) _ = _
    rw [valL_go, ih, List.length_map, beT_len]
    have e : (UInt8.ofNat (((n / 256 ^ w % 256 : Nat) : Int)).toNat).toNat = n / 256 ^ w % 256 := by
      rw [Int.toNat_natCast, UInt8.toNat_ofNat']
      omega
    rw [e, Nat.zero_mul, Nat.zero_add, Nat.pow_succ, Nat.mod_mul]
    rw [Nat.mul_comm, Nat.add_comm]

/-- the bytes of a text from a place on -/
def cutL (s : ByteArray) (at' w : Nat) : List UInt8 := (s.data.toList.drop at').take w

def getFix (s : ByteArray) (at' w : Nat) : Option Nat := if at' + w ≤ s.size then some (valL (cutL s at' w)) else none

theorem cutL_len {s : ByteArray} {at' w : Nat} (h : at' + w ≤ s.size) : (cutL s at' w).length = w := by
  unfold cutL
  rw [List.length_take, List.length_drop, Array.length_toList]
  have : s.data.size = s.size := rfl
  omega
theorem getFix_lt {s : ByteArray} {at' w n : Nat} (h : getFix s at' w = some n) : n < 256 ^ w ∧ at' + w ≤ s.size := by
  unfold getFix at h
  split at h
  · rename_i hle
    cases h
    have := valL_lt (cutL s at' w)
    rw [cutL_len hle] at this
    exact ⟨this, hle⟩
  · cases h

theorem drop_byte' {s : ByteArray} {i : Nat} (hi : i < s.size) : s.data.toList.drop i = s.get! i :: s.data.toList.drop (i + 1) := by
  have h1 : i < s.data.toList.length := by rw [Array.length_toList]; exact hi
  rw [List.drop_eq_getElem_cons h1]
  congr 1
  have h2 : i < s.data.size := hi
  show s.data.toList[i] = s.data[i]!
  rw [getElem!_pos s.data i h2]
  simp
theorem cutL_snoc {s : ByteArray} {at' i : Nat} (h : at' + i < s.size) : cutL s at' (i + 1) = cutL s at' i ++ [s.get! (at' + i)] := by
  unfold cutL
  have h1 : at' + i < s.data.toList.length := by rw [Array.length_toList]; exact h
  rw [List.take_add_one]
  congr 1
  rw [List.getElem?_drop, List.getElem?_eq_getElem h1]
  have h2 : at' + i < s.data.size := h
  have : s.data.toList[at' + i] = s.get! (at' + i) := by
    show s.data.toList[at' + i] = s.data[at' + i]!
    rw [getElem!_pos s.data _ h2]
    simp
  rw [this]
  rfl

def datB (s : ByteArray) : ByteArray := fixB 2 s.size ++ s
def getDat (s : ByteArray) (at' : Nat) : Option (ByteArray × Nat) :=
  match getFix s at' 2 with
  | none => none
  | some n => if at' + 2 + n ≤ s.size then some (s.extract (at' + 2) (at' + 2 + n), at' + 2 + n) else none

end Go.Proofs.YtfhalebbcbgbdaaGreatDoor
