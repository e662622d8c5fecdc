/-
  Lpar: the plain law of labels as text: a good label's text is read back; what is read is its label's text.
-/
import Derived.Test.YtlgddhcbiioefaaDoorCtxt
import Derived.Lib.Split
import Derived.Lib.IndexBytes
import Derived.Lib.ParseIntB
namespace Go.Proofs.YtlgddhcbiioefaaDoor
open Go.H Go.Proofs Go.Lib
set_option linter.unusedSimpArgs false
set_option linter.unusedVariables false

/-! ### pieces -/

theorem index46 : ∀ (x r : List UInt8), 46 ∉ x → indexByte (x ++ 46 :: r) 46 = x.length
  | [], r, _ => by simp [indexByte]
  | b :: x, r, h => by
    simp only [List.mem_cons, not_or] at h
    have hb : (b == 46) = false := by simpa using fun e => h.1 e.symm
    have ih := index46 x r h.2
    simp only [List.cons_append, indexByte, hb, ih]
    have : ¬ (((x.length : Nat) : Int) == -1) = true := by simp
    simp only [Bool.false_eq_true, if_false, if_neg this, List.length_cons]
    omega
theorem index46_none : ∀ (x : List UInt8), 46 ∉ x → indexByte x 46 = -1
  | [], _ => rfl
  | b :: x, h => by
    simp only [List.mem_cons, not_or] at h
    have hb : (b == 46) = false := by simpa using fun e => h.1 e.symm
    simp [indexByte, hb, index46_none x h.2]

theorem hit46 (x r : List UInt8) (h : 46 ∉ x) : index (x ++ 46 :: r) [46] = x.length := by rw [index_one]; exact index46 x r h
theorem miss46 (x : List UInt8) (h : 46 ∉ x) : index x [46] = -1 := by rw [index_one]; exact index46_none x h

theorem split_hit (x r : List UInt8) (k : Nat) (h : 46 ∉ x) : splitK [46] 0 (k + 1) (x ++ 46 :: r) = x :: splitK [46] 0 k r := by
  have hi := hit46 x r h
  have hn : ¬ (index (x ++ 46 :: r) [46] == -1) = true := by rw [hi]; simp
  simp only [splitK, if_neg hn, hi]
  congr 1
  all_goals simp
theorem split_miss (x : List UInt8) (k : Nat) (h : 46 ∉ x) : splitK [46] 0 k x = [x] := by
  cases k with
  | zero => rfl
  | succ k => simp [splitK, miss46 x h]
theorem count_h (x r : List UInt8) (h : 46 ∉ x) : count (x ++ 46 :: r) [46] = 1 + count r [46] := by
  rw [count_hit (by simp) (hit46 x r h)]
  simp
theorem count_m (x : List UInt8) (h : 46 ∉ x) : count x [46] = 0 := count_miss (miss46 x h)

theorem split4 {a b c d : List UInt8} (ha : 46 ∉ a) (hb : 46 ∉ b) (hc : 46 ∉ c) (hd : 46 ∉ d) :
    splitK [46] 0 (count (join [a, b, c, d] [46]) [46]) (join [a, b, c, d] [46]) = [a, b, c, d] := by
  have e : join [a, b, c, d] [46] = a ++ 46 :: (b ++ 46 :: (c ++ 46 :: d)) := by simp [join_cons, joinTail]
  rw [e, count_h _ _ ha, count_h _ _ hb, count_h _ _ hc, count_m _ hd]
  rw [show 1 + (1 + (1 + 0)) = 0 + 1 + 1 + 1 from rfl, split_hit _ _ _ ha, split_hit _ _ _ hb, split_hit _ _ _ hc, split_miss _ _ hd]

def dot : ByteArray := ByteArray.mk #[46]
def pieces (s : ByteArray) : List ByteArray := splitB dot 0 (countB s dot) s

theorem bytes_inj {x y : ByteArray} (h : x.data.toList = y.data.toList) : x = y := by
  cases x; cases y
  simp at h
  rw [h]

theorem pieces_data (s : ByteArray) : (pieces s).map (·.data.toList) = splitK [46] 0 (count s.data.toList [46]) s.data.toList := by
  unfold pieces
  rw [splitB_data]
  rfl

theorem pieces_join {a b c d : ByteArray} (ha : 46 ∉ a.data.toList) (hb : 46 ∉ b.data.toList) (hc : 46 ∉ c.data.toList) (hd : 46 ∉ d.data.toList) :
    pieces ⟨(join [a.data.toList, b.data.toList, c.data.toList, d.data.toList] [46]).toArray⟩ = [a, b, c, d] := by
  have h := pieces_data ⟨(join [a.data.toList, b.data.toList, c.data.toList, d.data.toList] [46]).toArray⟩
  rw [show (ByteArray.mk (join [a.data.toList, b.data.toList, c.data.toList, d.data.toList] [46]).toArray).data.toList = join [a.data.toList, b.data.toList, c.data.toList, d.data.toList] [46] from by simp, split4 ha hb hc hd] at h
  generalize pieces _ = l at h
  match l, h with
  | [x, y, z, u], h =>
    simp only [List.map_cons, List.map_nil, List.cons.injEq, and_true] at h
    rw [bytes_inj h.1, bytes_inj h.2.1, bytes_inj h.2.2.1, bytes_inj h.2.2.2]
  | [], h => simp at h
  | [_], h => simp at h
  | [_, _], h => simp at h
  | [_, _, _], h => simp at h
  | _ :: _ :: _ :: _ :: _ :: _, h => simp at h

/-! ### digits -/

theorem digit_of {u : Nat} (h : u < 10) : (UInt8.ofNat (48 + u)).toNat = 48 + u := by
  rw [UInt8.toNat_ofNat']
  omega

theorem dec_digits : ∀ (n : Nat), ∀ x ∈ decDigits n, 48 ≤ x.toNat ∧ x.toNat ≤ 57 := by
  intro n
  induction n using Nat.strongRecOn with
  | _ n ih =>
    intro x hx
    rw [decDigits] at hx
    split at hx
    · rename_i h
      rw [List.mem_singleton.1 hx, digit_of h]
      omega
    · rename_i h
      rcases List.mem_append.1 hx with hx | hx
      · exact ih (n / 10) (by omega) x hx
      · rw [List.mem_singleton.1 hx, digit_of (Nat.mod_lt _ (by decide))]
        omega
theorem dec_no46 (n : Nat) : 46 ∉ decDigits n := fun h => by
  have := dec_digits n 46 h
  exact absurd this.1 (by decide)
theorem dec_ne (n : Nat) : decDigits n ≠ [] := by
  rw [decDigits]
  split <;> simp

theorem dec_len : ∀ (k n : Nat), n < 10 ^ (k + 1) → (decDigits n).length ≤ k + 1
  | 0, n, h => by
    rw [decDigits, dif_pos (by simpa using h)]
    simp
  | k + 1, n, h => by
    rw [decDigits]
    split
    · simp
    · rw [Nat.pow_succ] at h
      have := dec_len k (n / 10) (by omega)
      simp
      omega

theorem parse_more (M : Nat) : ∀ (l r : List UInt8) (acc v : Nat), parseUintM M acc l = .ok v → parseUintM M acc (l ++ r) = parseUintM M v r
  | [], r, acc, v, h => by
    simp only [parseUintM, NumEnd.ok.injEq] at h
    rw [h]; rfl
  | c :: l, r, acc, v, h => by
    simp only [parseUintM] at h
    simp only [List.cons_append, parseUintM]
    split at h
    · rename_i h1
      rw [if_pos h1]
      split at h
      · cases h
      · rename_i h2
        rw [if_neg h2]
        split at h
        · cases h
        · rename_i h3
          rw [if_neg h3]
          exact parse_more M l r _ v h
    · cases h

theorem parse_dec {M : Nat} (hM : M ≤ 18446744073709551615) : ∀ (n : Nat), n ≤ M → parseUintM M 0 (decDigits n) = .ok n := by
  intro n
  induction n using Nat.strongRecOn with
  | _ n ih =>
    intro hn
    rw [decDigits]
    split
    · rename_i h
      have hd := digit_of h
      simp only [parseUintM, hd]
      rw [if_pos (by omega), if_neg (by omega), if_neg (by omega)]
      congr 1
      omega
    · rename_i h
      have hd := digit_of (Nat.mod_lt n (show 0 < 10 by decide))
      rw [parse_more M _ _ _ _ (ih (n / 10) (by omega) (by omega))]
      simp only [parseUintM, hd]
      rw [if_pos (by omega), if_neg (by omega), if_neg (by omega)]
      congr 1
      omega

theorem parseInt_dec {n : Nat} (hn : n < 9223372036854775808) : parseIntB 64 (decDigits n) = .ok (n : Int) := by
  have hne := dec_ne n
  have hp : parseUintB 64 (decDigits n) = .ok n := by
    unfold parseUintB
    rw [if_neg hne]
    exact parse_dec (by decide) n (by omega)
  have hd := dec_digits n
  generalize decDigits n = l at hne hp hd
  cases l with
  | nil => exact absurd rfl hne
  | cons c r =>
    have hc := hd c (List.mem_cons_self ..)
    have h1 : ¬ (c.toNat = 43 ∨ c.toNat = 45) := by omega
    have h2 : ¬ c.toNat = 45 := by omega
    have h43 : ¬ c.toNat = 43 := by omega
    have h9 : ¬ 9223372036854775808 ≤ n := by omega
    simp [parseIntB, h43, h2, hp, h9]

/-! ### what is read -/

/-- the number that a piece is read as, whatever error comes with it -/
def pv (s : ByteArray) : Int := match parseIntB 64 s.data.toList with
  | .ok v => v
  | .range => intSat 64 s.data.toList
  | _ => 0

theorem pv_dec {n : Nat} (hn : n < 9223372036854775808) : pv (decS n) = n := by
  unfold pv
  rw [show (decS n).data.toList = decDigits n from by simp, parseInt_dec hn]

def labelText (a b c d : Int) : ByteArray := if goodLabel a b c d then textOf a.toNat (decS b.toNat) c.toNat d.toNat else ByteArray.mk #[]

abbrev LabT := Int × Int × Int × Int

def parseR (s : ByteArray) : Option LabT := match pieces s with
  | [x, y, z, u] => if goodLabel (pv x) (pv y) (pv z) (pv u) ∧ labelText (pv x) (pv y) (pv z) (pv u) = s then some (pv x, pv y, pv z, pv u) else none
  | _ => none

theorem parse_back {s : ByteArray} {l : LabT} (h : parseR s = some l) : goodLabel l.1 l.2.1 l.2.2.1 l.2.2.2 ∧ labelText l.1 l.2.1 l.2.2.1 l.2.2.2 = s := by
  unfold parseR at h
  split at h
  · split at h
    · rename_i hh
      cases h
      exact hh
    · cases h
  · cases h

theorem parse_text {a b c d : Int} (hg : goodLabel a b c d) : parseR (labelText a b c d) = some (a, b, c, d) := by
  have hp : pieces (labelText a b c d) = [decS a.toNat, decS b.toNat, decS c.toNat, decS d.toNat] := by
    unfold labelText
    rw [if_pos hg]
    unfold textOf
    exact pieces_join (by simpa using dec_no46 _) (by simpa using dec_no46 _) (by simpa using dec_no46 _) (by simpa using dec_no46 _)
  obtain ⟨⟨ha0, ha1, hb0, hb1⟩, hc0, hc1, hd0, hd1⟩ := id hg
  simp only at ha0 ha1 hb0 hb1
  have ea : pv (decS a.toNat) = a := by rw [pv_dec (by omega)]; omega
  have eb : pv (decS b.toNat) = b := by rw [pv_dec (by omega)]; omega
  have ec : pv (decS c.toNat) = c := by rw [pv_dec (by omega)]; omega
  have ed : pv (decS d.toNat) = d := by rw [pv_dec (by omega)]; omega
  unfold parseR
  rw [hp]
  simp only [ea, eb, ec, ed]
  rw [if_pos ⟨hg, trivial⟩]

theorem parse_empty : parseR (ByteArray.mk #[]) = none := by
  have h := pieces_data (ByteArray.mk #[])
  have e : splitK [46] 0 (count (ByteArray.mk #[]).data.toList [46]) (ByteArray.mk #[]).data.toList = [[]] := split_miss [] _ (by simp)
  rw [e] at h
  unfold parseR
  generalize pieces (ByteArray.mk #[]) = l at h
  match l, h with
  | [x], _ => rfl
  | [], h => simp at h
  | _ :: _ :: _, h => simp at h

theorem text_size {a b c d : Int} (hg : goodLabel a b c d) : (labelText a b c d).size ≤ 100 := by
  unfold labelText
  rw [if_pos hg]
  obtain ⟨⟨ha0, ha1, hb0, hb1⟩, hc0, hc1, hd0, hd1⟩ := id hg
  simp only at ha0 ha1 hb0 hb1
  have l1 := dec_len 19 a.toNat (by omega)
  have l2 := dec_len 19 b.toNat (by omega)
  have l3 := dec_len 19 c.toNat (by omega)
  have l4 := dec_len 19 d.toNat (by omega)
  show (List.toArray _).size ≤ 100
  simp [join_cons, joinTail]
  omega
theorem text_ne {a b c d : Int} (hg : goodLabel a b c d) : labelText a b c d ≠ ByteArray.mk #[] := fun h => by
  have h1 := parse_text hg
  rw [h, parse_empty] at h1
  cases h1

end Go.Proofs.YtlgddhcbiioefaaDoor
