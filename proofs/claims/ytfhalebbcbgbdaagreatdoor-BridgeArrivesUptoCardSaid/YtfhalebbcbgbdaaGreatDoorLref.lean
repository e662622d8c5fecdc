/-
  Lref: the plain law of the document's reading of labels: it reads just the labels' texts.
-/
import Derived.Test.YtfhalebbcbgbdaaGreatDoorLpar
namespace Go.Proofs.YtfhalebbcbgbdaaGreatDoor
open Go.H Go.Proofs Go.Lib
set_option linter.unusedSimpArgs false
set_option linter.unusedVariables false

def isDig (c : UInt8) : Bool := decide (48 ≤ c.toNat ∧ c.toNat ≤ 57)
def valD (acc : Nat) (d : List UInt8) : Nat := d.foldl (fun n c => 10 * n + (c.toNat - 48)) acc

theorem valD_snoc (acc : Nat) (d : List UInt8) (c : UInt8) : valD acc (d ++ [c]) = 10 * valD acc d + (c.toNat - 48) := by simp [valD]
theorem valD_lt : ∀ (d : List UInt8) (acc k : Nat), acc < 10 ^ k → (∀ c ∈ d, isDig c = true) → valD acc d < 10 ^ (k + d.length)
  | [], acc, k, h, _ => by simpa [valD] using h
  | c :: d, acc, k, h, hd => by
    have hc : 48 ≤ c.toNat ∧ c.toNat ≤ 57 := by simpa [isDig] using hd c (List.mem_cons_self ..)
    have := valD_lt d (10 * acc + (c.toNat - 48)) (k + 1) (by rw [Nat.pow_succ]; omega) (fun x hx => hd x (List.mem_cons_of_mem _ hx))
    simp only [valD, List.foldl_cons, List.length_cons] at this ⊢
    rw [show k + (d.length + 1) = k + 1 + d.length by omega]
    exact this

theorem digit_eq {c : UInt8} (h : isDig c = true) : UInt8.ofNat (48 + (c.toNat - 48)) = c := by
  have hc : 48 ≤ c.toNat ∧ c.toNat ≤ 57 := by simpa [isDig] using h
  rw [show 48 + (c.toNat - 48) = c.toNat by omega]
  exact UInt8.ofNat_toNat
theorem dig_dec {n : Nat} : ∀ c ∈ decDigits n, isDig c = true := fun c hc => by
  simpa [isDig] using dec_digits n c hc

/-- digits without a leading nought are their number's -/
theorem dec_val : ∀ (k : Nat) (d : List UInt8), d.length = k → d ≠ [] → (∀ c ∈ d, isDig c = true) → (d.head? = some 48 → d.length = 1) → decDigits (valD 0 d) = d ∧ (d.head? ≠ some 48 → 1 ≤ valD 0 d) := by
  intro k
  induction k with
  | zero => intro d h1 h2; exact absurd (List.eq_nil_of_length_eq_zero h1) h2
  | succ k ih =>
    intro d h1 h2 h3 h4
    obtain ⟨d', c, rfl⟩ : ∃ d' c, d = d' ++ [c] := ⟨d.dropLast, d.getLast h2, (List.dropLast_concat_getLast h2).symm⟩
    have hc := h3 c (by simp)
    have hcn : 48 ≤ c.toNat ∧ c.toNat ≤ 57 := by simpa [isDig] using hc
    rw [valD_snoc]
    by_cases hd : d' = []
    · subst hd
      have e : valD 0 [] = 0 := rfl
      rw [e, show 10 * 0 + (c.toNat - 48) = c.toNat - 48 by omega, decDigits_one (by omega), digit_eq hc]
      refine ⟨rfl, fun hne => ?_⟩
      have : c ≠ 48 := fun e => hne (by simp [e])
      have : c.toNat ≠ 48 := fun e => this (UInt8.toNat_inj.1 e)
      omega
    · have hh : (d' ++ [c]).head? = d'.head? := by
        cases d' with
        | nil => exact absurd rfl hd
        | cons a t => rfl
      have hl : 1 ≤ d'.length := List.length_pos_iff.2 hd
      have hne : d'.head? ≠ some 48 := fun e => by
        have := h4 (by rw [hh]; exact e)
        simp at this
        exact hd this
      obtain ⟨i1, i2⟩ := ih d' (by simp at h1; omega) hd (fun x hx => h3 x (by simp [hx])) (fun e => absurd e hne)
      have hv := i2 hne
      refine ⟨?_, fun _ => by omega⟩
      rw [decDigits, dif_neg (by omega), show (10 * valD 0 d' + (c.toNat - 48)) / 10 = valD 0 d' by omega, show (10 * valD 0 d' + (c.toNat - 48)) % 10 = c.toNat - 48 by omega, i1, digit_eq hc]

theorem val_dec : ∀ (n : Nat), valD 0 (decDigits n) = n := by
  intro n
  induction n using Nat.strongRecOn with
  | _ n ih =>
    rw [decDigits]
    split
    · rename_i h
      show 10 * 0 + ((UInt8.ofNat (48 + n)).toNat - 48) = n
      rw [digit_of h]
      omega
    · rename_i h
      rw [valD_snoc, ih (n / 10) (by omega), digit_of (Nat.mod_lt _ (by decide))]
      omega
theorem dec_head : ∀ (n : Nat), (decDigits n).head? = some 48 → (decDigits n).length = 1 := by
  intro n
  induction n using Nat.strongRecOn with
  | _ n ih =>
    intro h
    rw [decDigits] at h ⊢
    split
    · rfl
    · rename_i hn
      rw [dif_neg hn] at h
      have hne := dec_ne (n / 10)
      have hh : (decDigits (n / 10) ++ [UInt8.ofNat (48 + n % 10)]).head? = (decDigits (n / 10)).head? := by
        cases hx : decDigits (n / 10) with
        | nil => exact absurd hx hne
        | cons a t => rfl
      rw [hh] at h
      have h1 := ih (n / 10) (by omega) h
      -- one digit, which is a nought: the number is none
      have h2 : valD 0 (decDigits (n / 10)) = n / 10 := val_dec _
      cases hx : decDigits (n / 10) with
      | nil => exact absurd hx hne
      | cons a t =>
        rw [hx] at h h1 h2
        simp at h h1
        subst h h1
        simp [valD] at h2
        omega

/-! ### the document's reading -/

def digs (l : List UInt8) : List UInt8 := l.takeWhile isDig
/-- a number's value, and how many bytes it takes -/
def numR (l : List UInt8) : Option (Nat × Nat) :=
  if 18 ≤ (digs l).length ∨ digs l = [] ∨ ((digs l).head? = some 48 ∧ 1 < (digs l).length) then none else some (valD 0 (digs l), (digs l).length)

theorem digs_all (l : List UInt8) : ∀ c ∈ digs l, isDig c = true := fun c hc => List.all_eq_true.1 List.all_takeWhile c hc
theorem digs_take (l : List UInt8) : l.take (digs l).length = digs l := (List.prefix_iff_eq_take.1 (List.takeWhile_prefix isDig)).symm

theorem numR_some {l : List UInt8} {n k : Nat} (h : numR l = some (n, k)) : l = decDigits n ++ l.drop k ∧ k ≤ l.length := by
  unfold numR at h
  split at h
  · cases h
  · rename_i hc
    cases h
    simp only [not_or, not_and] at hc
    have hd := (dec_val _ (digs l) rfl hc.2.1 (digs_all l) (fun e => by have := hc.2.2 e; have := List.length_pos_iff.2 hc.2.1; omega)).1
    have ht := digs_take l
    refine ⟨?_, ?_⟩
    · rw [hd]
      conv => lhs; rw [← List.take_append_drop (digs l).length l, ht]
    · have := congrArg List.length ht
      rw [List.length_take] at this
      omega

theorem numR_dec {n : Nat} (hn : n < 10 ^ 17) {r : List UInt8} (hr : ∀ c, r.head? = some c → isDig c = false) : numR (decDigits n ++ r) = some (n, (decDigits n).length) := by
  have e : digs (decDigits n ++ r) = decDigits n := by
    unfold digs
    rw [List.takeWhile_append_of_pos (fun c hc => dig_dec c hc)]
    cases r with
    | nil => simp
    | cons c r => simp [List.takeWhile_cons, hr c rfl]
  have hl : (decDigits n).length ≤ 17 := dec_len 16 n hn
  unfold numR
  rw [e, if_neg, val_dec]
  rintro (h | h | ⟨h1, h2⟩)
  · omega
  · exact dec_ne n h
  · have := dec_head n h1
    omega

/-- so many numbers more -/
def refGo : Nat → List UInt8 → List Nat → Option (List Nat × List UInt8)
  | 0, l, acc => some (acc, l)
  | k + 1, l, acc =>
    match (if acc = [] then some l else match l with
      | c :: r => if c = 46 then some r else none
      | [] => none) with
    | none => none
    | some l1 => match numR l1 with
      | none => none
      | some (n, c) => refGo k (l1.drop c) (acc ++ [n])

def refFin : Option (List Nat × List UInt8) → Option LabT
  | some ([a, b, c, d], []) => if goodLabel a b c d then some ((a : Int), (b : Int), (c : Int), (d : Int)) else none
  | _ => none
def refR (s : ByteArray) : Option LabT := refFin (refGo 4 s.data.toList [])
theorem refFin_four (a b c d : Nat) (r : List UInt8) : refFin (some ([a, b, c, d], r)) = if goodLabel a b c d ∧ r = [] then some ((a : Int), (b : Int), (c : Int), (d : Int)) else none := by
  cases r <;> simp [refFin]

theorem go_zero {l l' : List UInt8} {acc acc' : List Nat} (h : refGo 0 l acc = some (acc', l')) : acc' = acc ∧ l' = l := by
  simp [refGo] at h
  exact ⟨h.1.symm, h.2.symm⟩
theorem go_succ {k : Nat} {l l' : List UInt8} {acc acc' : List Nat} (hne : acc ≠ []) (h : refGo (k + 1) l acc = some (acc', l')) : ∃ n r, l = 46 :: (decDigits n ++ r) ∧ refGo k r (acc ++ [n]) = some (acc', l') := by
  cases l with
  | nil => simp [refGo, hne] at h
  | cons c r =>
    by_cases hc : c = 46
    · subst hc
      simp only [refGo, if_neg hne, if_true] at h
      cases hn : numR r with
      | none => simp [hn] at h
      | some q =>
        obtain ⟨n, c⟩ := q
        simp only [hn] at h
        exact ⟨n, r.drop c, congrArg _ (numR_some hn).1, h⟩
    · simp [refGo, hne, hc] at h
theorem go_first {k : Nat} {l l' : List UInt8} {acc' : List Nat} (h : refGo (k + 1) l [] = some (acc', l')) : ∃ n r, l = decDigits n ++ r ∧ refGo k r [n] = some (acc', l') := by
  simp only [refGo, if_true] at h
  cases hn : numR l with
  | none => simp [hn] at h
  | some q =>
    obtain ⟨n, c⟩ := q
    simp only [hn] at h
    exact ⟨n, l.drop c, (numR_some hn).1, h⟩

theorem ref_back {s : ByteArray} {l : LabT} (h : refR s = some l) : goodLabel l.1 l.2.1 l.2.2.1 l.2.2.2 ∧ labelText l.1 l.2.1 l.2.2.1 l.2.2.2 = s := by
  unfold refR refFin at h
  split at h
  · rename_i a b c d hgo
    split at h
    · rename_i hg
      cases h
      refine ⟨hg, ?_⟩
      obtain ⟨n1, r1, e1, h1⟩ := go_first hgo
      obtain ⟨n2, r2, e2, h2⟩ := go_succ (by simp) h1
      obtain ⟨n3, r3, e3, h3⟩ := go_succ (by simp) h2
      obtain ⟨n4, r4, e4, h4⟩ := go_succ (by simp) h3
      obtain ⟨e5, e6⟩ := go_zero h4
      simp only [List.cons_append, List.nil_append, List.cons.injEq, and_true] at e5
      obtain ⟨rfl, rfl, rfl, rfl⟩ := e5
      subst e6
      subst e4 e3 e2
      refine bytes_inj ?_
      rw [e1]
      unfold labelText
      rw [if_pos hg]
      simp [textOf, join_cons, joinTail]
    · cases h
  · cases h

theorem not_dig46 : isDig 46 = false := by decide

theorem ref_text {a b c d : Int} (hg : goodLabel a b c d) : refR (labelText a b c d) = some (a, b, c, d) := by
  obtain ⟨⟨ha0, ha1, hb0, hb1⟩, hc0, hc1, hd0, hd1⟩ := id hg
  simp only at ha0 ha1 hb0 hb1
  obtain ⟨a, rfl⟩ := Int.eq_ofNat_of_zero_le ha0
  obtain ⟨b, rfl⟩ := Int.eq_ofNat_of_zero_le (show 0 ≤ b by omega)
  obtain ⟨c, rfl⟩ := Int.eq_ofNat_of_zero_le hc0
  obtain ⟨d, rfl⟩ := Int.eq_ofNat_of_zero_le hd0
  have e : (labelText a b c d).data.toList = decDigits a ++ 46 :: (decDigits b ++ 46 :: (decDigits c ++ 46 :: (decDigits d ++ []))) := by
    unfold labelText
    rw [if_pos hg]
    simp [textOf, join_cons, joinTail]
  have h46 : ∀ (r : List UInt8) (c : UInt8), (46 :: r).head? = some c → isDig c = false := fun r c h => by
    simp at h; rw [← h]; exact not_dig46
  have n1 := numR_dec (n := a) (by omega) (h46 (decDigits b ++ 46 :: (decDigits c ++ 46 :: (decDigits d ++ []))))
  have n2 := numR_dec (n := b) (by omega) (h46 (decDigits c ++ 46 :: (decDigits d ++ [])))
  have n3 := numR_dec (n := c) (by omega) (h46 (decDigits d ++ []))
  have n4 := numR_dec (n := d) (by omega) (r := []) (by simp)
  unfold refR refFin
  rw [e]
  simp only [refGo, if_true, n1, n2, n3, n4, List.drop_left', List.nil_append, List.cons_append, List.cons_ne_nil, if_false, reduceCtorEq]
  rw [if_pos hg]

theorem parse_ref (s : ByteArray) : parseR s = refR s := by
  cases hp : parseR s with
  | some l =>
    obtain ⟨hg, ht⟩ := parse_back hp
    rw [← ht]
    exact (ref_text hg).symm
  | none =>
    cases hr : refR s with
    | none => rfl
    | some l =>
      obtain ⟨hg, ht⟩ := ref_back hr
      have := parse_text hg
      rw [ht, hp] at this
      cases this

end Go.Proofs.YtfhalebbcbgbdaaGreatDoor
