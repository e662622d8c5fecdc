/-
  Ltop: the plain law of topics and filters.
-/
import Derived.Test.YtnpgpijkofbknaaGreatDoorCchr
import Derived.Lib.Split
import Derived.Lib.SplitLaws
import Derived.Lib.IndexBytes
namespace Go.Proofs.YtnpgpijkofbknaaGreatDoor
open Go.H Go.Proofs Go.Lib
set_option linter.unusedSimpArgs false
set_option linter.unusedVariables false

/-! ### pieces between bytes of one kind -/

theorem index_hit_c (c : UInt8) : ∀ (x r : List UInt8), c ∉ x → indexByte (x ++ c :: r) c = x.length
  | [], r, _ => by simp [indexByte]
  | b :: x, r, h => by
    simp only [List.mem_cons, not_or] at h
    have hb : (b == c) = false := by simpa using fun e => h.1 e.symm
    have ih := index_hit_c c x r h.2
    simp only [List.cons_append, indexByte, hb, ih]
    have : ¬ (((x.length : Nat) : Int) == -1) = true := by simp
    simp only [Bool.false_eq_true, if_false, if_neg this, List.length_cons]
    omega
theorem index_miss_c (c : UInt8) : ∀ (x : List UInt8), c ∉ x → indexByte x c = -1
  | [], _ => rfl
  | b :: x, h => by
    simp only [List.mem_cons, not_or] at h
    have hb : (b == c) = false := by simpa using fun e => h.1 e.symm
    simp [indexByte, hb, index_miss_c c x h.2]
theorem hit_c (c : UInt8) (x r : List UInt8) (h : c ∉ x) : index (x ++ c :: r) [c] = x.length := by rw [index_one]; exact index_hit_c c x r h
theorem miss_c (c : UInt8) (x : List UInt8) (h : c ∉ x) : index x [c] = -1 := by rw [index_one]; exact index_miss_c c x h

theorem split_hit_c (c : UInt8) (x r : List UInt8) (k : Nat) (h : c ∉ x) : splitK [c] 0 (k + 1) (x ++ c :: r) = x :: splitK [c] 0 k r := by
  have hi := hit_c c x r h
  have hn : ¬ (index (x ++ c :: r) [c] == -1) = true := by rw [hi]; simp
  simp only [splitK, if_neg hn, hi]
  congr 1
  all_goals simp
theorem split_miss_c (c : UInt8) (x : List UInt8) (k : Nat) (h : c ∉ x) : splitK [c] 0 k x = [x] := by
  cases k with
  | zero => rfl
  | succ k => simp [splitK, miss_c c x h]
theorem count_hit_c (c : UInt8) (x r : List UInt8) (h : c ∉ x) : count (x ++ c :: r) [c] = 1 + count r [c] := by
  rw [count_hit (by simp) (hit_c c x r h)]
  simp
theorem count_miss_c (c : UInt8) (x : List UInt8) (h : c ∉ x) : count x [c] = 0 := count_miss (miss_c c x h)

def lev (c : UInt8) : List UInt8 → List UInt8 → List (List UInt8)
  | x, [] => [x]
  | x, b :: r => if b = c then x :: lev c [] r else lev c (x ++ [b]) r

theorem lev_split (c : UInt8) : ∀ (r x : List UInt8), c ∉ x → splitK [c] 0 (count (x ++ r) [c]) (x ++ r) = lev c x r
  | [], x, h => by
    rw [List.append_nil, count_miss_c c x h, split_miss_c c x _ h]
    rfl
  | b :: r, x, h => by
    by_cases hb : b = c
    · subst hb
      rw [count_hit_c b x r h, Nat.add_comm, split_hit_c b x r _ h]
      have ih := lev_split b r [] (by simp)
      rw [List.nil_append] at ih
      rw [ih]
      simp [lev]
    · have ih := lev_split c r (x ++ [b]) (by simp [h, Ne.symm hb])
      rw [List.append_assoc] at ih
      simp only [lev, if_neg hb]
      exact ih

theorem lev_len (c : UInt8) : ∀ (r x : List UInt8), (lev c x r).length = r.count c + 1
  | [], x => rfl
  | b :: r, x => by
    by_cases hb : b = c
    · subst hb
      simp only [lev, if_pos, List.length_cons, List.count_cons_self, lev_len b r []]
    · simp only [lev, if_neg hb, lev_len c r (x ++ [b]), List.count_cons_of_ne hb]

theorem data_inj {x y : ByteArray} (h : x.data.toList = y.data.toList) : x = y := by
  cases x; cases y
  simp at h
  rw [h]
theorem map_data_inj : ∀ {xs ys : List ByteArray}, xs.map (·.data.toList) = ys.map (·.data.toList) → xs = ys
  | [], [], _ => rfl
  | [], _ :: _, h => by simp at h
  | _ :: _, [], h => by simp at h
  | x :: xs, y :: ys, h => by
    simp only [List.map_cons, List.cons.injEq] at h
    rw [data_inj h.1, map_data_inj h.2]

def slash : ByteArray := ByteArray.mk #[47]
def levels (s : ByteArray) : List ByteArray := splitB slash 0 (countB s slash) s

theorem levels_data (s : ByteArray) : (levels s).map (·.data.toList) = lev 47 [] s.data.toList := by
  unfold levels
  rw [splitB_data]
  exact lev_split 47 s.data.toList [] (by simp)
theorem levels_len (s : ByteArray) : (levels s).length = s.data.toList.count 47 + 1 := by
  have := congrArg List.length (levels_data s)
  rw [List.length_map, lev_len] at this
  exact this
theorem levels_ne (s : ByteArray) : levels s ≠ [] := fun h => by
  have := levels_len s
  rw [h] at this
  simp at this
theorem lev_le (c : UInt8) : ∀ (r x : List UInt8), ∀ y ∈ lev c x r, y.length ≤ x.length + r.length
  | [], x, y, h => by rw [List.mem_singleton.1 h]; simp
  | b :: r, x, y, h => by
    unfold lev at h
    split at h
    · rcases List.mem_cons.1 h with rfl | h
      · simp
      · have := lev_le c r [] y h
        simp at this ⊢
        omega
    · have := lev_le c r (x ++ [b]) y h
      simp at this ⊢
      omega
theorem levels_le {s x : ByteArray} (h : x ∈ levels s) : x.size ≤ s.size := by
  have h1 : x.data.toList ∈ lev 47 [] s.data.toList := by rw [← levels_data]; exact List.mem_map_of_mem h
  have := lev_le 47 _ _ _ h1
  simp only [List.length_nil, Nat.zero_add, Array.length_toList] at this
  exact this

/-! ### names and filters -/

def plusS : ByteArray := ByteArray.mk #[43]
def hashS : ByteArray := ByteArray.mk #[35]
def hasB (c : UInt8) (s : ByteArray) : Bool := decide (c ∈ s.data.toList)

theorem index_pos (c : UInt8) : ∀ l : List UInt8, 0 ≤ indexByte l c ↔ c ∈ l
  | [] => by simp [indexByte]
  | b :: l => by
    by_cases hb : b = c
    · subst hb
      simp [indexByte]
    · have ih := index_pos c l
      have hb' : (b == c) = false := by simpa using hb
      have hge := indexByte_ge l c
      simp only [indexByte, hb', Bool.false_eq_true, if_false, List.mem_cons, Ne.symm hb, false_or]
      rw [← ih]
      by_cases h1 : indexByte l c = -1
      · simp [h1]
      · have h2 : ¬ (indexByte l c == -1) = true := by simpa using h1
        rw [if_neg h2]
        omega
theorem has_index (c : UInt8) (s : ByteArray) : decide (0 ≤ indexByte s.data.toList c) = hasB c s := by
  unfold hasB
  simp only [index_pos]

def sizedT (s : ByteArray) : Bool := (faultOf s).isNone && decide (s.size ≠ 0) && decide (s.size ≤ 256) && decide ((levels s).length ≤ 32)
def nameOK (s : ByteArray) : Bool := sizedT s && !hasB 43 s && !hasB 35 s
def filtG : List ByteArray → Bool
  | [] => true
  | x :: r => (if hasB 35 x then (r.isEmpty && decide (x.size ≤ 1)) else (!hasB 43 x || decide (x.size ≤ 1))) && filtG r
def filterOK (s : ByteArray) : Bool := sizedT s && filtG (levels s)

theorem sizedT_iff {s : ByteArray} : sizedT s = true ↔ faultOf s = none ∧ s.size ≠ 0 ∧ s.size ≤ 256 ∧ (levels s).length ≤ 32 := by
  unfold sizedT
  simp [Option.isNone_iff_eq_none, and_assoc]
theorem sizedT_le {s : ByteArray} (h : sizedT s = true) : s.size ≤ 256 := (sizedT_iff.1 h).2.2.1
theorem nameOK_sized {s : ByteArray} (h : nameOK s = true) : sizedT s = true := by
  unfold nameOK at h
  simp only [Bool.and_eq_true] at h
  exact h.1.1
theorem filterOK_sized {s : ByteArray} (h : filterOK s = true) : sizedT s = true := by
  unfold filterOK at h
  simp only [Bool.and_eq_true] at h
  exact h.1

theorem has_one {c : UInt8} {x : ByteArray} (h : hasB c x = true) : x.size ≤ 1 ↔ x = ByteArray.mk #[c] := by
  unfold hasB at h
  rw [decide_eq_true_eq] at h
  constructor
  · intro h1
    refine data_inj ?_
    have hl : x.data.toList.length ≤ 1 := by rw [Array.length_toList]; exact h1
    generalize x.data.toList = l at h hl
    match l, h, hl with
    | [b], h, _ => rw [List.mem_singleton.1 h]
    | _ :: _ :: _, _, hl => simp at hl
  · rintro rfl
    exact Nat.le_refl 1
theorem has_self (c : UInt8) : hasB c (ByteArray.mk #[c]) = true := by simp [hasB]

/-- what the document looks at in a level -/
def levBad (x : ByteArray) (last : Bool) : Bool := (hasB 43 x && decide (x ≠ plusS)) || (hasB 35 x && (decide (x ≠ hashS) || !last))

theorem filtG_cons (x : ByteArray) (r : List ByteArray) : filtG (x :: r) = (!levBad x r.isEmpty && filtG r) := by
  unfold levBad
  rw [filtG]
  congr 1
  by_cases h35 : hasB 35 x = true
  · rw [if_pos h35, h35]
    by_cases hx : x = hashS
    · subst hx
      have : hasB 43 hashS = false := rfl
      rw [this]
      cases r.isEmpty <;> rfl
    · have hs : ¬ x.size ≤ 1 := fun h => hx ((has_one h35).1 h)
      simp [hs, hx]
  · rw [if_neg h35]
    simp only [Bool.not_eq_true] at h35
    rw [h35]
    by_cases h43 : hasB 43 x = true
    · rw [h43]
      by_cases hx : x = plusS
      · subst hx
        rfl
      · have hs : ¬ x.size ≤ 1 := fun h => hx ((has_one h43).1 h)
        simp [hs, hx]
    · simp only [Bool.not_eq_true] at h43
      rw [h43]
      rfl

/-! ### which filters match -/

def matchL : List ByteArray → List ByteArray → Bool
  | [], n => n.isEmpty
  | f :: fs, n => if f = hashS then true else match n with
    | [] => false
    | m :: ns => if f ≠ plusS ∧ f ≠ m then false else matchL fs ns

theorem matchL_cons (f : ByteArray) (fs n : List ByteArray) : matchL (f :: fs) n = if f = hashS then true else match n with
    | [] => false
    | m :: ns => if f ≠ plusS ∧ f ≠ m then false else matchL fs ns := by cases n <;> rfl

def eqL : List ByteArray → List ByteArray → Bool
  | [], [] => true
  | a :: l, b :: m => (decide (a = plusS) || decide (a = b)) && eqL l m
  | _, _ => false

def allR (f : List ByteArray) : Bool := decide (f[f.length - 1]? = some hashS)
def cutR (f : List ByteArray) : List ByteArray := if allR f = true then f.take (f.length - 1) else f
def matchP (f n : List ByteArray) : Bool :=
  if n.length < (cutR f).length ∨ (allR f = false ∧ (cutR f).length < n.length) then false else eqL (cutR f) (n.take (cutR f).length)

theorem allR_cons (x y : ByteArray) (r : List ByteArray) : allR (x :: y :: r) = allR (y :: r) := by
  unfold allR
  simp
theorem cutR_cons (x y : ByteArray) (r : List ByteArray) : cutR (x :: y :: r) = x :: cutR (y :: r) := by
  unfold cutR
  rw [allR_cons]
  split
  · simp
  · rfl

theorem match_prog : ∀ (f n : List ByteArray), f ≠ [] → filtG f = true → matchL f n = matchP f n
  | [], _, h, _ => absurd rfl h
  | [x], n, _, hf => by
    rw [matchL_cons]
    unfold matchP
    by_cases hx : x = hashS
    · have ha : allR [x] = true := by simp [allR, hx]
      have hc : cutR [x] = [] := by simp [cutR, ha]
      rw [if_pos hx, ha, hc]
      simp [eqL]
    · have ha : allR [x] = false := by simp [allR, hx]
      have hc : cutR [x] = [x] := by simp [cutR, ha]
      rw [if_neg hx, ha, hc]
      match n with
      | [] => simp
      | [m] =>
        by_cases h1 : x = plusS
        · simp [eqL, matchL, h1]
        · by_cases h2 : x = m <;> simp [eqL, matchL, h1, h2]
      | m :: m' :: ns =>
        by_cases h1 : x = plusS
        · simp [matchL, h1]
        · by_cases h2 : x = m <;> simp [matchL, h1, h2]
  | x :: y :: r, n, _, hf => by
    have hfr : filtG (y :: r) = true := by
      rw [filtG, Bool.and_eq_true] at hf
      exact hf.2
    have hx : x ≠ hashS := fun h => by
      subst h
      rw [filtG_cons] at hf
      have : levBad hashS (y :: r).isEmpty = true := rfl
      rw [this] at hf
      simp at hf
    have ih := fun ns => match_prog (y :: r) ns (by simp) hfr
    rw [matchL_cons, if_neg hx]
    unfold matchP at ih ⊢
    rw [allR_cons, cutR_cons]
    match n with
    | [] => simp
    | m :: ns =>
      have ih := ih ns
      simp only [List.length_cons, Nat.add_lt_add_iff_right, List.take_succ_cons]
      by_cases hc : x ≠ plusS ∧ x ≠ m
      · rw [if_pos hc]
        split
        · rfl
        · simp [eqL, hc.1, hc.2]
      · rw [if_neg hc, ih]
        have hd : (decide (x = plusS) || decide (x = m)) = true := by
          by_cases h1 : x = plusS
          · simp [h1]
          · by_cases h2 : x = m
            · simp [h2]
            · exact absurd ⟨h1, h2⟩ hc
        split
        · rfl
        · simp only [eqL, hd, Bool.true_and]

def dollarB (filter name : ByteArray) : Bool := decide (name.get! 0 = 36) && (decide (filter.get! 0 = 43) || decide (filter.get! 0 = 35))
def matchB (filter name : ByteArray) : Bool := filterOK filter && nameOK name && !dollarB filter name && matchL (levels filter) (levels name)

theorem first_one {s : ByteArray} (h : s.size ≠ 0) (c : UInt8) : s.extract 0 1 = ByteArray.mk #[c] ↔ s.get! 0 = c := by
  obtain ⟨⟨l⟩⟩ := s
  match l with
  | [] => exact absurd rfl h
  | b :: l =>
    have e1 : (ByteArray.mk (List.toArray (b :: l))).get! 0 = b := rfl
    rw [e1]
    constructor
    · intro he
      have := congrArg (fun x : ByteArray => x.data.toList) he
      simp at this
      exact this
    · rintro rfl
      refine data_inj ?_
      simp

end Go.Proofs.YtnpgpijkofbknaaGreatDoor
