/-
  Lget: the plain law of adverts that are read from bytes.
-/
import Derived.Test.YtmdagnoknmfhcaaDoorLput
namespace Go.Proofs.YtmdagnoknmfhcaaDoor
open Go.H Go.Proofs Go.Lib
set_option linter.unusedSimpArgs false
set_option linter.unusedVariables false

/-- how far was read, and whether something was not there -/
abbrev RdSt := Nat × Bool
abbrev Rd (α : Type) := ByteArray → RdSt → α × RdSt

def rdN (w : Nat) : Rd Nat := fun s st =>
  if st.2 = true then (0, st) else match getFix s st.1 w with
    | none => (0, (st.1, true))
    | some v => (v, (st.1 + w, false))
def rdD : Rd ByteArray := fun s st =>
  if st.2 = true then (ByteArray.mk #[], st) else match getDat s st.1 with
    | none => (ByteArray.mk #[], (st.1, true))
    | some p => (p.1, (p.2, false))
def seqR {α β : Type} (p : Rd α) (q : α → Rd β) : Rd (α × β) := fun s st => (((p s st).1, (q (p s st).1 s (p s st).2).1), (q (p s st).1 s (p s st).2).2)
def rdL {α : Type} (p : Rd α) : Nat → Rd (List α)
  | 0 => fun _ st => ([], st)
  | n + 1 => fun s st => ((p s st).1 :: (rdL p n s (p s st).2).1, (rdL p n s (p s st).2).2)
abbrev K6 := Nat × Nat × Nat × ByteArray × ByteArray × ByteArray
def rdK6 : Rd K6 := seqR (rdN 1) fun _ => seqR (rdN 1) fun _ => seqR (rdN 1) fun _ => seqR rdD fun _ => seqR rdD fun _ => rdD
def toK (k : K6) : LinkT := ((k.1 : Int), k.2.2.2.1, (k.2.1 : Int), (k.2.2.1 : Int), k.2.2.2.2.1, k.2.2.2.2.2, ())
def ofK (l : LinkT) : K6 := (l.1.toNat, l.2.2.1.toNat, l.2.2.2.1.toNat, l.2.1, l.2.2.2.2.1, l.2.2.2.2.2.1)
def rdK : Rd LinkT := fun s st => (toK (rdK6 s st).1, (rdK6 s st).2)
abbrev RawT := Nat × Nat × Nat × Nat × List ByteArray × Nat × List LinkT
def rawR : Rd RawT := seqR (rdN 1) fun _ => seqR (rdN 4) fun _ => seqR (rdN 4) fun _ => seqR (rdN 1) fun n => seqR (rdL rdD n) fun _ => seqR (rdN 1) fun m => rdL rdK m
def verV (hi lo : Nat) : Int := IntKind.wrap .i64 ((hi * 4294967296 + lo : Nat) : Int)
def advR (r : RawT) : AdvT := ⟨(r.1 : Int), verV r.2.1 r.2.2.1, r.2.2.2.2.1, r.2.2.2.2.2.2⟩
/-- the advert that bytes are, if they are one -/
def getA (s : ByteArray) : Option AdvT :=
  if (rawR s (0, false)).2.2 = true ∨ (rawR s (0, false)).2.1 < s.size ∨ goodA (advR (rawR s (0, false)).1) = false then none else some (advR (rawR s (0, false)).1)

/-! ### readings keep to the text -/

def KeepsR {α : Type} (p : Rd α) : Prop := ∀ s st, st.1 ≤ s.size → (p s st).2.1 ≤ s.size
theorem rdN_keeps (w : Nat) : KeepsR (rdN w) := fun s st h => by
  unfold rdN
  split
  · exact h
  · cases hf : getFix s st.1 w with
    | none => exact h
    | some v => exact (getFix_lt hf).2
theorem getDat_le {s : ByteArray} {i : Nat} {p : ByteArray × Nat} (h : getDat s i = some p) : i + 2 ≤ p.2 ∧ p.2 ≤ s.size ∧ p.2 = i + 2 + p.1.size ∧ p.1.size < 65536 ∧ p.1 = s.extract (i + 2) p.2 ∧ getFix s i 2 = some p.1.size := by
  unfold getDat at h
  cases hf : getFix s i 2 with
  | none => rw [hf] at h; cases h
  | some n =>
    rw [hf] at h
    simp only at h
    split at h
    · rename_i hle
      cases h
      have := (getFix_lt hf).1
      have e : (s.extract (i + 2) (i + 2 + n)).size = n := by rw [ByteArray.size_extract]; omega
      simp only [e]
      exact ⟨by omega, hle, trivial, this, trivial, trivial⟩
    · cases h
theorem rdD_keeps : KeepsR rdD := fun s st h => by
  unfold rdD
  split
  · exact h
  · cases hf : getDat s st.1 with
    | none => exact h
    | some v => exact (getDat_le hf).2.1
theorem rdD_size (s : ByteArray) (st : RdSt) : (rdD s st).1.size < 65536 := by
  unfold rdD
  split
  · exact show (0 : Nat) < 65536 by decide
  · cases hf : getDat s st.1 with
    | none => exact show (0 : Nat) < 65536 by decide
    | some v => exact (getDat_le hf).2.2.2.1
theorem rdN_lt (w : Nat) (s : ByteArray) (st : RdSt) : (rdN w s st).1 < 256 ^ w := by
  have h0 : 0 < 256 ^ w := Nat.pow_pos (by decide)
  unfold rdN
  split
  · exact h0
  · cases hf : getFix s st.1 w with
    | none => exact h0
    | some v => exact (getFix_lt hf).1

/-! ### a reading and its bytes -/

structure LawR {α : Type} (p : Rd α) (enc : α → bytesL) (dom : α → Prop) : Prop where
  keeps : KeepsR p
  inv : ∀ s st, st.1 ≤ s.size → (p s st).2.2 = false → st.2 = false ∧ dom (p s st).1 ∧ (p s st).2.1 ≤ s.size ∧ s.data.toList.drop st.1 = enc (p s st).1 ++ s.data.toList.drop (p s st).2.1
  fwd : ∀ s i x r, dom x → i ≤ s.size → s.data.toList.drop i = enc x ++ r → p s (i, false) = (x, (i + (enc x).length, false)) ∧ i + (enc x).length ≤ s.size ∧ s.data.toList.drop (i + (enc x).length) = r

theorem byte_nat (l : List UInt8) : ∀ {w : Nat}, l.length = w → (beT w (valL l)).map (fun n => UInt8.ofNat n.toNat) = l := by
  have key : ∀ (l : List UInt8) (n : Nat), (∀ w, w = l.length → n % 256 ^ w = valL l) → (beT l.length n).map (fun n => UInt8.ofNat n.toNat) = l := by
    intro l
    induction l with
    | nil => intro n _; rfl
    | cons b l ih =>
      intro n hn
      have hb := UInt8.toNat_lt b
      have hv := valL_lt l
      have e : valL (b :: l) = b.toNat * 256 ^ l.length + valL l := by
        show List.foldl _ (0 * 256 + b.toNat) l = _
        rw [valL_go l, Nat.zero_mul, Nat.zero_add]
      have h1 := hn _ rfl
      rw [e, List.length_cons, Nat.pow_succ, Nat.mod_mul] at h1
      have hp : 0 < 256 ^ l.length := Nat.pow_pos (by decide)
      have hr := Nat.mod_lt n hp
      have q1 : n / 256 ^ l.length % 256 = b.toNat := by
        have h2 := congrArg (fun z => z / 256 ^ l.length) h1
        rw [Nat.mul_comm b.toNat, Nat.mul_add_div hp, Nat.div_eq_of_lt hv, Nat.add_mul_div_left _ _ hp, Nat.div_eq_of_lt hr] at h2
        omega
      have q2 : n % 256 ^ l.length = valL l := by
        have h2 := congrArg (fun z => z % 256 ^ l.length) h1
        rw [Nat.mul_comm b.toNat, Nat.mul_add_mod, Nat.mod_eq_of_lt hv, Nat.add_mul_mod_self_left, Nat.mod_eq_of_lt hr] at h2
        exact h2
      rw [List.length_cons, beT, List.map_cons, q1, ih n fun w hw => by rw [hw]; exact q2, Int.toNat_natCast]
      rw [show UInt8.ofNat b.toNat = b by simp]
  intro w hw
  subst hw
  exact key l _ fun w hw => by rw [hw, Nat.mod_eq_of_lt (valL_lt l)]

theorem fixL_val {l : List UInt8} {w : Nat} (h : l.length = w) : fixL w (valL l) = l := by
  unfold fixL fixB
  rw [ints_data]
  exact byte_nat l h
theorem val_fixL {w n : Nat} (h : n < 256 ^ w) : valL (fixL w n) = n := by
  unfold fixL fixB
  rw [ints_data, valL_be, Nat.mod_eq_of_lt h]

theorem size_list (s : ByteArray) : s.data.toList.length = s.size := Array.length_toList

theorem rdN_law (w : Nat) : LawR (rdN w) (fixL w) (fun n => n < 256 ^ w) where
  keeps := rdN_keeps w
  inv s st hst hb := by
    unfold rdN at hb ⊢
    split at hb
    · rename_i h1
      rw [h1] at hb
      cases hb
    · rename_i h1
      rw [if_neg h1]
      cases hf : getFix s st.1 w with
      | none => rw [hf] at hb; cases hb
      | some v =>
        obtain ⟨h2, h3⟩ := getFix_lt hf
        refine ⟨by simpa using h1, h2, h3, ?_⟩
        unfold getFix at hf
        rw [if_pos h3] at hf
        cases hf
        simp only
        rw [fixL_val (cutL_len h3)]
        unfold cutL
        rw [← List.drop_drop, List.take_append_drop]
  fwd s i x r hx hi hd := by
    have hl := congrArg List.length hd
    rw [List.length_drop, size_list, List.length_append, fixL_len] at hl
    have hle : i + w ≤ s.size := by omega
    have hc : cutL s i w = fixL w x := by
      unfold cutL
      rw [hd, List.take_append_of_le_length (by rw [fixL_len]; exact Nat.le_refl _), List.take_of_length_le (by rw [fixL_len]; exact Nat.le_refl _)]
    refine ⟨?_, by rw [fixL_len]; exact hle, ?_⟩
    · unfold rdN getFix
      rw [if_neg (by simp), if_pos hle, hc, val_fixL hx, fixL_len]
    · rw [← List.drop_drop, hd, List.drop_append_of_le_length (Nat.le_refl _), List.drop_length, List.nil_append]

theorem extract_list (s : ByteArray) (i j : Nat) : (s.extract i j).data.toList = (s.data.toList.drop i).take (j - i) := by
  rw [ByteArray.data_extract, Array.toList_extract, List.extract_eq_take_drop]

theorem rdD_law : LawR rdD datL (fun s => s.size < 65536) where
  keeps := rdD_keeps
  inv s st hst hb := by
    unfold rdD at hb ⊢
    split at hb
    · rename_i h1
      rw [h1] at hb
      cases hb
    · rename_i h1
      rw [if_neg h1]
      cases hf : getDat s st.1 with
      | none => rw [hf] at hb; cases hb
      | some p =>
        obtain ⟨h2, h3, h4, h5, h6, h7⟩ := getDat_le hf
        refine ⟨by simpa using h1, h5, h3, ?_⟩
        simp only
        have hN := (rdN_law 2).inv s (st.1, false) hst
        unfold rdN at hN
        rw [if_neg (by simp)] at hN
        simp only at hN
        rw [h7] at hN
        have h8 := (hN rfl).2.2.2
        simp only at h8
        rw [h8, datL_eq, List.append_assoc]
        congr 1
        have e : p.1.data.toList = (s.data.toList.drop (st.1 + 2)).take p.1.size := by
          conv => lhs; rw [h6]
          rw [extract_list]
          congr 1
          omega
        have e2 : s.data.toList.drop p.2 = (s.data.toList.drop (st.1 + 2)).drop p.1.size := by rw [List.drop_drop, h4]
        rw [e, e2, List.take_append_drop]
  fwd s i x r hx hi hd := by
    rw [datL_eq, List.append_assoc] at hd
    obtain ⟨h1, h2, h3⟩ := (rdN_law 2).fwd s i x.size _ (by simpa using hx) hi hd
    rw [fixL_len] at h2 h3
    have hl := congrArg List.length h3
    rw [List.length_drop, size_list, List.length_append, size_list] at hl
    have h7 : getFix s i 2 = some x.size := by
      unfold rdN at h1
      rw [if_neg (by simp)] at h1
      simp only at h1
      cases hf : getFix s i 2 with
      | none =>
        rw [hf] at h1
        have := congrArg (fun z => z.2.2) h1
        simp at this
      | some v =>
        rw [hf] at h1
        have := congrArg (fun z => z.1) h1
        simp only at this
        rw [this]
    have hle : i + 2 + x.size ≤ s.size := by omega
    have ex : s.extract (i + 2) (i + 2 + x.size) = x := by
      refine data_inj ?_
      rw [extract_list, h3, show i + 2 + x.size - (i + 2) = x.data.toList.length by rw [size_list]; omega, List.take_append_of_le_length (Nat.le_refl _), List.take_length]
    have hlen : (datL x).length = 2 + x.size := by rw [datL_eq, List.length_append, fixL_len, size_list]
    refine ⟨?_, by omega, ?_⟩
    · unfold rdD getDat
      rw [if_neg (by simp)]
      simp only [h7]
      rw [if_pos hle, ex, hlen]
      simp only [Nat.add_assoc]
    · rw [hlen, ← Nat.add_assoc, ← List.drop_drop, h3, show x.size = x.data.toList.length from (size_list x).symm, List.drop_append_of_le_length (Nat.le_refl _), List.drop_length, List.nil_append]

theorem LawR.seq {α β : Type} {p : Rd α} {q : α → Rd β} {e1 : α → bytesL} {e2 : α → β → bytesL} {d1 : α → Prop} {d2 : α → β → Prop} (h1 : LawR p e1 d1) (h2 : ∀ x, LawR (q x) (e2 x) (d2 x)) :
    LawR (seqR p q) (fun z => e1 z.1 ++ e2 z.1 z.2) (fun z => d1 z.1 ∧ d2 z.1 z.2) where
  keeps s st hst := (h2 _).keeps s _ (h1.keeps s st hst)
  inv s st hst hb := by
    unfold seqR at hb ⊢
    simp only at hb ⊢
    obtain ⟨a1, a2, a3, a4⟩ := (h2 _).inv s _ (h1.keeps s st hst) hb
    obtain ⟨b1, b2, b3, b4⟩ := h1.inv s st hst a1
    exact ⟨b1, ⟨b2, a2⟩, a3, by rw [b4, a4, List.append_assoc]⟩
  fwd s i x r hx hi hd := by
    simp only [List.append_assoc] at hd
    obtain ⟨a1, a2, a3⟩ := h1.fwd s i x.1 _ hx.1 hi hd
    obtain ⟨b1, b2, b3⟩ := (h2 x.1).fwd s _ x.2 r hx.2 a2 a3
    unfold seqR
    rw [List.length_append, ← Nat.add_assoc]
    exact ⟨by rw [a1, b1], b2, b3⟩

theorem rdL_law {α : Type} {p : Rd α} {e : α → bytesL} {d : α → Prop} (hp : LawR p e d) : ∀ n, LawR (rdL p n) (fun l => l.flatMap e) (fun l => l.length = n ∧ ∀ x ∈ l, d x)
  | 0 =>
    { keeps := fun s st h => h
      inv := fun s st hst hb => ⟨hb, ⟨rfl, fun x hx => by cases hx⟩, hst, rfl⟩
      fwd := fun s i x r hx hi hd => by
        have := List.eq_nil_of_length_eq_zero hx.1
        subst this
        exact ⟨rfl, hi, hd⟩ }
  | n + 1 =>
    { keeps := fun s st h => (rdL_law hp n).keeps s _ (hp.keeps s st h)
      inv := fun s st hst hb => by
        unfold rdL at hb ⊢
        simp only at hb ⊢
        obtain ⟨a1, a2, a3, a4⟩ := (rdL_law hp n).inv s _ (hp.keeps s st hst) hb
        obtain ⟨b1, b2, b3, b4⟩ := hp.inv s st hst a1
        refine ⟨b1, ⟨by rw [List.length_cons, a2.1], fun x hx => ?_⟩, a3, by rw [b4, a4, List.flatMap_cons, List.append_assoc]⟩
        rcases List.mem_cons.1 hx with rfl | hx
        · exact b2
        · exact a2.2 x hx
      fwd := fun s i x r hx hi hd => by
        cases x with
        | nil => exact absurd hx.1 (by simp)
        | cons y x =>
        rw [List.flatMap_cons, List.append_assoc] at hd
        obtain ⟨a1, a2, a3⟩ := hp.fwd s i y _ (hx.2 y (List.mem_cons_self ..)) hi hd
        obtain ⟨b1, b2, b3⟩ := (rdL_law hp n).fwd s _ x r ⟨by have := hx.1; simpa using this, fun z hz => hx.2 z (List.mem_cons_of_mem _ hz)⟩ a2 a3
        unfold rdL
        rw [List.flatMap_cons, List.length_append, ← Nat.add_assoc]
        exact ⟨by rw [a1, b1], b2, b3⟩ }

/-- a link's fields are within bytes -/
def domK (l : LinkT) : Prop := (0 ≤ l.1 ∧ l.1 < 256) ∧ (0 ≤ l.2.2.1 ∧ l.2.2.1 < 256) ∧ (0 ≤ l.2.2.2.1 ∧ l.2.2.2.1 < 256) ∧ l.2.1.size < 65536 ∧ l.2.2.2.2.1.size < 65536 ∧ l.2.2.2.2.2.1.size < 65536
theorem rdK6_law : LawR rdK6 (fun k => fixL 1 k.1 ++ (fixL 1 k.2.1 ++ (fixL 1 k.2.2.1 ++ (datL k.2.2.2.1 ++ (datL k.2.2.2.2.1 ++ datL k.2.2.2.2.2)))))
    (fun k => k.1 < 256 ^ 1 ∧ k.2.1 < 256 ^ 1 ∧ k.2.2.1 < 256 ^ 1 ∧ k.2.2.2.1.size < 65536 ∧ k.2.2.2.2.1.size < 65536 ∧ k.2.2.2.2.2.size < 65536) :=
  (rdN_law 1).seq fun _ => (rdN_law 1).seq fun _ => (rdN_law 1).seq fun _ => rdD_law.seq fun _ => rdD_law.seq fun _ => rdD_law
theorem to_of {l : LinkT} (h : domK l) : toK (ofK l) = l := by
  obtain ⟨l1, l2, l3, l4, l5, l6, ⟨⟩⟩ := l
  obtain ⟨h1, h2, h3, -⟩ := h
  simp only at h1 h2 h3
  unfold toK ofK
  simp only [Int.toNat_of_nonneg h1.1, Int.toNat_of_nonneg h2.1, Int.toNat_of_nonneg h3.1]
theorem rdK_law : LawR rdK putK domK where
  keeps s st h := rdK6_law.keeps s st h
  inv s st hst hb := by
    obtain ⟨a1, a2, a3, a4⟩ := rdK6_law.inv s st hst hb
    obtain ⟨b1, b2, b3, b4, b5, b6⟩ := a2
    refine ⟨a1, ⟨⟨Int.natCast_nonneg _, ?_⟩, ⟨Int.natCast_nonneg _, ?_⟩, ⟨Int.natCast_nonneg _, ?_⟩, b4, b5, b6⟩, a3, ?_⟩
    · show (((rdK6 s st).1.1 : Nat) : Int) < 256
      omega
    · show (((rdK6 s st).1.2.1 : Nat) : Int) < 256
      omega
    · show (((rdK6 s st).1.2.2.1 : Nat) : Int) < 256
      omega
    · rw [a4]
      show _ = putK (toK (rdK6 s st).1) ++ List.drop (rdK6 s st).2.1 s.data.toList
      unfold putK toK
      simp only [Int.toNat_natCast, List.append_assoc]
  fwd s i x r hx hi hd := by
    have e : putK x = fixL 1 (ofK x).1 ++ (fixL 1 (ofK x).2.1 ++ (fixL 1 (ofK x).2.2.1 ++ (datL (ofK x).2.2.2.1 ++ (datL (ofK x).2.2.2.2.1 ++ datL (ofK x).2.2.2.2.2)))) := by
      unfold putK ofK
      simp only [List.append_assoc]
    obtain ⟨h1, h2, h3, h4, h5, h6⟩ := id hx
    rw [e] at hd ⊢
    obtain ⟨a1, a2, a3⟩ := rdK6_law.fwd s i (ofK x) r ⟨show x.1.toNat < 256 ^ 1 by omega, show x.2.2.1.toNat < 256 ^ 1 by omega, show x.2.2.2.1.toNat < 256 ^ 1 by omega, h4, h5, h6⟩ hi hd
    refine ⟨?_, a2, a3⟩
    unfold rdK
    rw [a1, to_of hx]

def encR (r : RawT) : bytesL := fixL 1 r.1 ++ (fixL 4 r.2.1 ++ (fixL 4 r.2.2.1 ++ (fixL 1 r.2.2.2.1 ++ (r.2.2.2.2.1.flatMap datL ++ (fixL 1 r.2.2.2.2.2.1 ++ r.2.2.2.2.2.2.flatMap putK)))))
def domR (r : RawT) : Prop := r.1 < 256 ^ 1 ∧ r.2.1 < 256 ^ 4 ∧ r.2.2.1 < 256 ^ 4 ∧ r.2.2.2.1 < 256 ^ 1 ∧ (r.2.2.2.2.1.length = r.2.2.2.1 ∧ ∀ f ∈ r.2.2.2.2.1, f.size < 65536) ∧ r.2.2.2.2.2.1 < 256 ^ 1 ∧ (r.2.2.2.2.2.2.length = r.2.2.2.2.2.1 ∧ ∀ l ∈ r.2.2.2.2.2.2, domK l)
theorem rawR_law : LawR rawR encR domR :=
  (rdN_law 1).seq fun _ => (rdN_law 4).seq fun _ => (rdN_law 4).seq fun _ => (rdN_law 1).seq fun n => (rdL_law rdD_law n).seq fun _ => (rdN_law 1).seq fun m => rdL_law rdK_law m

/-! ### back and forth -/

def rawOf (a : AdvT) : RawT := (a.o.toNat, a.v.toNat / 4294967296, a.v.toNat % 4294967296, a.fs.length, a.fs, a.ls.length, a.ls)
theorem enc_rawOf (a : AdvT) : encR (rawOf a) = putL a := by
  unfold encR rawOf putL headL
  simp only [List.append_assoc]
theorem rule_domK {l : LinkT} (h1 : 0 ≤ l.1 ∧ l.1 < 8) (h : RuleOK l.2) : domK l := by
  have h2 := h.d
  have h3 := h.q
  have h4 := h.p
  have h5 := h.l
  have h6 := h.rm
  exact ⟨by omega, by omega, by omega, by omega, by omega, by omega⟩
theorem dom_rawOf {a : AdvT} (hg : goodA a = true) : domR (rawOf a) := by
  have G := good_facts hg
  have h1 := G.o
  have h2 := G.v
  have h3 := G.nf
  have h4 := G.nl
  refine ⟨show a.o.toNat < 256 ^ 1 by omega, show a.v.toNat / 4294967296 < 256 ^ 4 by omega, show a.v.toNat % 4294967296 < 256 ^ 4 by omega, show a.fs.length < 256 ^ 1 by omega, ⟨rfl, fun f hf => ?_⟩, show a.ls.length < 256 ^ 1 by omega, rfl, fun l hl => ?_⟩
  · exact Nat.lt_of_le_of_lt (G.fs f hf) (by decide)
  · exact rule_domK (G.ls l hl).1 (G.ls l hl).2
theorem adv_rawOf {a : AdvT} (hg : goodA a = true) : advR (rawOf a) = a := by
  have G := good_facts hg
  have h1 := G.o
  have h2 := G.v
  obtain ⟨o, v, fs, ls⟩ := a
  simp only at h1 h2
  unfold advR rawOf verV
  simp only
  rw [Int.toNat_of_nonneg h1.1, wrap_id (by omega) (by omega)]
  congr 1
  omega

theorem ofB_list (l : bytesL) : (ofB l).data.toList = l := rfl
theorem ofB_size' (l : bytesL) : (ofB l).size = l.length := by rw [← size_list]; rfl
theorem raw_put {a : AdvT} (hg : goodA a = true) : rawR (ofB (putL a)) (0, false) = (rawOf a, ((putL a).length, false)) := by
  have := (rawR_law.fwd (ofB (putL a)) 0 (rawOf a) [] (dom_rawOf hg) (Nat.zero_le _) (by rw [enc_rawOf, List.append_nil]; rfl)).1
  rw [this, enc_rawOf, Nat.zero_add]
theorem get_put {a : AdvT} (hg : goodA a = true) : getA (ofB (putL a)) = some a := by
  unfold getA
  rw [raw_put hg]
  simp only
  rw [adv_rawOf hg, if_neg (by simp [hg, ofB_size'])]
theorem wrap_neg {n : Int} (h1 : 9223372036854775808 ≤ n) (h2 : n < 18446744073709551616) : IntKind.wrap .i64 n < 0 := by
  unfold IntKind.wrap
  have e1 : ((2 : Int) ^ IntKind.i64.bits) = 18446744073709551616 := by decide
  have e2 : ((2 : Int) ^ (IntKind.i64.bits - 1)) = 9223372036854775808 := by decide
  simp only [e1, e2]
  rw [Int.emod_eq_of_lt (by omega) h2]
  rw [if_pos (by simp only [IntKind.signed, Bool.true_and, decide_eq_true_eq]; omega)]
  omega
theorem ver_back {hi lo : Nat} (h1 : hi < 256 ^ 4) (h2 : lo < 256 ^ 4) (h3 : 1 ≤ verV hi lo ∧ verV hi lo ≤ 9007199254740992) : (verV hi lo).toNat / 4294967296 = hi ∧ (verV hi lo).toNat % 4294967296 = lo := by
  unfold verV at *
  by_cases h4 : hi * 4294967296 + lo ≤ 9223372036854775807
  · rw [wrap_id (by omega) (by omega)] at *
    rw [Int.toNat_natCast]
    omega
  · exfalso
    have := wrap_neg (n := ((hi * 4294967296 + lo : Nat) : Int)) (by omega) (by omega)
    omega
theorem get_inv {s : ByteArray} {a : AdvT} (h : getA s = some a) : s = ofB (putL a) ∧ goodA a = true := by
  unfold getA at h
  split at h
  · cases h
  rename_i hn
  cases h
  have hn' : (rawR s (0, false)).2.2 = false ∧ ¬ (rawR s (0, false)).2.1 < s.size ∧ goodA (advR (rawR s (0, false)).1) = true := by
    refine ⟨?_, fun e => hn (.inr (.inl e)), ?_⟩
    · cases hb : (rawR s (0, false)).2.2 with
      | false => rfl
      | true => exact absurd (.inl hb) hn
    · cases hb : goodA (advR (rawR s (0, false)).1) with
      | true => rfl
      | false => exact absurd (.inr (.inr hb)) hn
  obtain ⟨n1, n2, n3⟩ := hn'
  obtain ⟨-, hd, hle, he⟩ := rawR_law.inv s (0, false) (Nat.zero_le _) n1
  refine ⟨data_inj ?_, n3⟩
  generalize hr : (rawR s (0, false)).1 = r at *
  generalize (rawR s (0, false)).2 = st at *
  have he' : s.data.toList = encR r := by
    have h1 := he
    rw [List.drop_zero, List.drop_eq_nil_of_le (by rw [size_list]; omega), List.append_nil] at h1
    exact h1
  rw [he', ofB_list, ← enc_rawOf]
  have G := good_facts n3
  obtain ⟨d1, d2, d3, d4, ⟨d5, -⟩, d6, d7, -⟩ := hd
  have hv := ver_back d2 d3 G.v
  have : rawOf (advR r) = r := by
    obtain ⟨r1, r2, r3, r4, r5, r6, r7⟩ := r
    unfold rawOf advR
    simp only at *
    rw [hv.1, hv.2, d5, d7, Int.toNat_natCast]
  rw [this]
theorem get_cut {a : AdvT} (hg : goodA a = true) {k : Nat} (hk : k < (putL a).length) : getA (ofB ((putL a).take k)) = none := by
  cases hc : getA (ofB ((putL a).take k)) with
  | none => rfl
  | some b =>
    exfalso
    obtain ⟨h1, h2⟩ := get_inv hc
    have h3 : (putL a).take k = putL b := by
      have := congrArg (fun s : ByteArray => s.data.toList) h1
      exact this
    have h4 := (rawR_law.fwd (ofB (putL a)) 0 (rawOf b) ((putL a).drop k) (dom_rawOf h2) (Nat.zero_le _) (by rw [enc_rawOf, ← h3, List.take_append_drop]; rfl)).1
    rw [raw_put hg, enc_rawOf, ← h3, List.length_take] at h4
    have := congrArg (fun z => z.2.1) h4
    simp only at this
    omega
theorem put_ne {a : AdvT} : putL a ≠ [] := by
  intro h
  have := congrArg List.length h
  unfold putL headL at this
  simp [fixL_len] at this

end Go.Proofs.YtmdagnoknmfhcaaDoor
