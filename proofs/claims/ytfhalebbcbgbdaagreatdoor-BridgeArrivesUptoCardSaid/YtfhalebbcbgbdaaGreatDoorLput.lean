/-
  Lput: the plain law of adverts as bytes.
-/
import Derived.Test.YtfhalebbcbgbdaaGreatDoorCrul
import Derived.Test.YtfhalebbcbgbdaaGreatDoorHbt
namespace Go.Proofs.YtfhalebbcbgbdaaGreatDoor
open Go.H Go.Proofs Go.Lib
set_option linter.unusedSimpArgs false
set_option linter.unusedVariables false

abbrev bytesL := List UInt8
def fixL (w n : Nat) : bytesL := (fixB w n).data.toList
def datL (s : ByteArray) : bytesL := (datB s).data.toList
theorem fixL_len (w n : Nat) : (fixL w n).length = w := by
  unfold fixL
  rw [Array.length_toList]
  exact fixB_size w n
theorem datL_eq (s : ByteArray) : datL s = fixL 2 s.size ++ s.data.toList := by
  unfold datL datB fixL
  simp only [ByteArray.data_append, Array.toList_append]

def putK (l : LinkT) : bytesL := fixL 1 l.1.toNat ++ fixL 1 l.2.2.1.toNat ++ fixL 1 l.2.2.2.1.toNat ++ datL l.2.1 ++ datL l.2.2.2.2.1 ++ datL l.2.2.2.2.2.1
def headL (a : AdvT) : bytesL := fixL 1 a.o.toNat ++ fixL 4 (a.v.toNat / 4294967296) ++ fixL 4 (a.v.toNat % 4294967296) ++ fixL 1 a.fs.length
def putL (a : AdvT) : bytesL := headL a ++ a.fs.flatMap datL ++ fixL 1 a.ls.length ++ a.ls.flatMap putK
def ofB (l : bytesL) : ByteArray := ⟨l.toArray⟩

theorem filt_size {f : ByteArray} (h : filterOK f = true) : f.size ≤ 256 := sizedT_le (filterOK_sized h)
theorem pref_size {s : ByteArray} (h : prefOK s = true) : s.size ≤ 256 := by
  unfold prefOK at h
  rw [Bool.or_eq_true] at h
  rcases h with h | h
  · rw [decide_eq_true_eq] at h
    subst h
    exact Nat.zero_le _
  · exact sizedT_le (nameOK_sized h)

structure RuleOK (r : RuleT) : Prop where
  p : r.1.size ≤ 256
  l : r.2.2.2.1.size ≤ 256
  rm : r.2.2.2.2.1.size ≤ 256
  d : 0 ≤ r.2.1 ∧ r.2.1 ≤ 2
  q : 0 ≤ r.2.2.1 ∧ r.2.2.1 ≤ 2
theorem chk_ok {r : RuleT} (h : chkR r = 0) : RuleOK r := by
  unfold chkR at h
  split at h
  · exact absurd h (by decide)
  split at h
  · exact absurd h (by decide)
  split at h
  · exact absurd h (by decide)
  split at h
  · exact absurd h (by decide)
  rename_i h1 h2 h3 h4
  have h2' : (prefOK r.2.2.2.1 && prefOK r.2.2.2.2.1) = true := by simpa using h2
  rw [Bool.and_eq_true] at h2'
  exact ⟨filt_size (by simpa using h1), pref_size h2'.1, pref_size h2'.2, by omega, by omega⟩

structure GoodF (a : AdvT) : Prop where
  o : 0 ≤ a.o ∧ a.o < 8
  v : 1 ≤ a.v ∧ a.v ≤ 9007199254740992
  nf : a.fs.length ≤ 64
  nl : a.ls.length ≤ 16
  fs : ∀ f ∈ a.fs, f.size ≤ 256
  ls : ∀ l ∈ a.ls, (0 ≤ l.1 ∧ l.1 < 8) ∧ RuleOK l.2
theorem good_facts {a : AdvT} (h : goodA a = true) : GoodF a := by
  unfold goodA headOK at h
  simp only [Bool.and_eq_true, decide_eq_true_eq, List.all_eq_true] at h
  obtain ⟨⟨h1, h2, h3, h4, h5, h6⟩, h7, h8⟩ := h
  refine ⟨⟨h1, h2⟩, ⟨h3, h4⟩, h5, h6, fun f hf => filt_size (h7 f hf), fun l hl => ?_⟩
  have := h8 l hl
  unfold linkOK at this
  simp only [Bool.and_eq_true, decide_eq_true_eq] at this
  exact ⟨⟨this.1.1, this.1.2.1⟩, chk_ok this.2⟩

theorem datL_len {s : ByteArray} (h : s.size ≤ 256) : (datL s).length ≤ 258 := by
  rw [datL_eq, List.length_append, fixL_len, Array.length_toList]
  have : s.data.size = s.size := rfl
  omega
theorem flat_le {α : Type} {f : α → bytesL} {n : Nat} : ∀ {l : List α}, (∀ x ∈ l, (f x).length ≤ n) → (l.flatMap f).length ≤ l.length * n
  | [], _ => by simp
  | x :: l, h => by
    rw [List.flatMap_cons, List.length_append, List.length_cons, Nat.succ_mul]
    have h1 := h x (List.mem_cons_self ..)
    have h2 := flat_le (l := l) fun y hy => h y (List.mem_cons_of_mem _ hy)
    omega
theorem putK_len {l : LinkT} (h : RuleOK l.2) : (putK l).length ≤ 777 := by
  unfold putK
  simp only [List.length_append, fixL_len]
  have h1 := datL_len h.p
  have h2 := datL_len h.l
  have h3 := datL_len h.rm
  omega
theorem ints_of_bytes (t : ByteArray) : bytesOfInts (intsS t) = t := by
  refine data_inj ?_
  rw [ints_data]
  unfold intsS
  rw [List.map_map]
  have : ((fun n : Int => UInt8.ofNat n.toNat) ∘ fun b : UInt8 => (b.toNat : Int)) = id := by
    funext b
    simp
  rw [this, List.map_id]

end Go.Proofs.YtfhalebbcbgbdaaGreatDoor
