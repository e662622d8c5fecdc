/-
  Hbt: a buffer of bytes that grows, its blocks' types kept (for the shelf's contracts of a builder).
-/
import Derived.Test.YtfhalebbcbgbdaaGreatDoorHv
namespace Go.H
set_option linter.unusedSimpArgs false
set_option linter.unusedVariables false

/-- the slice s of a block of its own, of cells of type T, holds these bytes -/
structure BufF (s : Slc) (xs : List Int) (g : Nat) (cur : Array Value) : Prop where
  a : s.a = some ⟨g, 0, none⟩
  le : s.len ≤ s.cap
  len : s.len = xs.length
  size : cur.size = s.cap
  front : cur.toList.take s.len = xs.map (Value.int .u8)
  cap : s.cap ≤ 9223372036854775807

def bufA (T : TypeId) (s : Slc) (xs : List Int) : Asn := fun m =>
  (s = ⟨none, 0, 0⟩ ∧ xs = []) ∨ exA (fun x : Nat × Array Value => star (pr (BufF s xs x.1 x.2)) (blk x.1 (.cells x.2 T (0, 0)))) m

section
variable {h : Heap} {R : List Asn} {T : TypeId} {s : Slc} {xs : List Int}

theorem bufA_cases (hs : sat h (bufA T s xs :: R)) : (s = ⟨none, 0, 0⟩ ∧ xs = [] ∧ sat h R) ∨ ∃ g cur, BufF s xs g cur ∧ sat h (blk g (.cells cur T (0, 0)) :: R) := by
  obtain ⟨m, h1, a, r, hd, rfl, ha, hr⟩ := hs
  rcases ha with ⟨h2, h3⟩ | h2
  · exact .inl ⟨h2, h3, r, (join_sub h1 hd).2, hr⟩
  · right
    have hs' : sat h (exA (fun x : Nat × Array Value => star (pr (BufF s xs x.1 x.2)) (blk x.1 (.cells x.2 T (0, 0)))) :: R) := ⟨_, h1, a, r, hd, rfl, h2, hr⟩
    rw [sat.ex_iff] at hs'
    obtain ⟨⟨g, cur⟩, hs'⟩ := hs'
    rw [sat.star_iff, sat.pr_iff] at hs'
    exact ⟨g, cur, hs'.1, hs'.2⟩
theorem bufA_mk {g : Nat} {cur : Array Value} (ho : BufF s xs g cur) (hs : sat h (blk g (.cells cur T (0, 0)) :: R)) : sat h (bufA T s xs :: R) := by
  have hs' : sat h (exA (fun x : Nat × Array Value => star (pr (BufF s xs x.1 x.2)) (blk x.1 (.cells x.2 T (0, 0)))) :: R) := by
    rw [sat.ex_iff]
    refine ⟨(g, cur), ?_⟩
    rw [sat.star_iff, sat.pr_iff]
    exact ⟨ho, hs⟩
  exact hs'.imp fun m hm => .inr hm
theorem bufA_nil (hs : sat h R) : sat h (bufA T ⟨none, 0, 0⟩ [] :: R) := by
  obtain ⟨m, h1, hr⟩ := hs
  exact ⟨m, h1, fun _ => none, m, fun k => .inl rfl, by funext k; rfl, .inl ⟨rfl, rfl⟩, hr⟩

theorem blk_set {g : Nat} {cur : Array Value} (hs : sat h (blk g (.cells cur T (0, 0)) :: R)) (i : Nat) (v : Value) : sat (setCellH h ⟨g, i, none⟩ v) (blk g (.cells (cur.setIfInBounds i v) T (0, 0)) :: R) := by
  have hlt := hs.lt
  have hg := hs.get
  refine hs.turn ?_ fun k hk => ?_
  · unfold setCellH
    rw [Array.getElem?_modify, if_pos rfl, hg]
    rfl
  · unfold setCellH
    rw [Array.getElem?_modify, if_neg (fun e => hk e.symm)]

theorem blk_sets {g : Nat} : ∀ (vs : List Value) (cur : Array Value) (o i : Nat) {h : Heap} {R : List Asn}, sat h (blk g (.cells cur T (0, 0)) :: R) → o + i + vs.length ≤ cur.size →
    ∃ cs' : Array Value, cs'.size = cur.size ∧ cs'.toList = cur.toList.take (o + i) ++ vs ++ cur.toList.drop (o + i + vs.length) ∧ sat (setCellsH h ⟨g, o, none⟩ vs i) (blk g (.cells cs' T (0, 0)) :: R)
  | [], cs, o, i, h, R, hs, hl => ⟨cs, rfl, by simp, hs⟩
  | v :: vs, cs, o, i, h, R, hs, hl => by
    simp only [List.length_cons] at hl
    have h1 := blk_set hs (o + i) v
    obtain ⟨cs', e1, e2, h2⟩ := blk_sets vs (cs.setIfInBounds (o + i) v) o (i + 1) h1 (by simp; omega)
    refine ⟨cs', by simpa using e1, ?_, by simpa [setCellsH, Addr.add_at] using h2⟩
    rw [e2, Array.toList_setIfInBounds]
    have hlen : o + i < cs.toList.length := by simp; omega
    rw [show o + (i + 1) = (o + i) + 1 from by omega, List.take_succ_eq_append_getElem (by simpa using hlen)]
    rw [List.getElem_set_self, List.take_set_of_le (Nat.le_refl _), List.drop_set_of_lt (by omega)]
    simp only [List.length_cons, List.append_assoc, List.cons_append, List.nil_append]
    rw [show o + i + 1 + vs.length = o + i + (vs.length + 1) from by omega]

/-- a text's bytes -/
def intsS (t : ByteArray) : List Int := t.data.toList.map fun b => (b.toNat : Int)
theorem intsS_len (t : ByteArray) : (intsS t).length = t.size := by
  unfold intsS
  rw [List.length_map, Array.length_toList]
  rfl

theorem append_buf {t : ByteArray} {Q : Slc → Heap → Prop} (hs : sat h (bufA T s xs :: R)) (hb : xs.length + t.size ≤ 140737488355328)
    (hq : ∀ s' h', sat h' (bufA T s' (xs ++ intsS t) :: R) → Q s' h') : HM.append T 1 1 #[.int .u8 0] s t.size (srcStr t) h Q := by
  have hvs : (t.data.map fun b => Value.int .u8 b.toNat).toList = (intsS t).map (Value.int .u8) := by simp [intsS, Function.comp_def]
  have hvl : (t.data.map fun b => Value.int .u8 b.toNat).toList.length = t.size := by rw [hvs, List.length_map, intsS_len]
  constructor
  · intro hc
    refine ⟨_, rfl, ?_⟩
    rcases bufA_cases hs with ⟨rfl, rfl, hs1⟩ | ⟨g, cur, hf, hs1⟩
    · have h0 : t.size = 0 := by simpa using hc
      have hq' := hq ⟨none, 0, 0⟩ h
      have e : intsS t = [] := List.eq_nil_of_length_eq_zero (by rw [intsS_len]; exact h0)
      rw [e] at hq'
      simp only [h0]
      exact hq' (bufA_nil hs1)
    · rw [hf.a]
      simp only [Addr.add_at, Nat.mul_one, Nat.zero_add]
      have hlen : s.len + 0 + (t.data.map fun b => Value.int .u8 b.toNat).toList.length ≤ cur.size := by rw [hvl, hf.size]; omega
      have hget := hs1.get
      refine ⟨fun i v hi => ?_, ?_⟩
      · have hlt : i < t.size := by
          have := (Array.getElem?_eq_some_iff.1 hi).1
          simpa using this
        have hil : s.len + i < cur.size := by rw [hf.size]; omega
        refine ⟨?_, ?_, ?_⟩
        · simp [cellH, hget, Array.getElem?_eq_getElem hil]
        · simp [frozenH, hget]
        · rw [Array.getElem?_map] at hi
          obtain ⟨b, _, rfl⟩ := Option.map_eq_some_iff.1 hi
          rfl
      · obtain ⟨cs', e1, e2, h2⟩ := blk_sets (t.data.map fun b => Value.int .u8 b.toNat).toList cur s.len 0 hs1 hlen
        refine hq _ _ (bufA_mk (g := g) (cur := cs') ⟨rfl, hc, by simp [hf.len, intsS_len], by rw [e1]; exact hf.size, ?_, hf.cap⟩ h2)
        rw [e2, hvs]
        simp only [Nat.add_zero, List.length_map, intsS_len]
        rw [hf.front, ← List.map_append]
        have hl3 : s.len + t.size = (xs ++ intsS t).length := by rw [List.length_append, intsS_len, hf.len]
        rw [hl3, List.take_left' (by rw [List.length_map])]
  · intro hc
    have hl : s.len = xs.length ∧ readsH h s.a (s.len * 1) (xs.map (Value.int .u8)).toArray := by
      rcases bufA_cases hs with ⟨rfl, rfl, hs1⟩ | ⟨g, cur, hf, hs1⟩
      · exact ⟨rfl, rfl⟩
      · refine ⟨hf.len, ?_⟩
        rw [hf.a]
        refine ⟨by simp [hf.len], fun i v hi => ?_⟩
        have hget := hs1.get
        have h1 : (xs.map (Value.int .u8))[i]? = some v := by simpa using hi
        rw [← hf.front, List.getElem?_take] at h1
        split at h1
        · rw [Addr.add_at]
          simp only [cellH, hget]
          simpa using h1
        · cases h1
    have hR : sat h R := hs.drop
    refine ⟨by omega, growslice_fits hc (by omega), _, _, hl.2, rfl, fun c hcc hc2 => hq _ _ ?_⟩
    refine bufA_mk (g := h.size) ⟨rfl, hcc, by simp [hl.1, intsS_len], ?_, ?_, hc2⟩ hR.push
    · simp only [Array.size_append, List.size_toArray, List.length_map, Array.size_map, Builtin.zeroCells, Array.size_range]
      have : t.data.size = t.size := rfl
      simp
      omega
    · simp only [Array.toList_append, hvs, ← List.map_append]
      rw [List.take_append_of_le_length (by rw [List.length_map, List.length_append, intsS_len]; omega), List.take_of_length_le (by rw [List.length_map, List.length_append, intsS_len]; omega)]

/-- a block of one's own was not there -/
theorem fresh_old {hB : Heap} {g : Nat} {o : Obj} (hs : sat h (blk g o :: old hB :: R)) : hB.size ≤ g := by
  obtain ⟨m, h1, a, r, hd, rfl, ha, a2, r2, hd2, rfl, ha2, hr2⟩ := hs
  rcases Nat.lt_or_ge g hB.size with hlt | hge
  · exfalso
    have h2 := ha2 g hB[g] (Array.getElem?_eq_getElem hlt)
    rcases hd g with h3 | h3
    · rw [show a g = some o from ha] at h3; cases h3
    · rw [join_left h2] at h3; cases h3
  · exact hge

end
end Go.H
