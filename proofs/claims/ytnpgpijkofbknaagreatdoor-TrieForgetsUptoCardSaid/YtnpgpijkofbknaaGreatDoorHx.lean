/-
  Hx: sets as maps to bools; entries that are set in place; keys of two numbers.
-/
import Derived.Test.YtnpgpijkofbknaaGreatDoorHB
namespace Go.H
set_option linter.unusedSimpArgs false
set_option linter.unusedVariables false
open Go.MapKept (Stamped)

section
variable {K : Type} [DecidableEq K]
/-- a list's elements as keys that all have this value -/
def allM {V : Type} (v : V) (l : List K) : List (K × V) := l.map fun k => (k, v)
theorem mget_allM {V : Type} (v : V) (l : List K) (k : K) : mget (allM v l) k = if k ∈ l then some v else none := by
  induction l with
  | nil => rfl
  | cons a l ih =>
    show mget ((a, v) :: allM v l) k = _
    rw [mget_cons, ih]
    by_cases h : a = k
    · simp [h]
    · simp [h, Ne.symm h]
theorem mset_allM {V : Type} (v : V) (l : List K) (k : K) (h : k ∉ l) : mset (allM v l) k v = allM v (l ++ [k]) := by
  rw [mset_none _ _ _ (by rw [mget_allM, if_neg h])]
  simp [allM]
omit [DecidableEq K] in
theorem allM_len {V : Type} (v : V) (l : List K) : (allM v l).length = l.length := by simp [allM]

/-- a set as a map to bools -/
abbrev setM (l : List K) : List (K × Bool) := allM true l
theorem mget_setM (l : List K) (k : K) : mget (setM l) k = if k ∈ l then some true else none := mget_allM true l k
theorem mset_setM (l : List K) (k : K) (h : k ∉ l) : mset (setM l) k true = setM (l ++ [k]) := mset_allM true l k h

theorem mset_same {V : Type} : ∀ {l : List (K × V)} {k : K} {v : V}, mget l k = some v → mset l k v = l
  | [], k, v, h => by simp at h
  | (a, b) :: l, k, v, h => by
    rw [mget_cons] at h
    by_cases e : a = k
    · rw [if_pos e] at h
      cases h
      simp [mset, e]
    · rw [if_neg e] at h
      simp only [mset, if_neg e, mset_same h]
theorem mset_twice {V : Type} : ∀ (l : List (K × V)) (k : K) (x v : V), mset (mset l k x) k v = mset l k v
  | [], k, x, v => by simp [mset]
  | (a, b) :: l, k, x, v => by
    by_cases e : a = k
    · simp [mset, e]
    · simp only [mset, if_neg e, mset_twice l k x v]
end

theorem modify_id {α : Type} {es : Array α} {j : Nat} {e : α} {f : α → α} (h : es[j]? = some e) (hf : f e = e) : es.modify j f = es := by
  refine Array.ext_getElem? fun i => ?_
  rw [Array.getElem?_modify]
  by_cases e : j = i
  · subst e
    simp [h, hf]
  · simp [e]
theorem set_id {h : Heap} {b : Nat} {o : Obj} (hb : h[b]? = some o) : h.setIfInBounds b o = h := by
  refine Array.ext_getElem? fun i => ?_
  rw [Array.getElem?_setIfInBounds]
  by_cases e : b = i
  · subst e
    obtain ⟨hlt, he⟩ := Array.getElem?_eq_some_iff.1 hb
    simp [hlt, he]
  · simp [e]

section
variable {K V : Type} {h : Heap} {R : List Asn} {ek : K → Value}

/-- a map's block, with the stamp of a key's entry -/
def entA (ek : K → Value) (ev : V → Value) (r : Nat) (l : List (K × V)) (k : K) (st : Int) : Asn :=
  exA fun x : Array MapEntry × Nat => star (pr (Ents ek ev l x.1.toList ∧ Stamped x.1 x.2 ∧ ∃ e ∈ x.1.toList, e.key = ek k ∧ (e.born : Int) = st)) (blk r (.map x.1 x.2))

theorem entA_iff {ev : V → Value} {r : Nat} {l : List (K × V)} {k : K} {st : Int} : sat h (entA ek ev r l k st :: R) ↔ ∃ es clock, (Ents ek ev l es.toList ∧ Stamped es clock ∧ ∃ e ∈ es.toList, e.key = ek k ∧ (e.born : Int) = st) ∧ sat h (blk r (.map es clock) :: R) := by
  unfold entA
  rw [sat.ex_iff]
  constructor
  · rintro ⟨⟨es, c⟩, hs⟩
    rw [sat.star_iff, sat.pr_iff] at hs
    exact ⟨es, c, hs⟩
  · rintro ⟨es, c, hs⟩
    exact ⟨(es, c), by rw [sat.star_iff, sat.pr_iff]; exact hs⟩

theorem entA_map {ev : V → Value} {r : Nat} {l : List (K × V)} {k : K} {st : Int} (hs : sat h (entA ek ev r l k st :: R)) : sat h (mapA ek ev r l :: R) := by
  obtain ⟨es, c, ⟨he, hst, -⟩, hs⟩ := entA_iff.1 hs
  exact mapA_iff.2 ⟨es, c, ⟨he, hst⟩, hs⟩

variable [DecidableEq K]

theorem mapEntry_map {kd : SameK} (hk : KeyLaw kd ek) (hinj : ∀ a b, ek a = ek b → a = b) {kind : Kind} {z : kind.ty} {zero : Value} (hz : zero = kind.val z) {r : Nat} {l : List (K × kind.ty)} {k : K} {Q : kind.ty × Int → Heap → Prop}
    (hs : sat h (mapA ek kind.val r l :: R)) (hq : ∀ st h', sat h' (entA ek kind.val r (mset l k ((mget l k).getD z)) k st :: R) → Q ((mget l k).getD z, st) h') : HM.mapEntry kd zero kind (some r) (ek k) h Q := by
  obtain ⟨es, c, ⟨he, hst⟩, hs⟩ := mapA_iff.1 hs
  have hlt := hs.lt
  rcases place_of hk k l es.toList 0 he with ⟨h1, h2⟩ | ⟨v, j, e, h1, h2, h3, h4⟩
  · rw [h1] at hq
    refine ⟨r, es, c, none, rfl, hs.get, h2, z, hz, hq _ _ (entA_iff.2 ⟨_, _, ⟨?_, ?_, { key := ek k, val := zero, born := c }, by simp, rfl, rfl⟩, hs.turn (o' := .map (es.push { key := ek k, val := zero, born := c }) (c + 1)) (by simp [hlt]) (fun k hk => ?_)⟩)⟩
    · simp only [Option.getD_none]
      rw [mset_none l k z h1]
      simp only [Ents, Array.toList_push, List.map_append, List.map_cons, List.map_nil]
      rw [he, hz]
    · refine Go.MapKept.stamped_push hst fun y hy hyk => ?_
      have e : es.toList.map (·.key) = (l.map (·.1)).map ek := by
        have := congrArg (List.map Prod.fst) he
        simpa [Function.comp_def] using this
      have hm : ek k ∈ (l.map (·.1)).map ek := by rw [← e, ← hyk]; exact List.mem_map_of_mem hy
      obtain ⟨k', hk', he'⟩ := List.mem_map.1 hm
      exact (mget_none_iff l k).1 h1 (hinj _ _ he' ▸ hk')
    · rw [Array.getElem?_setIfInBounds, if_neg (fun e => hk e.symm)]
  · have h3' : es[0 + j]? = some e := by simpa using h3
    rw [h1] at hq
    have hmod : es.modify (0 + j) (fun e => { e with key := ek k }) = es := modify_id h3' (by rw [← h4])
    refine ⟨r, es, c, some (0 + j, kind.val v), rfl, hs.get, h2, ?_, hk.bits k, v, rfl, ?_⟩
    · rw [h3']; exact h4
    · rw [hmod, set_id hs.get]
      refine hq _ _ (entA_iff.2 ⟨es, c, ⟨?_, hst, e, List.mem_of_getElem? h3, h4, ?_⟩, hs⟩)
      · simp only [Option.getD_some]
        rw [mset_same h1]
        exact he
      · rw [h3']; rfl

theorem entryStore_map {kd : SameK} (hk : KeyLaw kd ek) (hinj : ∀ a b, ek a = ek b → a = b) {ev : V → Value} {r : Nat} {l : List (K × V)} {k : K} {st : Int} {x : V} {Q : Unit → Heap → Prop}
    (hs : sat h (entA ek ev r l k st :: R)) (hq : ∀ h', sat h' (mapA ek ev r (mset l k x) :: R) → Q () h') : HM.entryStore (some r) st (ev x) h Q := by
  obtain ⟨es, c, ⟨he, hst, e0, hm0, hk0, hst0⟩, hs⟩ := entA_iff.1 hs
  have hlt := hs.lt
  have hb : (es.toList.map (·.born)).Nodup := hst.2.1
  have hkk : (es.toList.map (·.key)).Nodup := hst.2.2
  rcases place_of hk k l es.toList 0 he with ⟨h1, h2⟩ | ⟨v, j, e, h1, h2, h3, h4⟩
  · exfalso
    have e : es.toList.map (·.key) = (l.map (·.1)).map ek := by
      have := congrArg (List.map Prod.fst) he
      simpa [Function.comp_def] using this
    have hm : ek k ∈ (l.map (·.1)).map ek := by rw [← e, ← hk0]; exact List.mem_map_of_mem hm0
    obtain ⟨k', hk', he'⟩ := List.mem_map.1 hm
    exact (mget_none_iff l k).1 h1 (hinj _ _ he' ▸ hk')
  · obtain ⟨i, hi, hie⟩ := List.getElem_of_mem hm0
    have hj : j < es.toList.length := (List.getElem?_eq_some_iff.1 h3).1
    have hje : es.toList[j] = e := (List.getElem?_eq_some_iff.1 h3).2
    have hij : i = j := by
      have := (List.getElem_inj (xs := es.toList.map (·.key)) (i := i) (j := j) (h₀ := by simpa using hi) (h₁ := by simpa using hj) hkk).1 (by simp only [List.getElem_map]; rw [hie, hje, hk0, h4])
      exact this
    subst hij
    have hee : e = e0 := hje.symm.trans hie
    subst hee
    have hfind : es.findIdx? (fun e => (e.born : Int) == st) = some i := by
      rw [Array.findIdx?_eq_some_iff_getElem]
      refine ⟨by simpa using hi, ?_, fun a ha => ?_⟩
      · have : es[i]'(by simpa using hi) = e := by simpa using hie
        rw [this]; simpa using hst0
      · intro hh
        have ha' : a < es.toList.length := by omega
        have hba : (es.toList[a]).born = e.born := by
          have : ((es[a]'(by simpa using ha')).born : Int) = st := by simpa using hh
          rw [← hst0] at this
          have h10 : (es[a]'(by simpa using ha')).born = e.born := by omega
          simpa using h10
        have := (List.getElem_inj (xs := es.toList.map (·.born)) (i := a) (j := i) (h₀ := by simpa using ha') (h₁ := by simpa using hi) hb).1 (by simp only [List.getElem_map]; rw [hie, hba])
        omega
    have h3' : es[i]? = some e := by simpa using h3
    refine ⟨r, es, c, i, rfl, hs.get, hfind, hq _ (mapA_iff.2 ⟨_, _, ⟨?_, ?_⟩, hs.turn (o' := .map (es.modify i fun e => { e with val := ev x }) c) (by simp [hlt]) (fun k hk => ?_)⟩)⟩
    · have := (ents_set hinj k x l es.toList he 0 _ kd hk h2).1
      simp only [Nat.zero_add, Nat.sub_zero] at this
      rw [Array.toList_modify]
      have e2 : es.toList.modify i (fun e => { e with key := ek k, val := ev x }) = es.toList.modify i (fun e => { e with val := ev x }) := by
        refine List.ext_getElem? fun a => ?_
        rw [List.getElem?_modify, List.getElem?_modify]
        by_cases hai : i = a
        · subst hai
          simp [h3, h4]
        · simp [hai]
      rw [← e2]
      exact this
    · exact Go.MapKept.stamped_modify hst _ _ (fun _ _ => rfl) (fun e' _ he' => rfl)
    · rw [Array.getElem?_setIfInBounds, if_neg (fun e => hk e.symm)]

end

abbrev e2 (k : Int × Int) : Value := .agg #[.int .i64 k.1, .int .i64 k.2]
theorem inj_e2 : ∀ a b : Int × Int, e2 a = e2 b → a = b := fun a b h => by
  have : (Array.toList #[Value.int .i64 a.1, .int .i64 a.2]) = (Array.toList #[Value.int .i64 b.1, .int .i64 b.2]) := congrArg Array.toList (Value.agg.inj h)
  simp at this
  exact Prod.ext this.1 this.2
theorem key_e2 {kd : SameK} (he : ∀ a b c d : Int, kd (.agg #[.int .i64 a, .int .i64 b]) (.agg #[.int .i64 c, .int .i64 d]) = some ((a == c) && ((b == d) && true))) : KeyLaw kd e2 := ⟨fun a b => by
  rw [he]
  congr 1
  rw [Bool.and_true, Bool.eq_iff_iff]
  simp [Prod.ext_iff], fun a => by simp [Instr.sameBits]⟩

end Go.H
