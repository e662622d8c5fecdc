/-
  Hq: walks over the entries of a map.
-/
import Derived.Test.YtmdagnoknmfhcaaDoorHm
namespace Go.H
set_option linter.unusedSimpArgs false
set_option linter.unusedVariables false
open Go.MapKept (Stamped)

section
variable {K V : Type}

/-- entries that read as these pairs -/
def PairE (ek : K → Value) (ev : V → Value) (l : List (K × V)) (es : List MapEntry) : Prop := es.map (fun e => (e.key, e.val)) = l.map (fun p => (ek p.1, ev p.2))

/-- a walk over a map's entries is under way: what was met, what is left -/
structure ItF (ek : K → Value) (ev : V → Value) (l done todo : List (K × V)) (es : Array MapEntry) (clock : Nat) (seen : Array Nat) (des tes : List MapEntry) : Prop where
  ents : Ents ek ev l es.toList
  stamped : Stamped es clock
  perm : (des ++ tes).Perm es.toList
  seen : seen.toList = des.map (·.born)
  done : PairE ek ev done des
  todo : PairE ek ev todo tes

def itA (ek : K → Value) (ev : V → Value) (m : Nat) (l : List (K × V)) (it : Nat) (done todo : List (K × V)) : Asn :=
  exA fun x : Array MapEntry × Nat × Array Nat × List MapEntry × List MapEntry =>
    star (pr (ItF ek ev l done todo x.1 x.2.1 x.2.2.1 x.2.2.2.1 x.2.2.2.2)) (star (blk it (.mapIter (some m) x.2.1 x.2.2.1 x.2.1)) (blk m (.map x.1 x.2.1)))

variable {h : Heap} {R : List Asn} {ek : K → Value} {ev : V → Value} {m it : Nat} {l done todo : List (K × V)}

theorem itA_iff : sat h (itA ek ev m l it done todo :: R) ↔ ∃ es clock seen des tes, ItF ek ev l done todo es clock seen des tes ∧ sat h (blk it (.mapIter (some m) clock seen clock) :: blk m (.map es clock) :: R) := by
  unfold itA
  rw [sat.ex_iff]
  constructor
  · rintro ⟨⟨es, c, s, d, t⟩, hs⟩
    rw [sat.star_iff, sat.pr_iff, sat.star_iff] at hs
    exact ⟨es, c, s, d, t, hs⟩
  · rintro ⟨es, c, s, d, t, hs⟩
    exact ⟨(es, c, s, d, t), by rw [sat.star_iff, sat.pr_iff, sat.star_iff]; exact hs⟩

theorem range_map {Q : Nat → Heap → Prop} (hs : sat h (mapA ek ev m l :: R)) (hq : ∀ it h', sat h' (itA ek ev m l it [] l :: R) → Q it h') : HM.rangeM (some m) h Q := by
  obtain ⟨es, c, ⟨he, hst⟩, hs⟩ := mapA_iff.1 hs
  refine ⟨es, c, hs.get, ?_⟩
  refine hq _ _ (itA_iff.2 ⟨es, c, #[], [], es.toList, ⟨he, hst, by simp, rfl, rfl, he⟩, ?_⟩)
  exact hs.push

/-- a walk that is over: the map -/
theorem itA_map (hs : sat h (itA ek ev m l it done todo :: R)) : sat h (mapA ek ev m l :: R) := by
  obtain ⟨es, c, s, d, t, hf, hs⟩ := itA_iff.1 hs
  exact mapA_iff.2 ⟨es, c, ⟨hf.ents, hf.stamped⟩, hs.drop⟩

theorem next_map {Q : Option (Value × Value) → Heap → Prop} (hs : sat h (itA ek ev m l it done todo :: R)) (h0 : todo = [] → Q none h)
    (h1 : ∀ (p : K × V) (t1 t2 : List (K × V)), todo = t1 ++ p :: t2 → ∀ h', sat h' (itA ek ev m l it (done ++ [p]) (t1 ++ t2) :: R) → Q (some (ek p.1, ev p.2)) h') : HM.nextM it h Q := by
  obtain ⟨es, c, seen, des, tes, hf, hs⟩ := itA_iff.1 hs
  have hborn : ∀ e ∈ es, e.born < c := fun e he => hf.stamped.1 e (by simpa using he)
  have hnd : (es.toList.map (·.born)).Nodup := hf.stamped.2.1
  have hnd' : ((des ++ tes).map (·.born)).Nodup := (hf.perm.map (·.born)).nodup_iff.2 hnd
  rw [List.map_append, List.nodup_append] at hnd'
  have hmem : ∀ e : MapEntry, e ∈ es ↔ e ∈ des ∨ e ∈ tes := fun e => by
    rw [← Array.mem_toList_iff, ← hf.perm.mem_iff, List.mem_append]
  have hseen : ∀ b, seen.contains b = true ↔ b ∈ des.map (·.born) := fun b => by
    rw [← hf.seen]; simp
  have htes : ∀ e ∈ es, seen.contains e.born = false → e ∈ tes := fun e he hc => by
    rcases (hmem e).1 he with hd | ht
    · exact absurd ((hseen e.born).2 (List.mem_map_of_mem hd)) (by rw [hc]; simp)
    · exact ht
  refine ⟨some m, c, seen, c, hs.get, es, c, hs.p1.get, ?_, fun hall => ?_, fun e he hc => ?_⟩
  · by_cases hz : es.isEmpty = true
    · simp [hz]
    · have hne : es ≠ #[] := by simpa using hz
      obtain ⟨e, he⟩ : ∃ e, e ∈ es := ⟨es[0]'(Array.size_pos_iff.2 hne), Array.getElem_mem _⟩
      have hlt := hborn e he
      have : es.all (fun e => decide (e.born ≥ c)) = false := by
        cases hh : es.all (fun e => decide (e.born ≥ c)) with
        | false => rfl
        | true =>
          rw [Array.all_eq_true_iff_forall_mem] at hh
          have := hh e he
          simp at this
          omega
      simp [this]
  · -- nothing is left
    refine h0 ?_
    have : tes = [] := by
      cases tes with
      | nil => rfl
      | cons e t =>
        have he : e ∈ es := (hmem e).2 (.inr (List.mem_cons_self ..))
        have hnc : seen.contains e.born = false := by
          cases hh : seen.contains e.born with
          | false => rfl
          | true =>
            exact absurd rfl (hnd'.2.2 e.born ((hseen _).1 hh) e.born (by simp))
        have := hall e he hnc
        have := hborn e he
        omega
    have ht := hf.todo
    rw [this] at ht
    simp only [PairE, List.map_nil] at ht
    exact List.map_eq_nil_iff.1 ht.symm
  · have ht := htes e he hc
    obtain ⟨t1, t2, rfl⟩ := List.append_of_mem ht
    have htd := hf.todo
    simp only [PairE, List.map_append, List.map_cons] at htd
    obtain ⟨l1, l2', e1, e2, e3⟩ := List.map_eq_append_iff.1 htd.symm
    obtain ⟨p, l2, e4, e5, e6⟩ := List.map_eq_cons_iff.1 e3
    subst e4
    have e5' : (ek p.1, ev p.2) = (e.key, e.val) := e5
    obtain ⟨k1, k2⟩ := Prod.mk.inj e5'
    rw [← k1, ← k2]
    have hlt := hs.lt
    refine h1 p l1 l2 e1 _ (itA_iff.2 ⟨es, c, seen.push e.born, des ++ [e], t1 ++ t2, ⟨hf.ents, hf.stamped, ?_, ?_, ?_, ?_⟩, ?_⟩)
    · refine List.Perm.trans ?_ hf.perm
      rw [List.append_assoc]
      refine List.Perm.append_left des ?_
      show (e :: (t1 ++ t2)).Perm _
      exact List.perm_middle.symm
    · simp [hf.seen]
    · simp only [PairE, List.map_append, List.map_cons, List.map_nil]
      rw [hf.done, e5']
    · simp only [PairE, List.map_append]
      rw [e2, e6]
    · exact hs.turn (o' := .mapIter (some m) c (seen.push e.born) c) (by simp [hlt]) (fun k hk => by rw [Array.getElem?_setIfInBounds, if_neg (fun e => hk e.symm)])

theorem entry_map {kk kv : Kind} {p : K × V} {x : kk.ty} {y : kv.ty} {Q : kk.ty × kv.ty → Heap → Prop} (hk : ek p.1 = kk.val x) (hv : ev p.2 = kv.val y)
    (hs : sat h (itA ek ev m l it (done ++ [p]) todo :: R)) (hq : Q (x, y) h) : HM.entryM kk kv it h Q := by
  obtain ⟨es, c, seen, des, tes, hf, hs⟩ := itA_iff.1 hs
  have hd := hf.done
  simp only [PairE, List.map_append, List.map_cons, List.map_nil] at hd
  obtain ⟨d1, d2', e1, e2, e3⟩ := List.map_eq_append_iff.1 hd
  obtain ⟨e, d2, e4, e5, e6⟩ := List.map_eq_cons_iff.1 e3
  have : d2 = [] := List.map_eq_nil_iff.1 e6
  subst this e4 e1
  obtain ⟨k1, k2⟩ := Prod.mk.inj e5
  have hnd : (es.toList.map (·.born)).Nodup := hf.stamped.2.1
  have hem : e ∈ es.toList := hf.perm.mem_iff.1 (by simp)
  have hfind : es.find? (fun x => x.born == e.born) = some e := by
    rw [← Array.find?_toList]
    obtain ⟨a, b, hab⟩ := List.append_of_mem hem
    rw [hab]
    rw [hab, List.map_append, List.map_cons, List.nodup_append] at hnd
    rw [List.find?_append]
    have : a.find? (fun x => x.born == e.born) = none := by
      rw [List.find?_eq_none]
      intro x hx
      have := hnd.2.2 x.born (List.mem_map_of_mem hx) e.born (by simp)
      simpa using this
    rw [this]
    simp
  have hback : seen.back? = some e.born := by
    have hsn := hf.seen
    rw [List.map_append, List.map_cons, List.map_nil] at hsn
    rw [← Array.getLast?_toList, hsn]
    simp
  exact ⟨m, c, seen, c, es, e.born, e, x, y, hs.get, hback, hs.p1.get, hfind, k1.trans hk, k2.trans hv, hq⟩

end

@[simp] theorem opt_none {α β : Type} (a : HM β) (f : α → HM β) {h : Heap} {Q : β → Heap → Prop} : HM.opt none a f h Q = a h Q := rfl
@[simp] theorem opt_some {α β : Type} (x : α) (a : HM β) (f : α → HM β) {h : Heap} {Q : β → Heap → Prop} : HM.opt (some x) a f h Q = f x h Q := rfl

/-! ### many, side by side -/

def bigA {α : Type} (f : α → Asn) : List α → Asn
  | [] => pr True
  | x :: l => star (f x) (bigA f l)

section
variable {α : Type} {f : α → Asn} {h : Heap} {R : List Asn}

theorem bigA_nil : sat h (bigA f [] :: R) ↔ sat h R := sat.pr_iff.trans ⟨fun hh => hh.2, fun hh => ⟨trivial, hh⟩⟩
theorem bigA_cons {x : α} {l : List α} : sat h (bigA f (x :: l) :: R) ↔ sat h (f x :: bigA f l :: R) := sat.star_iff
theorem bigA_pick {x : α} {l2 : List α} : ∀ {l1 : List α} {R : List Asn}, sat h (bigA f (l1 ++ x :: l2) :: R) ↔ sat h (f x :: bigA f (l1 ++ l2) :: R)
  | [], R => bigA_cons
  | y :: l1, R => by
    rw [List.cons_append, List.cons_append, bigA_cons]
    constructor
    · intro hs
      exact (bigA_cons.2 (bigA_pick.1 hs.p1).p2.p2.p1).p1
    · intro hs
      exact (bigA_pick.2 (bigA_cons.1 hs.p1).p2.p2.p1).p1
theorem bigA_mem {x : α} {l : List α} (hx : x ∈ l) (hs : sat h (bigA f l :: R)) : ∃ R', sat h (f x :: R') := by
  obtain ⟨l1, l2, rfl⟩ := List.append_of_mem hx
  exact ⟨_, bigA_pick.1 hs⟩

end

/-! ### another order -/

theorem stars_perm {L L' : List Asn} (hp : L.Perm L') : ∀ m, stars L m → stars L' m := by
  induction hp with
  | nil => exact fun _ h => h
  | cons x _ ih => exact fun m h => star_mono (fun _ h => h) ih h
  | swap x y l => exact fun m h => stars_swap h
  | trans _ _ ih1 ih2 => exact fun m h => ih2 m (ih1 m h)

theorem sat.perm {h : Heap} {L L' : List Asn} (hp : L.Perm L') (hs : sat h L) : sat h L' :=
  let ⟨m, h1, h2⟩ := hs
  ⟨m, h1, stars_perm hp m h2⟩

theorem sat.trues {h : Heap} {R : List Asn} : ∀ (n : Nat), sat h R → sat h (List.replicate n (pr True) ++ R)
  | 0, hs => hs
  | n + 1, hs => sat.pr_iff.2 ⟨trivial, sat.trues n hs⟩

/-- the first ones, in the order of these numbers -/
theorem sat.re {h : Heap} {L : List Asn} (hs : sat h L) (idx : List Nat) (hi : idx.isPerm (List.range idx.length) = true := by rfl) :
    sat h (idx.map (fun i => L.getD i (pr True)) ++ L.drop idx.length) := by
  have h1 : (idx.map (fun i => L.getD i (pr True))).Perm ((List.range idx.length).map (fun i => L.getD i (pr True))) := (List.isPerm_iff.1 hi).map _
  refine sat.perm (h1.symm.append_right _) ?_
  generalize idx.length = n
  clear h1 hi
  by_cases hn : n ≤ L.length
  · have e : (List.range n).map (fun i => L.getD i (pr True)) = L.take n := by
      refine List.ext_getElem (by simp; omega) fun i h2 h3 => ?_
      simp at h2 h3
      simp [List.getElem?_eq_getElem (show i < L.length by omega)]
    rw [e, List.take_append_drop]
    exact hs
  · rw [List.drop_of_length_le (by omega), List.append_nil]
    have e : (List.range n).map (fun i => L.getD i (pr True)) = L ++ List.replicate (n - L.length) (pr True) := by
      refine List.ext_getElem? fun i => ?_
      rw [List.getElem?_append]
      by_cases h2 : i < L.length
      · simp [h2, show i < n by omega]
      · by_cases h3 : i < n
        · simp [h2, h3, List.getElem?_replicate, show i - L.length < n - L.length by omega, List.getElem?_eq_none (show L.length ≤ i by omega)]
        · simp [h2, h3, List.getElem?_replicate]
          omega
    rw [e]
    exact (sat.trues _ hs).perm List.perm_append_comm

section
variable {K V : Type} [DecidableEq K]
theorem mget_mem : ∀ {l : List (K × V)} {k : K} {v : V}, mget l k = some v → (k, v) ∈ l
  | [], k, v, h => by simp at h
  | (a, b) :: l, k, v, h => by
    rw [mget_cons] at h
    by_cases e : a = k
    · rw [if_pos e] at h
      cases h
      subst e
      exact List.mem_cons_self ..
    · rw [if_neg e] at h
      exact List.mem_cons_of_mem _ (mget_mem h)
theorem mdel_mid : ∀ {l1 l2 : List (K × V)} {k : K} {v : V}, k ∉ l1.map (·.1) → mdel (l1 ++ (k, v) :: l2) k = l1 ++ l2
  | [], l2, k, v, _ => by simp [mdel]
  | (a, b) :: l1, l2, k, v, h => by
    simp only [List.map_cons, List.mem_cons, not_or] at h
    simp only [List.cons_append, mdel, if_neg (fun e : a = k => h.1 e.symm), mdel_mid h.2]
end

end Go.H
