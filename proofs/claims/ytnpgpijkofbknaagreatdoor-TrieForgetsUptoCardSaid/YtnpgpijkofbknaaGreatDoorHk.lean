/-
  Hk: slices.Sorted(maps.Keys(m)) over heaps, keys of int's kind: by the shelf's contracts.
-/
import Derived.Test.YtnpgpijkofbknaaGreatDoorHB
import Derived.Shelf.SlIterI.Nil
import Derived.Shelf.SortM.Plain
import Derived.Shelf.SortM.SortNone
namespace Go.H
set_option linter.unusedSimpArgs false
set_option linter.unusedVariables false
open Go.RowKit Go.Maps Go.Sort Go.Shelf Go.Proofs

/-- a kit's contract whose world is 'Below' the one that it began with: over heaps -/
theorem below_grow {w w' : World} (hb : Below w.heap.size w w') : ∀ (k : Nat) o, w.heap[k]? = some o → w'.heap[k]? = some o := fun k o ho => by
  have hk := (Array.getElem?_eq_some_iff.1 ho).1
  rw [hb.block k hk]; exact ho
theorem below_same {B : Nat} {w w' : World} (hb : Below B w w') : Same w w' := ⟨hb.os, hb.tape, hb.output⟩

/-- an own row as the kit has it -/
theorem own_of_row {α : Type} {enc : α → List Value} {size base : Nat} {T : TypeId} {w' : World} {v : Value} {n : Nat} {xs : List α} {h : Heap} {R : List Asn}
    (hr : w'.ownsRow base T size v n (xs.flatMap enc)) (hn : n = xs.length) (hs : sat h R) (hg : ∀ (k : Nat) o, h[k]? = some o → w'.heap[k]? = some o) (hb : h.size ≤ base) :
    ∃ s : Slc, v = .slice s.a s.len s.cap ∧ sat w'.heap (ownS enc size s xs :: R) := by
  obtain ⟨h1, ⟨rfl, h2⟩ | ⟨g, cap, cur, rfl, h3, h4, h5, h6, h7, h8⟩⟩ := hr
  · have hx : xs = [] := List.eq_nil_of_length_eq_zero (by omega)
    subst hx
    exact ⟨⟨none, 0, 0⟩, rfl, ownS_nil (hs.grow hg)⟩
  · exact ⟨⟨some ⟨g, 0, none⟩, n, cap⟩, rfl, ownS_mk (o := 0) ⟨by simp, h5, hn, by simp only [Nat.zero_add]; exact Nat.le_of_eq h7.symm, by simpa using h8⟩ (hs.came_cells hg (by omega) h4)⟩

abbrev eI (x : Int) : List Value := [.int .i64 x]
def sortI (l : List Int) : List Int := l.mergeSort fun x y => decide (x ≤ y)

section
variable {P : Program} {ρk ρs ρt : Ren} {V : Type} {ev : V → Value} {h : Heap} {R : List Asn}

theorem keysI_call (K : SlLaysZI.n7 P ρk) (m : Option Nat) {Q : Value → Heap → Prop} (hq : Q (.func (.func (ρk.f 10)) #[] #[.pointer (some ⟨h.size, 0, none⟩)]) (h.push (.cells #[.map m] (ρk.t 23)))) :
    HCalls P (ρk.f 7) #[.map m] h Q := fun w hw => by
  subst hw
  refine (callsIn_wide (n := 5)).1 ((AnyZI.keys_in K Fence.wide 5 trivial rfl m w).mono ?_)
  rintro e w' ⟨rfl, rfl⟩
  exact ⟨_, rfl, ⟨rfl, rfl, rfl⟩, hq⟩

theorem sortsI (T : SlLaysM.n5 P ρt) (he : ρt.f 5 = ρs.f 9) (m : Nat) : AnyZI.SortsIn P ρs Fence.wide m := by
  refine ⟨fun blk off cap ss W hH hblk hsz => ?_, fun p cap W => ?_⟩
  · rw [← he]; exact callsIn_wide.2 (AnyM.slices_Sort_int T blk off cap ss W hH hblk hsz)
  · rw [← he]; exact callsIn_wide.2 (AnyM.slices_Sort_int_none T p cap W)

/-- the shelf's word for a map -/
theorem owns_of_map {H : Type} {w : World} {b : Nat} {l : List (Int × V)} {k : TypeId} (hk : P.underlying k = some (.int .i64)) (hs : sat w.heap (mapA (fun n : Int => .int .i64 n) ev b l :: R))
    (hw : ∀ p ∈ l, (Lit.int .i64 p.1).wf = true) (hl : l.length ≤ maxLen) :
    ∃ D0 : DataW H, w.ownsMap P k (fun _ => some (.nil, [])) b l.length D0 ∧ Maps.size D0 = l.length ∧ (intKeys D0).Perm (l.map (·.1)) := by
  obtain ⟨es, c, ⟨he, hst⟩, hs⟩ := mapA_iff.1 hs
  have hsz : es.size = l.length := by
    have := congrArg List.length he
    simpa using this
  have hkeys : es.toList.map (·.key) = l.map (fun p => Value.int .i64 p.1) := by
    have := congrArg (List.map Prod.fst) he
    simpa [Function.comp_def] using this
  have hrd : ∀ x ∈ es.toList, ∃ p ∈ l, x.key = .int .i64 p.1 ∧ WideElems.rd (H := H) P k (fun _ => some (.nil, [])) x = some (.int .i64 p.1, .nil) := by
    intro x hx
    have hm : x.key ∈ l.map (fun p => Value.int .i64 p.1) := by rw [← hkeys]; exact List.mem_map_of_mem hx
    obtain ⟨p, hp, e⟩ := List.mem_map.1 hm
    exact ⟨p, hp, e.symm, by simp [WideElems.rd, ← e, keyOf, hk, mapKey, hw p hp]⟩
  have hrg : es.toList.map (WideElems.rg (H := H) P k (fun _ => some (.nil, []))) = l.map (fun p => ((Lit.int .i64 p.1, DataW.nil) : Lit × DataW H)) := by
    have e1 : es.toList.map (WideElems.rg (H := H) P k (fun _ => some (.nil, []))) = (es.toList.map (·.key)).map (fun v => (match v with | .int q n => Lit.int q n | _ => .bool false, DataW.nil)) := by
      rw [List.map_map]
      refine List.map_congr_left fun x hx => ?_
      obtain ⟨p, hp, h1, h2⟩ := hrd x hx
      simp [WideElems.rg, h2, h1]
    rw [e1, hkeys, List.map_map]
    rfl
  refine ⟨_, ⟨es, c, hs.get, ⟨by omega, hst, fun x hx => ?_⟩, by omega, rfl⟩, ?_, ?_⟩
  · obtain ⟨p, _, _, h2⟩ := hrd x hx
    exact ⟨_, h2⟩
  · rw [hrg, Maps.size_eq, length_sorted, List.length_map]
  · rw [hrg]
    show (List.map _ _).Perm _
    refine ((WideShapes.sorted_perm _).map _).trans ?_
    rw [List.map_map]
    exact List.Perm.refl _

theorem sortedI_call (K : SlLaysZI.n7 P ρk) (S : SlLaysZI.n6 P ρs) (T : SlLaysM.n5 P ρt) (he : ρt.f 5 = ρs.f 9) (e9 : ∀ args w, (callFunc (ρs.f 9) args).run P w = .ok (.enter (ρs.f 9) args) w)
    (eg : ∀ args w, (callFunc (ρk.f 10) args).run P w = .ok (.enter (ρk.f 10) args) w) {b bm : Nat} {l : List (Int × V)}
    (hs : sat h (mapA (fun n : Int => .int .i64 n) ev b l :: R)) (hw : ∀ p ∈ l, (Lit.int .i64 p.1).wf = true) (hl : l.length * 8 ≤ 140737488355328) (hc : cellH h ⟨bm, 0, none⟩ = some (.map (some b))) {Q : Value → Heap → Prop}
    (hq : ∀ (s : Slc) h', sat h' (ownS eI 1 s (sortI (l.map (·.1))) :: mapA (fun n : Int => .int .i64 n) ev b l :: R) → Q (.slice s.a s.len s.cap) h') :
    HCalls P (ρs.f 6) #[.func (.func (ρk.f 10)) #[] #[.pointer (some ⟨bm, 0, none⟩)]] h Q := fun w hw' => by
  subst hw'
  have K' : SlLaysZI.n10 P ρk := { K with }
  have hmax : l.length ≤ maxLen := by unfold maxLen; omega
  obtain ⟨D0, hown, hsz, hperm⟩ := owns_of_map (H := Unit) K'.t26 hs hw hmax
  have hbm : bm < w.heap.size := by
    unfold cellH at hc
    cases hx : w.heap[bm]? with
    | none => simp [hx] at hc
    | some o => exact (Array.getElem?_eq_some_iff.1 hx).1
  have hseq : SeqGives Fence.wide 2 P (ρk.f 10) #[.pointer (some ⟨bm, 0, none⟩)] encZ (fun ss => ss.Perm (intKeys D0)) (Maps.size D0) w :=
    AnyZI.keys_gives K' Fence.wide _ trivial rfl (by omega) bm b l.length D0 w hbm hc hown
  have cS := AnyZI.sorted_in S Fence.wide 5 trivial trivial trivial trivial rfl (by omega) (sortsI T he _) e9 (ρk.f 10) #[.pointer (some ⟨bm, 0, none⟩)] trivial eg _ _ (by rw [hsz]; exact hmax) (by rw [hsz]; exact hl) _ hseq
  refine ((callsIn_wide).1 cS).mono ?_
  rintro e w' ⟨v, ss, rfl, hS, hrow, hnil, hb⟩
  have hp : ss.Perm (l.map (·.1)) := hS.trans hperm
  have e1 : (ss.mergeSort fun x y => decide (x ≤ y)) = sortI (l.map (·.1)) := mergeSort_of_perm_i hp
  rw [e1] at hrow
  have e2 : (sortI (l.map (·.1))).map encZ = (sortI (l.map (·.1))).flatMap eI := by
    induction sortI (l.map (·.1)) with
    | nil => rfl
    | cons a l ih => rw [List.map_cons, ih]; rfl
  rw [e2] at hrow
  obtain ⟨s, rfl, hs'⟩ := own_of_row hrow (by simp [sortI, List.length_mergeSort, hp.length_eq]) hs (below_grow hb) (Nat.le_refl _)
  exact ⟨_, rfl, below_same hb, hq s _ hs'⟩

end

end Go.H
