/-
  Hl: slices.Sorted(maps.Keys(m)) over heaps, keys of string's kind: by the shelf's contracts.
-/
import Derived.Test.YtnpgpijkofbknaaGreatDoorHk
import Derived.Shelf.SlIter.Nil
namespace Go.H
set_option linter.unusedSimpArgs false
set_option linter.unusedVariables false
open Go.RowKit Go.Maps Go.Sort Go.Shelf Go.Proofs

abbrev eS (x : ByteArray) : List Value := [.string x]
def ofL (x : List UInt8) : ByteArray := ⟨x.toArray⟩
def sortS (l : List ByteArray) : List ByteArray := ((l.map (·.data.toList)).mergeSort fun x y => decide (x ≤ y)).map ofL

theorem ofL_data (x : ByteArray) : ofL x.data.toList = x := rfl

section
variable {P : Program} {ρk ρs ρt : Ren} {V : Type} {ev : V → Value} {h : Heap} {R : List Asn}

theorem keysS_call (K : SlLaysZ.n7 P ρk) (m : Option Nat) {Q : Value → Heap → Prop} (hq : Q (.func (.func (ρk.f 10)) #[] #[.pointer (some ⟨h.size, 0, none⟩)]) (h.push (.cells #[.map m] (ρk.t 23)))) :
    HCalls P (ρk.f 7) #[.map m] h Q := fun w hw => by
  subst hw
  refine (callsIn_wide (n := 5)).1 ((AnyZ.keys_in K Fence.wide 5 trivial rfl m w).mono ?_)
  rintro e w' ⟨rfl, rfl⟩
  exact ⟨_, rfl, ⟨rfl, rfl, rfl⟩, hq⟩

theorem sortsS (T : SlLaysM.n6 P ρt) (he : ρt.f 6 = ρs.f 9) (m : Nat) : AnyZ.SortsIn P ρs Fence.wide m := by
  refine ⟨fun blk off cap ss W hH hblk hsz => ?_, fun p cap W => ?_⟩
  · rw [← he]; exact callsIn_wide.2 (AnyM.slices_Sort_string T blk off cap ss W hH hblk hsz)
  · rw [← he]; exact callsIn_wide.2 (AnyM.slices_Sort_string_none T p cap W)

/-- the shelf's word for a map -/
theorem owns_of_mapS {H : Type} {w : World} {b : Nat} {l : List (ByteArray × V)} {k : TypeId} (hk : P.underlying k = some .string) (hs : sat w.heap (mapA (fun n : ByteArray => .string n) ev b l :: R))
    (hw : ∀ p ∈ l, p.1.size ≤ maxLen) (hl : l.length ≤ maxLen) :
    ∃ D0 : DataW H, w.ownsMap P k (fun _ => some (.nil, [])) b l.length D0 ∧ Maps.size D0 = l.length ∧ (strKeys D0).Perm (l.map (·.1.data.toList)) := by
  obtain ⟨es, c, ⟨he, hst⟩, hs⟩ := mapA_iff.1 hs
  have hsz : es.size = l.length := by
    have := congrArg List.length he
    simpa using this
  have hkeys : es.toList.map (·.key) = l.map (fun p => Value.string p.1) := by
    have := congrArg (List.map Prod.fst) he
    simpa [Function.comp_def] using this
  have hrd : ∀ x ∈ es.toList, ∃ p ∈ l, x.key = .string p.1 ∧ WideElems.rd (H := H) P k (fun _ => some (.nil, [])) x = some (.string p.1.data.toList, .nil) := by
    intro x hx
    have hm : x.key ∈ l.map (fun p => Value.string p.1) := by rw [← hkeys]; exact List.mem_map_of_mem hx
    obtain ⟨p, hp, e⟩ := List.mem_map.1 hm
    exact ⟨p, hp, e.symm, by simp [WideElems.rd, ← e, keyOf, hk, mapKey, hw p hp]⟩
  have hrg : es.toList.map (WideElems.rg (H := H) P k (fun _ => some (.nil, []))) = l.map (fun p => ((Lit.string p.1.data.toList, DataW.nil) : Lit × DataW H)) := by
    have e1 : es.toList.map (WideElems.rg (H := H) P k (fun _ => some (.nil, []))) = (es.toList.map (·.key)).map (fun v => (match v with | .string q => Lit.string q.data.toList | _ => .bool false, DataW.nil)) := by
      rw [List.map_map]
      refine List.map_congr_left fun x hx => ?_
      obtain ⟨p, hp, h1, h2⟩ := hrd x hx
      simp [WideElems.rg, h2, h1]
    rw [e1, hkeys, List.map_map]
    rfl
  refine ⟨_, ⟨es, c, hs.get, ⟨by omega, hst, fun x hx => ?_⟩, by omega, rfl⟩, ?_, ?_⟩
  · obtain ⟨p, _, _, h2⟩ := hrd x hx
    exact ⟨_, h2⟩
  · rw [hrg, Maps.size_eq, length_sorted, List.length_map]
  · rw [hrg]
    show (List.map _ _).Perm _
    refine ((WideShapes.sorted_perm _).map _).trans ?_
    rw [List.map_map]
    exact List.Perm.refl _

theorem sortedS_call (K : SlLaysZ.n7 P ρk) (S : SlLaysZ.n6 P ρs) (T : SlLaysM.n6 P ρt) (he : ρt.f 6 = ρs.f 9) (e9 : ∀ args w, (callFunc (ρs.f 9) args).run P w = .ok (.enter (ρs.f 9) args) w)
    (eg : ∀ args w, (callFunc (ρk.f 10) args).run P w = .ok (.enter (ρk.f 10) args) w) {b bm : Nat} {l : List (ByteArray × V)}
    (hs : sat h (mapA (fun n : ByteArray => .string n) ev b l :: R)) (hw : ∀ p ∈ l, p.1.size ≤ maxLen) (hl : l.length * 16 ≤ 140737488355328) (hc : cellH h ⟨bm, 0, none⟩ = some (.map (some b))) {Q : Value → Heap → Prop}
    (hq : ∀ (s : Slc) h', sat h' (ownS eS 1 s (sortS (l.map (·.1))) :: mapA (fun n : ByteArray => .string n) ev b l :: R) → Q (.slice s.a s.len s.cap) h') :
    HCalls P (ρs.f 6) #[.func (.func (ρk.f 10)) #[] #[.pointer (some ⟨bm, 0, none⟩)]] h Q := fun w hw' => by
  subst hw'
  have K' : SlLaysZ.n10 P ρk := { K with }
  have hmax : l.length ≤ maxLen := by unfold maxLen; omega
  obtain ⟨D0, hown, hsz, hperm⟩ := owns_of_mapS (H := Unit) K'.t26 hs hw hmax
  have hbm : bm < w.heap.size := by
    unfold cellH at hc
    cases hx : w.heap[bm]? with
    | none => simp [hx] at hc
    | some o => exact (Array.getElem?_eq_some_iff.1 hx).1
  have hseq : SeqGives Fence.wide 2 P (ρk.f 10) #[.pointer (some ⟨bm, 0, none⟩)] encStr (fun ss => ss.Perm (strKeys D0)) (Maps.size D0) w :=
    AnyZ.keys_gives K' Fence.wide _ trivial rfl (by omega) bm b l.length D0 w hbm hc hown
  have cS := AnyZ.sorted_in S Fence.wide 5 trivial trivial trivial trivial rfl (by omega) (sortsS T he _) e9 (ρk.f 10) #[.pointer (some ⟨bm, 0, none⟩)] trivial eg _ _ (by rw [hsz]; exact hmax) (by rw [hsz]; exact hl) _ hseq
  refine ((callsIn_wide).1 cS).mono ?_
  rintro e w' ⟨v, ss, rfl, hS, hrow, hnil, hb⟩
  have hp : ss.Perm (l.map (·.1.data.toList)) := hS.trans hperm
  have e1 : ((ss.mergeSort fun x y => decide (x ≤ y)).map ofL) = sortS (l.map (·.1)) := by
    unfold sortS
    rw [List.map_map]
    exact congrArg (List.map ofL) (mergeSort_of_perm hp)
  have e2 : (ss.mergeSort fun x y => decide (x ≤ y)).map encStr = (sortS (l.map (·.1))).flatMap eS := by
    rw [← e1]
    generalize (ss.mergeSort fun x y => decide (x ≤ y)) = t
    induction t with
    | nil => rfl
    | cons a l ih => rw [List.map_cons, ih]; rfl
  rw [e2] at hrow
  obtain ⟨s, rfl, hs'⟩ := own_of_row hrow (by rw [← e1]; simp [List.length_mergeSort]) hs (below_grow hb) (Nat.le_refl _)
  exact ⟨_, rfl, below_same hb, hq s _ hs'⟩

end

end Go.H
