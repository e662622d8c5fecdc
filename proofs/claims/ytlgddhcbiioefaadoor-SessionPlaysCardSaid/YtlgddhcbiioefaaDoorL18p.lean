/-
  L18p: the law SessionPlays over heaps: one round's parts.
-/
import Derived.Test.YtlgddhcbiioefaaDoorC18p
namespace Go.Proofs.YtlgddhcbiioefaaDoor
open Go.H Go.Proofs
set_option linter.unusedSimpArgs false
set_option linter.unusedVariables false
set_option synthInstance.maxSize 100000
set_option synthInstance.maxHeartbeats 400000

section
variable {h : Heap} {R : List Asn}

theorem sat_nth {L : List Asn} (hs : sat h L) (n : Nat) {A : Asn} (hn : L[n]? = some A) : ∃ R', sat h (A :: R') := by
  have hm : A ∈ L := List.mem_of_getElem? hn
  obtain ⟨l1, l2, rfl⟩ := List.append_of_mem hm
  exact ⟨l1 ++ l2, sat.perm List.perm_middle hs⟩
theorem nth_cell {L : List Asn} (hs : sat h L) (n : Nat) {b : Nat} {cs : Array Value} (hn : L[n]? = some (cells b cs)) (i : Nat) : cellH h ⟨b, i, none⟩ = cs[i]? := by
  obtain ⟨R', hs'⟩ := sat_nth hs n hn
  exact hs'.cell i

theorem loadN_nth {L : List Asn} (hs : sat h L) (n : Nat) {b : Nat} {cs : Array Value} {ts : List Tag} (hn : L[n]? = some (cells b cs)) (x : Tup ts) {Q : Tup ts → Heap → Prop} (he : cs = (Tup.vals ts x).toArray) (hq : Q x h) : HM.loadN ts ⟨b, 0, none⟩ h Q := by
  obtain ⟨R', hs'⟩ := sat_nth hs n hn
  exact loadN_cells x hs' he hq

theorem cell_push {a : Addr} {v : Value} {o : Obj} (hc : cellH h a = some v) : cellH (h.push o) a = some v := by
  unfold cellH at hc ⊢
  cases hb : h[a.block]? with
  | none => rw [hb] at hc; cases hc
  | some x =>
    have hlt := (Array.getElem?_eq_some_iff.1 hb).1
    rw [Array.getElem?_push, if_neg (by omega), hb]
    rw [hb] at hc
    exact hc

theorem new_cells' {cs : Array Value} {T : TypeId} {Q : Nat → Heap → Prop} (hs : sat h R) (hq : ∀ b h', (∀ a v, cellH h a = some v → cellH h' a = some v) → sat h' (cells b cs :: R) → Q b h') : HM.new (.cells cs T) h Q :=
  hq _ _ (fun a v hc => cell_push hc) hs.push_cells

theorem same_at {n : Nat} {x : RS} {ob ib : Nat} (hs : sat h R) (hc : ∀ i, cellH h ⟨n, i, none⟩ = (rsC x ob ib)[i]?) {Q : Value → Heap → Prop} (hq : ∀ h', sat h' R → Q (.bool true) h') :
    HCalls Tryd.prog 29 #[.agg #[.int .i64 x.id, .string x.client, .bool x.keep, .bool x.on], .bool true, at0 n] h Q := by
  refine law18_same_calls (x.id, x.client, x.keep, x.on, ()) true (some ⟨n, 0, none⟩) h Q ?_
  unfold law18_same
  have c0 : cellH h ⟨n, 0, none⟩ = some (.int .i64 x.id) := hc 0
  have c1 : cellH h ⟨n, 1, none⟩ = some (.string x.client) := hc 1
  have c2 : cellH h ⟨n, 2, none⟩ = some (.bool x.keep) := hc 2
  have c3 : cellH h ⟨n, 3, none⟩ = some (.bool x.on) := hc 3
  refine new_cells' hs fun b h1 keep hs1 => ?_
  have d0 := keep _ _ c0
  have d1 := keep _ _ c1
  have d2 := keep _ _ c2
  have d3 := keep _ _ c3
  refine bind_cut (fun x h' => h' = h1 ∧ x.1 = false) ?_ ?_
  · rw [HM.ite_apply, if_neg (by simp)]
    exact ⟨rfl, rfl⟩
  rintro ⟨y, ⟨⟩⟩ h2 ⟨rfl, hy⟩
  simp only at hy
  subst hy
  (try dsimp only); rw [HM.ite_apply, if_neg (by simp)]
  refine loadN_cells (ts := [.int .i64, .str, .bool, .bool]) (x.id, x.client, x.keep, x.on, ()) hs1 rfl ?_
  refine ⟨_, rfl, x.id, by rw [add_own]; exact d0, _, rfl, x.client, by rw [add_own]; exact d1, _, rfl, x.keep, by rw [add_own]; exact d2, _, rfl, x.on, by rw [add_own]; exact d3, ?_⟩
  have := hq h2 hs1.drop
  simpa using this

/-- a message is sent on both sides -/
def sendA (k : Int) (A : List RS) : List RS := updR k (fun y => (rsendR y).2) A

theorem sendA_ok {last k : Int} {A : List RS} (h : OKA last A) : OKA last (sendA k A) := by
  refine h.upd (fun x => ?_) (fun x => ?_) (fun x hx => ?_)
  · unfold rsendR; split <;> rfl
  · unfold rsendR; split <;> rfl
  · unfold rsendR
    split
    · exact hx
    · simp; omega

theorem abs_send (s : SesS) : absS { s with out := (sendR s.out mT).2 } = (rsendR (absS s)).2 ∧ (sendR s.out mT).1 = (rsendR (absS s)).1 := by
  unfold sendR rsendR absS
  by_cases hf : 256 ≤ s.out.waiting.length
  · simp [hf]
  · simp [hf]

/-- the program's table, apart at a session -/
theorem ptab_at {b : Nat} {last : Int} {A : List RS} {x : RS} (hx : x ∈ A) (hs : sat h (ptab b last A :: R)) : ∃ (l1 l2 : List (Nat × SesS)) (p : Nat × SesS) (m ob ib : Nat),
    (l1 ++ p :: l2).map (fun p => absS p.2) = A ∧ (∀ q ∈ l1 ++ p :: l2, q.2.out.on = false ∧ q.2.inn.used = []) ∧ absS p.2 = x ∧
    sat h (outA ob p.2.out :: flowA ib p.2.inn :: cells p.1 (sesC p.2 ob ib) :: cells b #[.int .i64 last, .map (some m)] :: mapA eKI eVP m ((l1 ++ p :: l2).map sesE) :: bigA (fun p => sesA p.1 p.2) (l1 ++ l2) :: R) := by
  obtain ⟨L, ⟨rfl, hoff⟩, hsL⟩ := ptab_iff.1 hs
  obtain ⟨p, hp, rfl⟩ := List.mem_map.1 hx
  obtain ⟨l1, l2, rfl⟩ := List.append_of_mem hp
  obtain ⟨m, ob, ib, hs1⟩ := tab_open hsL
  exact ⟨l1, l2, p, m, ob, ib, rfl, hoff, rfl, hs1⟩

theorem ptab_back {b : Nat} {last : Int} {A : List RS} (ho : OKA last A) {l1 l2 : List (Nat × SesS)} {p : Nat × SesS} {m ob ib : Nat} {k : Int} (hk : p.2.id = k) (hA : (l1 ++ p :: l2).map (fun p => absS p.2) = A) (hoff : ∀ q ∈ l1 ++ p :: l2, q.2.out.on = false ∧ q.2.inn.used = [])
    (hs : sat h (outA ob (sendR p.2.out mT).2 :: flowA ib p.2.inn :: cells p.1 (sesC p.2 ob ib) :: cells b #[.int .i64 last, .map (some m)] :: mapA eKI eVP m ((l1 ++ p :: l2).map sesE) :: bigA (fun p => sesA p.1 p.2) (l1 ++ l2) :: R)) :
    sat h (ptab b last (sendA k A) :: R) := by
  refine ptab_iff.2 ⟨_, ⟨?_, fun q hq => ?_⟩, tab_shut hs⟩
  · subst hA
    have hr := ho.rising
    rw [abs_mid] at hr ⊢
    rw [abs_mid]
    unfold sendA
    rw [upd_mid hr hk, (abs_send p.2).1]
  · rcases List.mem_append.1 hq with hm | hm
    · exact hoff q (List.mem_append_left _ hm)
    · rcases List.mem_cons.1 hm with rfl | hm
      · have := hoff p (List.mem_append_right _ (List.mem_cons_self ..))
        refine ⟨?_, this.2⟩
        show (sendR p.2.out mT).2.on = false
        unfold sendR
        split
        · exact this.1
        · exact this.1
      · exact hoff q (List.mem_append_right _ (List.mem_cons_of_mem _ hm))

theorem pOut_no {b : Nat} {last : Int} {A : List RS} {k : Int} (hs : sat h (ptab b last A :: R)) (hno : ∀ x ∈ A, x.id ≠ k) {Q : Value → Heap → Prop} (hq : Q (.pointer none) h) :
    HCalls Tryd.prog 15 #[at0 b, .int .i64 k] h Q := by
  obtain ⟨L, ⟨rfl, hoff⟩, hsL⟩ := ptab_iff.1 hs
  exact Out_no hsL (fun p hp => hno (absS p.2) (abs_mem hp)) hq

theorem rtab_nil {b : Nat} (hs : sat h (cells b #[.int .i64 0, .slice none 0 0] :: R)) : sat h (rtab b 0 [] :: R) := by
  refine rtab_iff.2 ⟨[], rfl, rtabA_iff.2 ⟨⟨none, 0, 0⟩, ?_⟩⟩
  have h1 := bigA_nil (f := fun p : Nat × RS => rsesA p.1 p.2).2 hs
  have h2 := ownS_nil (enc := eP) (size := 1) h1
  exact h2.re [2, 0, 1]

end

end Go.Proofs.YtlgddhcbiioefaaDoor
