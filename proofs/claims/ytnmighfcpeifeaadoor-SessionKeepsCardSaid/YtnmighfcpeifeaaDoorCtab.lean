/-
  Ctab: contracts: sessions found in their table, and their flows.
-/
import Derived.Test.YtnmighfcpeifeaaDoorCses
namespace Go.Proofs.YtnmighfcpeifeaaDoor
open Go.H Go.Proofs
set_option linter.unusedSimpArgs false
set_option linter.unusedVariables false
set_option synthInstance.maxSize 100000
set_option synthInstance.maxHeartbeats 400000

variable {h : Heap} {R : List Asn}

/-! ### a session's flows, apart from the table -/

abbrev sesC (s : SesS) (ob ib : Nat) : Array Value := #[.int .i64 s.id, .string s.client, .bool s.keep, .bool s.on, at0 ob, at0 ib]

theorem tab_open {b : Nat} {last : Int} {l1 l2 : List (Nat × SesS)} {p : Nat × SesS} (hs : sat h (tabA b last (l1 ++ p :: l2) :: R)) : ∃ m ob ib,
    sat h (outA ob p.2.out :: flowA ib p.2.inn :: cells p.1 (sesC p.2 ob ib) :: cells b #[.int .i64 last, .map (some m)] :: mapA eKI eVP m ((l1 ++ p :: l2).map sesE) :: bigA (fun p => sesA p.1 p.2) (l1 ++ l2) :: R) := by
  obtain ⟨m, hs⟩ := tabA_iff.1 hs
  have hs1 := bigA_pick.1 (hs.re [2, 0, 1])
  obtain ⟨ob, ib, hs2⟩ := sesA_iff.1 hs1
  exact ⟨m, ob, ib, (hs2.re [1, 2, 0, 4, 5, 3])⟩
theorem tab_shut {b : Nat} {last : Int} {l1 l2 : List (Nat × SesS)} {p : Nat × SesS} {o : OutS} {m ob ib : Nat}
    (hs : sat h (outA ob o :: flowA ib p.2.inn :: cells p.1 (sesC p.2 ob ib) :: cells b #[.int .i64 last, .map (some m)] :: mapA eKI eVP m ((l1 ++ p :: l2).map sesE) :: bigA (fun p => sesA p.1 p.2) (l1 ++ l2) :: R)) :
    sat h (tabA b last (l1 ++ (p.1, { p.2 with out := o }) :: l2) :: R) := by
  refine tabA_iff.2 ⟨m, ?_⟩
  have e : (l1 ++ (p.1, { p.2 with out := o }) :: l2).map sesE = (l1 ++ p :: l2).map sesE := by simp [sesE]
  rw [e]
  have h1 : sat h (sesA p.1 { p.2 with out := o } :: bigA (fun p => sesA p.1 p.2) (l1 ++ l2) :: cells b #[.int .i64 last, .map (some m)] :: mapA eKI eVP m ((l1 ++ p :: l2).map sesE) :: R) :=
    sesA_iff.2 ⟨ob, ib, hs.re [2, 0, 1, 5, 3, 4]⟩
  have h2 : sat h (bigA (fun p => sesA p.1 p.2) (l1 ++ (p.1, { p.2 with out := o }) :: l2) :: cells b #[.int .i64 last, .map (some m)] :: mapA eKI eVP m ((l1 ++ p :: l2).map sesE) :: R) := bigA_pick.2 h1
  exact h2.re [1, 2, 0]

theorem at_open {b : Nat} {last : Int} {l1 l2 : List (Nat × SesS)} {p : Nat × SesS} {k : Int} {m ob ib : Nat} {o : OutS} (hk : p.2.id = k)
    (hs : sat h (outA ob o :: flowA ib p.2.inn :: cells p.1 (sesC p.2 ob ib) :: cells b #[.int .i64 last, .map (some m)] :: mapA eKI eVP m ((l1 ++ p :: l2).map sesE) :: bigA (fun p => sesA p.1 p.2) (l1 ++ l2) :: R))
    {Q : Value → Heap → Prop} (hq : Q (at0 p.1) h) : HCalls Tryd.prog 45 #[at0 b, .int .i64 k] h Q := by
  have hnd := (hs.re [4, 0, 1, 2, 3]).map_nodup
  rw [List.map_map] at hnd
  refine at_spec (tab_shut hs) (fun hno => ?_) (fun q hq' hqk => ?_)
  · exact absurd hk (hno (p.1, { p.2 with out := o }) (List.mem_append_right _ (List.mem_cons_self ..)))
  · have : q.1 = p.1 := by
      rw [List.map_append, List.map_cons, List.nodup_append] at hnd
      rcases List.mem_append.1 hq' with hm | hm
      · exact absurd (hqk.trans hk.symm) (hnd.2.2 _ (List.mem_map_of_mem hm) _ (List.mem_cons_self ..))
      · rcases List.mem_cons.1 hm with rfl | hm
        · rfl
        · have h3 := (List.nodup_cons.1 hnd.2.1).1
          have h4 : (((·.1) ∘ sesE) q : Int) = ((·.1) ∘ sesE) p := hqk.trans hk.symm
          rw [← h4] at h3
          exact absurd (List.mem_map_of_mem hm) h3
    rw [this]
    exact hq

theorem Out_open {b : Nat} {last : Int} {l1 l2 : List (Nat × SesS)} {p : Nat × SesS} {k : Int} {m ob ib : Nat} {o : OutS} (hk : p.2.id = k)
    (hs : sat h (outA ob o :: flowA ib p.2.inn :: cells p.1 (sesC p.2 ob ib) :: cells b #[.int .i64 last, .map (some m)] :: mapA eKI eVP m ((l1 ++ p :: l2).map sesE) :: bigA (fun p => sesA p.1 p.2) (l1 ++ l2) :: R))
    {Q : Value → Heap → Prop} (hq : Q (at0 ob) h) : HCalls Tryd.prog 13 #[at0 b, .int .i64 k] h Q := by
  refine session_Table_Out_calls _ k h Q ?_
  unfold session_Table_Out
  refine bind_call1 (at_open hk hs ⟨some ⟨p.1, 0, none⟩, rfl, ?_⟩)
  have c4 : cellH h ⟨p.1, 4, none⟩ = some (at0 ob) := (hs.re [2, 0, 1]).cell 4
  (try dsimp only); rw [HM.ite_apply, if_pos (by rfl)]
  exact ⟨_, rfl, some ⟨ob, 0, none⟩, by rw [add_own]; exact c4, hq⟩
theorem Out_no {b : Nat} {last : Int} {L : List (Nat × SesS)} {k : Int} (hs : sat h (tabA b last L :: R)) (hno : ∀ p ∈ L, p.2.id ≠ k) {Q : Value → Heap → Prop} (hq : Q (.pointer none) h) :
    HCalls Tryd.prog 13 #[at0 b, .int .i64 k] h Q := by
  refine session_Table_Out_calls _ k h Q ?_
  unfold session_Table_Out
  refine bind_call1 (at_spec hs (fun _ => ⟨none, rfl, ?_⟩) (fun p hp e => absurd e (hno p hp)))
  (try dsimp only); rw [HM.ite_apply, if_neg (by simp)]
  exact hq

end Go.Proofs.YtnmighfcpeifeaaDoor
