/-
  Cpm: contracts: sessions found in their table, and their flows; the list of sessions in order.
-/
import Derived.Test.YtlgddhcbiioefaaDoorCpl
import Derived.Test.YtlgddhcbiioefaaDoorC18
namespace Go.Proofs.YtlgddhcbiioefaaDoor
open Go.H Go.Proofs
set_option linter.unusedSimpArgs false
set_option linter.unusedVariables false
set_option synthInstance.maxSize 100000
set_option synthInstance.maxHeartbeats 400000

variable {h : Heap} {R : List Asn}

theorem eq_of_keys {α β : Type} {f : α → β} {xs ys : List α} (hp : xs.Perm ys) (hn : (ys.map f).Nodup) (he : xs.map f = ys.map f) : xs = ys := by
  refine List.ext_getElem hp.length_eq fun i h1 h2 => ?_
  have hm : xs[i] ∈ ys := hp.mem_iff.1 (List.getElem_mem h1)
  have hk : f xs[i] = f ys[i] := by
    have := List.getElem_of_eq he (i := i) (by simpa using h1)
    simpa using this
  obtain ⟨j, hj, hje⟩ := List.getElem_of_mem hm
  have hij : j = i := by
    refine (List.getElem_inj (xs := ys.map f) (i := j) (j := i) (h₀ := by simpa using hj) (h₁ := by simpa using h2) hn).1 ?_
    simp only [List.getElem_map]
    rw [hje, hk]
  subst hij
  exact hje.symm

theorem sortI_rising {l : List Int} (hr : l.Pairwise (· < ·)) : sortI l = l :=
  List.mergeSort_of_pairwise (hr.imp fun {a b} hab => by simpa using (show a ≤ b by omega))

theorem rising_nodup {l : List Int} (hr : l.Pairwise (· < ·)) : l.Nodup := hr.imp fun {a b} hab => by omega

theorem list_is {L : List (Nat × SesS)} {xs : List InT} (hr : (L.map (·.2.id)).Pairwise (· < ·)) (h1 : xs.map (·.1) = sortI (L.map (·.2.id))) (h2 : xs.Perm (L.map fun p => infoOf p.2)) : xs = L.map fun p => infoOf p.2 := by
  have e : (L.map fun p => infoOf p.2).map (·.1) = L.map (·.2.id) := by rw [List.map_map]; rfl
  refine eq_of_keys h2 (f := (·.1)) ?_ ?_
  · rw [e]; exact rising_nodup hr
  · rw [e, h1, sortI_rising hr]

/-! ### a session's flows, apart from the table -/

abbrev sesC (s : SesS) (ob ib : Nat) : Array Value := #[.int .i64 s.id, .string s.client, .bool s.keep, .bool s.on, at0 ob, at0 ib]

theorem tab_open {b : Nat} {last : Int} {l1 l2 : List (Nat × SesS)} {p : Nat × SesS} (hs : sat h (tabA b last (l1 ++ p :: l2) :: R)) : ∃ m ob ib,
    sat h (outA ob p.2.out :: flowA ib p.2.inn :: cells p.1 (sesC p.2 ob ib) :: cells b #[.int .i64 last, .map (some m)] :: mapA eKI eVP m ((l1 ++ p :: l2).map sesE) :: bigA (fun p => sesA p.1 p.2) (l1 ++ l2) :: R) := by
  obtain ⟨m, hs⟩ := tabA_iff.1 hs
  have hs1 := bigA_pick.1 (hs.re [2, 0, 1])
  obtain ⟨ob, ib, hs2⟩ := sesA_iff.1 hs1
  exact ⟨m, ob, ib, (hs2.re [1, 2, 0, 4, 5, 3])⟩
theorem tab_shut {b : Nat} {last : Int} {l1 l2 : List (Nat × SesS)} {p : Nat × SesS} {o : OutS} {m ob ib : Nat}
    (hs : sat h (outA ob o :: flowA ib p.2.inn :: cells p.1 (sesC p.2 ob ib) :: cells b #[.int .i64 last, .map (some m)] :: mapA eKI eVP m ((l1 ++ p :: l2).map sesE) :: bigA (fun p => sesA p.1 p.2) (l1 ++ l2) :: R)) :
    sat h (tabA b last (l1 ++ (p.1, { p.2 with out := o }) :: l2) :: R) := by
  refine tabA_iff.2 ⟨m, ?_⟩
  have e : (l1 ++ (p.1, { p.2 with out := o }) :: l2).map sesE = (l1 ++ p :: l2).map sesE := by simp [sesE]
  rw [e]
  have h1 : sat h (sesA p.1 { p.2 with out := o } :: bigA (fun p => sesA p.1 p.2) (l1 ++ l2) :: cells b #[.int .i64 last, .map (some m)] :: mapA eKI eVP m ((l1 ++ p :: l2).map sesE) :: R) :=
    sesA_iff.2 ⟨ob, ib, hs.re [2, 0, 1, 5, 3, 4]⟩
  have h2 : sat h (bigA (fun p => sesA p.1 p.2) (l1 ++ (p.1, { p.2 with out := o }) :: l2) :: cells b #[.int .i64 last, .map (some m)] :: mapA eKI eVP m ((l1 ++ p :: l2).map sesE) :: R) := bigA_pick.2 h1
  exact h2.re [1, 2, 0]

theorem at_open {b : Nat} {last : Int} {l1 l2 : List (Nat × SesS)} {p : Nat × SesS} {k : Int} {m ob ib : Nat} {o : OutS} (hk : p.2.id = k)
    (hs : sat h (outA ob o :: flowA ib p.2.inn :: cells p.1 (sesC p.2 ob ib) :: cells b #[.int .i64 last, .map (some m)] :: mapA eKI eVP m ((l1 ++ p :: l2).map sesE) :: bigA (fun p => sesA p.1 p.2) (l1 ++ l2) :: R))
    {Q : Value → Heap → Prop} (hq : Q (at0 p.1) h) : HCalls Tryd.prog 49 #[at0 b, .int .i64 k] h Q := by
  have hnd := (hs.re [4, 0, 1, 2, 3]).map_nodup
  rw [List.map_map] at hnd
  refine at_spec (tab_shut hs) (fun hno => ?_) (fun q hq' hqk => ?_)
  · exact absurd hk (hno (p.1, { p.2 with out := o }) (List.mem_append_right _ (List.mem_cons_self ..)))
  · have : q.1 = p.1 := by
      rw [List.map_append, List.map_cons, List.nodup_append] at hnd
      rcases List.mem_append.1 hq' with hm | hm
      · exact absurd (hqk.trans hk.symm) (hnd.2.2 _ (List.mem_map_of_mem hm) _ (List.mem_cons_self ..))
      · rcases List.mem_cons.1 hm with rfl | hm
        · rfl
        · have h3 := (List.nodup_cons.1 hnd.2.1).1
          have h4 : (((·.1) ∘ sesE) q : Int) = ((·.1) ∘ sesE) p := hqk.trans hk.symm
          rw [← h4] at h3
          exact absurd (List.mem_map_of_mem hm) h3
    rw [this]
    exact hq

theorem Out_open {b : Nat} {last : Int} {l1 l2 : List (Nat × SesS)} {p : Nat × SesS} {k : Int} {m ob ib : Nat} {o : OutS} (hk : p.2.id = k)
    (hs : sat h (outA ob o :: flowA ib p.2.inn :: cells p.1 (sesC p.2 ob ib) :: cells b #[.int .i64 last, .map (some m)] :: mapA eKI eVP m ((l1 ++ p :: l2).map sesE) :: bigA (fun p => sesA p.1 p.2) (l1 ++ l2) :: R))
    {Q : Value → Heap → Prop} (hq : Q (at0 ob) h) : HCalls Tryd.prog 15 #[at0 b, .int .i64 k] h Q := by
  refine session_Table_Out_calls _ k h Q ?_
  unfold session_Table_Out
  refine bind_call1 (at_open hk hs ⟨some ⟨p.1, 0, none⟩, rfl, ?_⟩)
  have c4 : cellH h ⟨p.1, 4, none⟩ = some (at0 ob) := (hs.re [2, 0, 1]).cell 4
  (try dsimp only); rw [HM.ite_apply, if_pos (by rfl)]
  exact ⟨_, rfl, some ⟨ob, 0, none⟩, by rw [add_own]; exact c4, hq⟩
theorem In_open {b : Nat} {last : Int} {l1 l2 : List (Nat × SesS)} {p : Nat × SesS} {k : Int} {m ob ib : Nat} {o : OutS} (hk : p.2.id = k)
    (hs : sat h (outA ob o :: flowA ib p.2.inn :: cells p.1 (sesC p.2 ob ib) :: cells b #[.int .i64 last, .map (some m)] :: mapA eKI eVP m ((l1 ++ p :: l2).map sesE) :: bigA (fun p => sesA p.1 p.2) (l1 ++ l2) :: R))
    {Q : Value → Heap → Prop} (hq : Q (at0 ib) h) : HCalls Tryd.prog 23 #[at0 b, .int .i64 k] h Q := by
  refine session_Table_In_calls _ k h Q ?_
  unfold session_Table_In
  refine bind_call1 (at_open hk hs ⟨some ⟨p.1, 0, none⟩, rfl, ?_⟩)
  have c5 : cellH h ⟨p.1, 5, none⟩ = some (at0 ib) := (hs.re [2, 0, 1]).cell 5
  (try dsimp only); rw [HM.ite_apply, if_pos (by rfl)]
  exact ⟨_, rfl, some ⟨ib, 0, none⟩, by rw [add_own]; exact c5, hq⟩
theorem Out_no {b : Nat} {last : Int} {L : List (Nat × SesS)} {k : Int} (hs : sat h (tabA b last L :: R)) (hno : ∀ p ∈ L, p.2.id ≠ k) {Q : Value → Heap → Prop} (hq : Q (.pointer none) h) :
    HCalls Tryd.prog 15 #[at0 b, .int .i64 k] h Q := by
  refine session_Table_Out_calls _ k h Q ?_
  unfold session_Table_Out
  refine bind_call1 (at_spec hs (fun _ => ⟨none, rfl, ?_⟩) (fun p hp e => absurd e (hno p hp)))
  (try dsimp only); rw [HM.ite_apply, if_neg (by simp)]
  exact hq

/-! ### what is known -/

def infoT : Option InT → (Int × ByteArray × Bool × Bool × Unit) × Bool × Unit
  | some x => ((x.1, x.2.1, x.2.2.1, x.2.2.2, ()), true, ())
  | none => ((0, ByteArray.mk #[], false, false, ()), false, ())
abbrev infoV (o : Option InT) : Value := .tuple (KTup.vals [.agg [.int .i64, .str, .bool, .bool], .one .bool] (infoT o)).toArray

theorem info_spec {b : Nat} {s : SesS} {ob ib : Nat} (hs : sat h (cells b (sesC s ob ib) :: R)) {Q : Value → Heap → Prop} (hq : ∀ h', sat h' (cells b (sesC s ob ib) :: R) → Q (infoV (some (infoOf s))) h') :
    HCalls Tryd.prog 57 #[at0 b] h Q := by
  refine session_info_calls (some ⟨b, 0, none⟩) h Q ?_
  unfold session_info
  refine new_cells hs fun x1 h1 hs1 => ?_
  (try dsimp only); rw [HM.ite_apply, if_neg (by simp)]
  refine ⟨_, rfl, ?_⟩
  refine loadN_of (ts := [.int .i64, .str, .bool, .bool]) (s.id, s.client, s.keep, s.on, ()) (fun j v hv => ?_) ?_
  · rw [add_own, add_own, (hs1.p1).cell]
    match j, hv with
    | 0, hv => exact hv
    | 1, hv => exact hv
    | 2, hv => exact hv
    | 3, hv => exact hv
    | j + 4, hv => cases (show (none : Option Value) = some v from hv)
  refine storeN_all' hs1 rfl rfl fun h2 hs2 => ?_
  refine loadN_cells (ts := [.int .i64, .str, .bool, .bool]) (s.id, s.client, s.keep, s.on, ()) hs2 rfl ?_
  exact hq h2 hs2.drop

theorem info_at {b : Nat} {last : Int} {L : List (Nat × SesS)} {p : Nat × SesS} (hp : p ∈ L) (hs : sat h (tabA b last L :: R)) {Q : Value → Heap → Prop} (hq : ∀ h', sat h' (tabA b last L :: R) → Q (infoV (some (infoOf p.2))) h') :
    HCalls Tryd.prog 57 #[at0 p.1] h Q := by
  obtain ⟨l1, l2, rfl⟩ := List.append_of_mem hp
  obtain ⟨m, ob, ib, hs1⟩ := tab_open hs
  refine info_spec (s := p.2) (hs1.re [2, 0, 1]) fun h' hs2 => hq h' ?_
  exact tab_shut (o := p.2.out) (hs2.re [1, 2, 0])

theorem Find_spec {b : Nat} {last : Int} {L : List (Nat × SesS)} {c : ByteArray} (hs : sat h (tabA b last L :: R)) {Q : Value → Heap → Prop}
    (hno : (∀ p ∈ L, p.2.client ≠ c) → ∀ h', sat h' (tabA b last L :: R) → Q (infoV none) h') (hyes : ∀ p ∈ L, p.2.client = c → ∀ h', sat h' (tabA b last L :: R) → Q (infoV (some (infoOf p.2))) h') :
    HCalls Tryd.prog 21 #[at0 b, .string c] h Q := by
  refine session_Table_Find_calls _ c h Q ?_
  unfold session_Table_Find
  refine new_cells hs fun x1 h1 hs1 => ?_
  have fin : ∀ {o : Option InT} {h' : Heap}, (∀ h', sat h' (tabA b last L :: R) → Q (infoV o) h') → sat h' (tabA b last L :: cells x1 #[.int .i64 0, .string (ByteArray.mk #[]), .bool false, .bool false] :: R) →
      (HM.bind (α := Unit) (HM.storeN ⟨x1, 0, none⟩ [.int .i64 (infoT o).1.1, .string (infoT o).1.2.1, .bool (infoT o).1.2.2.1, .bool (infoT o).1.2.2.2.1]) fun (_ : Unit) =>
        HM.bind (α := Int × ByteArray × Bool × Bool × Unit) (HM.loadN [.int .i64, .str, .bool, .bool] ⟨x1, 0, none⟩) fun (x4 : Int × ByteArray × Bool × Bool × Unit) =>
        HM.pure ((x4.1, x4.2.1, x4.2.2.1, x4.2.2.2.1, ()), (infoT o).2.1, ())) h' fun x h' => Q (.tuple #[.agg #[.int .i64 x.1.1, .string x.1.2.1, .bool x.1.2.2.1, .bool x.1.2.2.2.1], .bool x.2.1]) h' := fun hq' hs' => by
    refine storeN_all' hs'.p1 rfl rfl fun h3 hs3 => ?_
    refine loadN_cells (ts := [.int .i64, .str, .bool, .bool]) (infoT _).1 hs3 rfl ?_
    exact hq' h3 hs3.drop
  refine bind_cut (fun x h' => (x = none ∧ (∀ p ∈ L, p.2.client ≠ c) ∧ sat h' (tabA b last L :: cells x1 #[.int .i64 0, .string (ByteArray.mk #[]), .bool false, .bool false] :: R)) ∨
    (∃ p, p ∈ L ∧ x = some ⟨p.1, 0, none⟩ ∧ p.2.client = c ∧ sat h' (tabA b last L :: cells x1 #[.int .i64 0, .string (ByteArray.mk #[]), .bool false, .bool false] :: R))) ?_ ?_
  · exact of_spec hs1.p1 (fun hn h' hs' => ⟨none, rfl, .inl ⟨rfl, hn, hs'⟩⟩) (fun p hp hc h' hs' => ⟨some ⟨p.1, 0, none⟩, rfl, .inr ⟨p, hp, rfl, hc, hs'⟩⟩)
  rintro x h2 (⟨rfl, hn, hs2⟩ | ⟨p, hp, rfl, hc, hs2⟩)
  · refine bind_callN (info_nil hs2 fun h3 hs3 => ⟨infoT none, rfl, ?_⟩)
    exact fin (o := none) (hno hn) hs3
  · refine bind_callN (info_at hp hs2 fun h3 hs3 => ⟨infoT (some (infoOf p.2)), rfl, ?_⟩)
    exact fin (o := some (infoOf p.2)) (hyes p hp hc) hs3

theorem Get_spec {b : Nat} {last : Int} {L : List (Nat × SesS)} {k : Int} (hs : sat h (tabA b last L :: R)) {Q : Value → Heap → Prop}
    (hno : (∀ p ∈ L, p.2.id ≠ k) → ∀ h', sat h' (tabA b last L :: R) → Q (infoV none) h') (hyes : ∀ p ∈ L, p.2.id = k → ∀ h', sat h' (tabA b last L :: R) → Q (infoV (some (infoOf p.2))) h') :
    HCalls Tryd.prog 22 #[at0 b, .int .i64 k] h Q := by
  refine session_Table_Get_calls _ k h Q ?_
  unfold session_Table_Get
  refine new_cells hs fun x1 h1 hs1 => ?_
  have fin : ∀ {o : Option InT} {h' : Heap}, (∀ h', sat h' (tabA b last L :: R) → Q (infoV o) h') → sat h' (tabA b last L :: cells x1 #[.int .i64 0, .string (ByteArray.mk #[]), .bool false, .bool false] :: R) →
      (HM.bind (α := Unit) (HM.storeN ⟨x1, 0, none⟩ [.int .i64 (infoT o).1.1, .string (infoT o).1.2.1, .bool (infoT o).1.2.2.1, .bool (infoT o).1.2.2.2.1]) fun (_ : Unit) =>
        HM.bind (α := Int × ByteArray × Bool × Bool × Unit) (HM.loadN [.int .i64, .str, .bool, .bool] ⟨x1, 0, none⟩) fun (x4 : Int × ByteArray × Bool × Bool × Unit) =>
        HM.pure ((x4.1, x4.2.1, x4.2.2.1, x4.2.2.2.1, ()), (infoT o).2.1, ())) h' fun x h' => Q (.tuple #[.agg #[.int .i64 x.1.1, .string x.1.2.1, .bool x.1.2.2.1, .bool x.1.2.2.2.1], .bool x.2.1]) h' := fun hq' hs' => by
    refine storeN_all' hs'.p1 rfl rfl fun h3 hs3 => ?_
    refine loadN_cells (ts := [.int .i64, .str, .bool, .bool]) (infoT _).1 hs3 rfl ?_
    exact hq' h3 hs3.drop
  refine bind_call1 (at_spec hs1.p1 (fun hn => ⟨none, rfl, ?_⟩) (fun p hp hk => ⟨some ⟨p.1, 0, none⟩, rfl, ?_⟩))
  · refine bind_callN (info_nil hs1.p1 fun h3 hs3 => ⟨infoT none, rfl, ?_⟩)
    exact fin (o := none) (hno hn) hs3
  · refine bind_callN (info_at hp hs1.p1 fun h3 hs3 => ⟨infoT (some (infoOf p.2)), rfl, ?_⟩)
    exact fin (o := some (infoOf p.2)) (hyes p hp hk) hs3

end Go.Proofs.YtlgddhcbiioefaaDoor
