/-
  Crf: contracts: the document's sessions and their list.
-/
import Derived.Test.YtlgddhcbiioefaaDoorCpm
import Derived.Test.YtlgddhcbiioefaaDoorCchr
namespace Go.Proofs.YtlgddhcbiioefaaDoor
open Go.H Go.Proofs
set_option linter.unusedSimpArgs false
set_option linter.unusedVariables false
set_option synthInstance.maxSize 100000
set_option synthInstance.maxHeartbeats 400000

variable {h : Heap} {R : List Asn}

structure RS where
  id : Int
  client : ByteArray
  keep : Bool
  on : Bool
  waiting : List MsT

abbrev rsC (s : RS) (ob ib : Nat) : Array Value := #[.int .i64 s.id, .string s.client, .bool s.keep, .bool s.on, at0 ob, at0 ib]
abbrev roC (pb : Nat) (w : Slc) : Array Value := #[at0 pb, .int .i64 64, .bool false, .slice none 0 0, .slice w.a w.len w.cap]
abbrev rpC : Array Value := #[.int .i64 64, .int .i64 0, .slice none 0 0]

def rsesA (b : Nat) (s : RS) : Asn := exA fun x : Nat × Nat × Nat × Nat × Slc =>
  star (cells b (rsC s x.1 x.2.2.1)) (star (cells x.1 (roC x.2.1 x.2.2.2.2)) (star (ownS encM 5 x.2.2.2.2 s.waiting) (star (cells x.2.1 rpC) (star (cells x.2.2.1 #[at0 x.2.2.2.1]) (cells x.2.2.2.1 rpC)))))

theorem rsesA_iff {b : Nat} {s : RS} : sat h (rsesA b s :: R) ↔ ∃ (ob pb ib qb : Nat) (w : Slc),
    sat h (cells b (rsC s ob ib) :: cells ob (roC pb w) :: ownS encM 5 w s.waiting :: cells pb rpC :: cells ib #[at0 qb] :: cells qb rpC :: R) := by
  unfold rsesA
  rw [sat.ex_iff]
  constructor
  · rintro ⟨⟨ob, pb, ib, qb, w⟩, hs⟩
    rw [sat.star_iff] at hs
    have h1 := sat.star_iff.1 hs.p1
    have h2 := sat.star_iff.1 h1.p1
    have h3 := sat.star_iff.1 h2.p1
    have h4 := sat.star_iff.1 h3.p1
    exact ⟨ob, pb, ib, qb, w, h4.re [5, 4, 3, 2, 0, 1]⟩
  · rintro ⟨ob, pb, ib, qb, w, hs⟩
    refine ⟨(ob, pb, ib, qb, w), ?_⟩
    rw [sat.star_iff]
    have h4 := sat.star_iff.2 (hs.re [4, 5, 3, 2, 1, 0])
    have h3 := sat.star_iff.2 (h4.p1)
    have h2 := sat.star_iff.2 (h3.p1)
    have h1 := sat.star_iff.2 (h2.p1)
    exact h1.p1

abbrev eP (x : Nat) : List Value := [at0 x]
theorem eP_len (x : Nat) : (eP x).length = 1 := rfl
theorem eP_cell (x : Nat) : ∀ v ∈ eP x, v.oneCell' = true := by intro v hv; simp at hv; subst hv; rfl

def rtabA (b : Nat) (last : Int) (M : List (Nat × RS)) : Asn := exA fun s : Slc =>
  star (cells b #[.int .i64 last, .slice s.a s.len s.cap]) (star (ownS eP 1 s (M.map (·.1))) (bigA (fun p => rsesA p.1 p.2) M))

theorem rtabA_iff {b : Nat} {last : Int} {M : List (Nat × RS)} : sat h (rtabA b last M :: R) ↔ ∃ s : Slc,
    sat h (cells b #[.int .i64 last, .slice s.a s.len s.cap] :: ownS eP 1 s (M.map (·.1)) :: bigA (fun p => rsesA p.1 p.2) M :: R) := by
  unfold rtabA
  rw [sat.ex_iff]
  constructor
  · rintro ⟨s, hs⟩
    rw [sat.star_iff] at hs
    exact ⟨s, (sat.star_iff.1 hs.p1).p2⟩
  · rintro ⟨s, hs⟩
    refine ⟨s, ?_⟩
    rw [sat.star_iff]
    exact (sat.star_iff.2 (hs.re [1, 2, 0])).p1

theorem rses_cells {M : List (Nat × RS)} {p : Nat × RS} (hp : p ∈ M) (hs : sat h (bigA (fun p => rsesA p.1 p.2) M :: R)) : ∃ ob ib, ∀ i, cellH h ⟨p.1, i, none⟩ = (rsC p.2 ob ib)[i]? := by
  obtain ⟨R', hs⟩ := bigA_mem hp hs
  obtain ⟨ob, pb, ib, qb, w, hs⟩ := rsesA_iff.1 hs
  exact ⟨ob, ib, fun i => hs.cell i⟩

theorem rGet_spec {b : Nat} {last : Int} {M : List (Nat × RS)} {k : Int} (hs : sat h (rtabA b last M :: R)) (hl : M.length ≤ 1000) {Q : Value → Heap → Prop}
    (hno : (∀ p ∈ M, p.2.id ≠ k) → Q (.pointer none) h) (hyes : ∀ m1 p m2, M = m1 ++ p :: m2 → p.2.id = k → Q (at0 p.1) h) :
    HCalls Tryd.prog 25 #[at0 b, .int .i64 k] h Q := by
  refine ref18_Get_calls (some ⟨b, 0, none⟩) k h Q ?_
  obtain ⟨s, hs⟩ := rtabA_iff.1 hs
  have c1 : cellH h ⟨b, 1, none⟩ = some (.slice s.a s.len s.cap) := hs.cell 1
  have hsl : s.len = (M.map (·.1)).length := hs.p1.own_len
  rw [List.length_map] at hsl
  have hrow := hs.p1.own_row eP_len
  have hbig := hs.re [2, 0, 1]
  unfold ref18_Get
  refine loop_gx (γ := Nat) (fun i c h' => c.1 = (i : Int) ∧ i ≤ M.length ∧ (∀ p ∈ M.take i, p.2.id ≠ k) ∧ h' = h) (fun i => M.length - i) 0 ⟨rfl, Nat.zero_le _, by simp, rfl⟩ ?_
  rintro i ⟨c, ⟨⟩⟩ h1 ⟨hc, hi, hn, e⟩
  subst e
  simp only at hc
  subst hc
  refine ⟨_, rfl, s, by rw [add_own]; exact c1, ?_⟩
  (try dsimp only); rw [HM.ite_apply]
  by_cases hlt : i < M.length
  · rw [if_pos (by simp only [decide_eq_true_eq]; omega)]
    refine ⟨_, rfl, s, by rw [add_own]; exact c1, ?_⟩
    have hget : (M.map (·.1))[i]? = some (M[i].1) := by simp [List.getElem?_eq_getElem hlt]
    have step : ∀ {Q' : Addr → Heap → Prop}, (∀ a, cellH h1 a = some (at0 M[i].1) → Q' a h1) → HM.idx s.a s.len (i : Int) 1 h1 Q' := fun hq' =>
      idx_row hrow hget fun a ha => hq' a (by simpa [Go.H.add_zero] using ha 0 _ rfl)
    (try dsimp only); rw [HM.bind_apply]
    refine step fun a ha => ⟨some ⟨M[i].1, 0, none⟩, ha, _, rfl, ?_⟩
    obtain ⟨ob, ib, hcs⟩ := rses_cells (List.getElem_mem hlt) hbig
    refine ⟨M[i].2.id, by rw [add_own]; exact hcs 0, ?_⟩
    (try dsimp only); rw [HM.ite_apply]
    by_cases hk : M[i].2.id = k
    · rw [if_pos (by simpa using hk)]
      refine ⟨_, rfl, s, by rw [add_own]; exact c1, ?_⟩
      (try dsimp only); rw [HM.bind_apply]
      refine step fun a ha => ⟨some ⟨M[i].1, 0, none⟩, ha, ?_⟩
      simp only [Sum.elim_inl, Sum.elim_inr, HM.pure_apply]
      refine hyes (M.take i) M[i] (M.drop (i + 1)) ?_ hk
      rw [← List.drop_eq_getElem_cons hlt, List.take_append_drop]
    · rw [if_neg (by simpa using hk)]
      simp only [Sum.elim_inl, Sum.elim_inr, HM.pure_apply]
      refine .mk (i + 1) (by omega) ⟨?_, by omega, ?_, rfl⟩
      · simp only []
        rw [wrap_id (by omega) (by omega)]; rfl
      · rw [List.take_succ_eq_append_getElem hlt]
        intro p hp
        rcases List.mem_append.1 hp with hp | hp
        · exact hn p hp
        · rw [List.mem_singleton.1 hp]; exact hk
  · rw [if_neg (by simp only [decide_eq_true_eq]; omega)]
    simp only [Sum.elim_inl, Sum.elim_inr, HM.pure_apply]
    refine hno fun p hp => hn p ?_
    rw [List.take_of_length_le (by omega)]
    exact hp

theorem rFind_spec {b : Nat} {last : Int} {M : List (Nat × RS)} {k : ByteArray} (hs : sat h (rtabA b last M :: R)) (hl : M.length ≤ 1000) {Q : Value → Heap → Prop}
    (hno : (∀ p ∈ M, p.2.client ≠ k) → Q (.pointer none) h) (hyes : ∀ m1 p m2, M = m1 ++ p :: m2 → p.2.client = k → Q (at0 p.1) h) :
    HCalls Tryd.prog 30 #[at0 b, .string k] h Q := by
  refine ref18_Find_calls (some ⟨b, 0, none⟩) k h Q ?_
  obtain ⟨s, hs⟩ := rtabA_iff.1 hs
  have c1 : cellH h ⟨b, 1, none⟩ = some (.slice s.a s.len s.cap) := hs.cell 1
  have hsl : s.len = (M.map (·.1)).length := hs.p1.own_len
  rw [List.length_map] at hsl
  have hrow := hs.p1.own_row eP_len
  have hbig := hs.re [2, 0, 1]
  unfold ref18_Find
  refine loop_gx (γ := Nat) (fun i c h' => c.1 = (i : Int) ∧ i ≤ M.length ∧ (∀ p ∈ M.take i, p.2.client ≠ k) ∧ h' = h) (fun i => M.length - i) 0 ⟨rfl, Nat.zero_le _, by simp, rfl⟩ ?_
  rintro i ⟨c, ⟨⟩⟩ h1 ⟨hc, hi, hn, e⟩
  subst e
  simp only at hc
  subst hc
  refine ⟨_, rfl, s, by rw [add_own]; exact c1, ?_⟩
  (try dsimp only); rw [HM.ite_apply]
  by_cases hlt : i < M.length
  · rw [if_pos (by simp only [decide_eq_true_eq]; omega)]
    refine ⟨_, rfl, s, by rw [add_own]; exact c1, ?_⟩
    have hget : (M.map (·.1))[i]? = some (M[i].1) := by simp [List.getElem?_eq_getElem hlt]
    have step : ∀ {Q' : Addr → Heap → Prop}, (∀ a, cellH h1 a = some (at0 M[i].1) → Q' a h1) → HM.idx s.a s.len (i : Int) 1 h1 Q' := fun hq' =>
      idx_row hrow hget fun a ha => hq' a (by simpa [Go.H.add_zero] using ha 0 _ rfl)
    (try dsimp only); rw [HM.bind_apply]
    refine step fun a ha => ⟨some ⟨M[i].1, 0, none⟩, ha, _, rfl, ?_⟩
    obtain ⟨ob, ib, hcs⟩ := rses_cells (List.getElem_mem hlt) hbig
    refine ⟨M[i].2.client, by rw [add_own]; exact hcs 1, ?_⟩
    (try dsimp only); rw [HM.ite_apply]
    by_cases hk : M[i].2.client = k
    · rw [if_pos (by simpa using hk)]
      refine ⟨_, rfl, s, by rw [add_own]; exact c1, ?_⟩
      (try dsimp only); rw [HM.bind_apply]
      refine step fun a ha => ⟨some ⟨M[i].1, 0, none⟩, ha, ?_⟩
      simp only [Sum.elim_inl, Sum.elim_inr, HM.pure_apply]
      refine hyes (M.take i) M[i] (M.drop (i + 1)) ?_ hk
      rw [← List.drop_eq_getElem_cons hlt, List.take_append_drop]
    · rw [if_neg (by simpa using hk)]
      simp only [Sum.elim_inl, Sum.elim_inr, HM.pure_apply]
      refine .mk (i + 1) (by omega) ⟨?_, by omega, ?_, rfl⟩
      · simp only []
        rw [wrap_id (by omega) (by omega)]; rfl
      · rw [List.take_succ_eq_append_getElem hlt]
        intro p hp
        rcases List.mem_append.1 hp with hp | hp
        · exact hn p hp
        · rw [List.mem_singleton.1 hp]; exact hk
  · rw [if_neg (by simp only [decide_eq_true_eq]; omega)]
    simp only [Sum.elim_inl, Sum.elim_inr, HM.pure_apply]
    refine hno fun p hp => hn p ?_
    rw [List.take_of_length_le (by omega)]
    exact hp

theorem bigA_filter {α : Type} {f : α → Asn} (q : α → Bool) : ∀ {l : List α} {R : List Asn}, sat h (bigA f l :: R) → sat h (bigA f (l.filter q) :: R)
  | [], R, hs => hs
  | x :: l, R, hs => by
    have hs1 := bigA_cons.1 hs
    by_cases hx : q x = true
    · rw [List.filter_cons_of_pos hx]
      exact bigA_cons.2 (bigA_filter q hs1.p1).p1
    · rw [List.filter_cons_of_neg hx]
      exact bigA_filter q hs1.drop

set_option maxRecDepth 100000 in
theorem rdrop_spec {b : Nat} {last : Int} {M : List (Nat × RS)} {k : Int} (hs : sat h (rtabA b last M :: R)) (hl : M.length ≤ 1000) {Q : Value → Heap → Prop}
    (hq : ∀ h', sat h' (rtabA b last (M.filter fun p => decide (p.2.id ≠ k)) :: R) → Q (.tuple #[]) h') :
    HCalls Tryd.prog 58 #[at0 b, .int .i64 k] h Q := by
  refine ref18_drop_calls (some ⟨b, 0, none⟩) k h Q ?_
  obtain ⟨s, hs⟩ := rtabA_iff.1 hs
  have hsl : s.len = (M.map (·.1)).length := hs.p1.own_len
  rw [List.length_map] at hsl
  unfold ref18_drop
  refine loop_gx (γ := Nat) (hb := fun s => by
    repeat' with_reducible first
      | refine @mono_bind _ _ _ _ ?_ (fun _ => ?_)
      | refine @mono_ite _ _ _ _ ?_ ?_
      | refine @mono_req _ _ _ ?_
    all_goals infer_instance)
    (fun i c h' => c.2.1 = (i : Int) ∧ i ≤ M.length ∧ sat h' (ownS eP 1 c.1 (((M.take i).filter fun p => decide (p.2.id ≠ k)).map (·.1)) :: cells b #[.int .i64 last, .slice s.a s.len s.cap] :: ownS eP 1 s (M.map (·.1)) :: bigA (fun p => rsesA p.1 p.2) M :: R))
    (fun i => M.length - i) 0 ⟨rfl, Nat.zero_le _, ownS_nil hs⟩ ?_
  rintro i ⟨out, c, ⟨⟩⟩ h1 ⟨hc, hi, hs1⟩
  simp only at hc hs1
  subst hc
  have c1 : cellH h1 ⟨b, 1, none⟩ = some (.slice s.a s.len s.cap) := hs1.p1.cell 1
  have hrow := hs1.p2.own_row eP_len
  refine ⟨_, rfl, s, by rw [add_own]; exact c1, ?_⟩
  (try dsimp only); rw [HM.ite_apply]
  by_cases hlt : i < M.length
  · rw [if_pos (by simp only [decide_eq_true_eq]; omega)]
    refine ⟨_, rfl, s, by rw [add_own]; exact c1, ?_⟩
    have hget : (M.map (·.1))[i]? = some (M[i].1) := by simp [List.getElem?_eq_getElem hlt]
    have step : ∀ {Q' : Addr → Heap → Prop}, (∀ a, cellH h1 a = some (at0 M[i].1) → Q' a h1) → HM.idx s.a s.len (i : Int) 1 h1 Q' := fun hq' =>
      idx_row hrow hget fun a ha => hq' a (by simpa [Go.H.add_zero] using ha 0 _ rfl)
    (try dsimp only); rw [HM.bind_apply]
    refine step fun a ha => ⟨some ⟨M[i].1, 0, none⟩, ha, _, rfl, ?_⟩
    obtain ⟨ob, ib, hcs⟩ := rses_cells (List.getElem_mem hlt) (hs1.p3)
    refine ⟨M[i].2.id, by rw [add_own]; exact hcs 0, ?_⟩
    have hfl : ((M.take i).filter fun p => decide (p.2.id ≠ k)).length ≤ 1000 := Nat.le_trans (List.length_filter_le _ _) (by rw [List.length_take]; omega)
    refine bind_cut (fun x h' => sat h' (ownS eP 1 x.1 (((M.take (i + 1)).filter fun p => decide (p.2.id ≠ k)).map (·.1)) :: cells b #[.int .i64 last, .slice s.a s.len s.cap] :: ownS eP 1 s (M.map (·.1)) :: bigA (fun p => rsesA p.1 p.2) M :: R)) ?_ ?_
    · rw [List.take_succ_eq_append_getElem hlt, List.filter_append, List.map_append]
      (try dsimp only); rw [HM.ite_apply]
      by_cases hk : M[i].2.id = k
      · rw [if_neg (by simp [hk])]
        have : (List.filter (fun p => decide (p.2.id ≠ k)) [M[i]]) = [] := by simp [hk]
        rw [this, List.map_nil, List.append_nil]
        exact hs1
      · rw [if_pos (by simp [hk])]
        refine ⟨_, rfl, s, by rw [add_own]; exact c1, ?_⟩
        (try dsimp only); rw [HM.bind_apply]
        refine step fun a ha => ⟨some ⟨M[i].1, 0, none⟩, ha, ?_⟩
        have : (List.filter (fun p => decide (p.2.id ≠ k)) [M[i]]) = [M[i]] := by simp [hk]
        rw [this]
        (try dsimp only)
        (try simp only [HM.bind_apply])
        refine app_new (x := M[i].1) eP_len eP_cell rfl hs1 (by decide) (by decide) (by rw [List.length_map]; omega) fun out2 h2 hs2 => ?_
        exact hs2
    rintro ⟨x, ⟨⟩⟩ h2 hs2
    simp only [HM.pure_apply]
    refine .mk (i + 1) (by omega) ⟨?_, by omega, hs2⟩
    simp only []
    rw [wrap_id (by omega) (by omega)]; rfl
  · rw [if_neg (by simp only [decide_eq_true_eq]; omega)]
    simp only [HM.pure_apply]
    rw [List.take_of_length_le (by omega)] at hs1
    refine ⟨_, rfl, ?_⟩
    (try dsimp only); rw [HM.bind_apply, add_own]
    refine store1_cells hs1.p1 (by simp) rfl fun h2 hs2 => ?_
    refine hq h2 (rtabA_iff.2 ⟨out, ?_⟩)
    have hs3 := bigA_filter (fun p => decide (p.2.id ≠ k)) ((hs2.re [3, 0, 1, 2]))
    have hs4 : sat h2 (bigA (fun p => rsesA p.1 p.2) (M.filter fun p => decide (p.2.id ≠ k)) :: cells b #[.int .i64 last, .slice out.a out.len out.cap] :: ownS eP 1 out ((M.filter fun p => decide (p.2.id ≠ k)).map (·.1)) :: ownS eP 1 s (M.map (·.1)) :: R) := hs3
    exact (hs4.re [3, 1, 2, 0]).drop

end Go.Proofs.YtlgddhcbiioefaaDoor
