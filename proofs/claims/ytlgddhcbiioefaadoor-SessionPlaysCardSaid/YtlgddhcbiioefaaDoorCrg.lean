/-
  Crg: contracts: what the document's sessions do.
-/
import Derived.Test.YtlgddhcbiioefaaDoorCrf
namespace Go.Proofs.YtlgddhcbiioefaaDoor
open Go.H Go.Proofs
set_option linter.unusedSimpArgs false
set_option linter.unusedVariables false
set_option synthInstance.maxSize 100000
set_option synthInstance.maxHeartbeats 400000

variable {h : Heap} {R : List Asn}

theorem rtab_open {b : Nat} {last : Int} {m1 m2 : List (Nat × RS)} {p : Nat × RS} (hs : sat h (rtabA b last (m1 ++ p :: m2) :: R)) : ∃ (s : Slc) (ob pb ib qb : Nat) (w : Slc),
    sat h (cells p.1 (rsC p.2 ob ib) :: cells ob (roC pb w) :: ownS encM 5 w p.2.waiting :: cells pb rpC :: cells ib #[at0 qb] :: cells qb rpC :: cells b #[.int .i64 last, .slice s.a s.len s.cap] :: ownS eP 1 s ((m1 ++ p :: m2).map (·.1)) :: bigA (fun p => rsesA p.1 p.2) (m1 ++ m2) :: R) := by
  obtain ⟨s, hs⟩ := rtabA_iff.1 hs
  have h1 := bigA_pick.1 (hs.re [2, 0, 1])
  obtain ⟨ob, pb, ib, qb, w, h2⟩ := rsesA_iff.1 h1
  exact ⟨s, ob, pb, ib, qb, w, h2.re [0, 1, 2, 3, 4, 5, 7, 8, 6]⟩
theorem rtab_shut {b : Nat} {last : Int} {m1 m2 : List (Nat × RS)} {n : Nat} {x : RS} {s : Slc} {ob pb ib qb : Nat} {w : Slc} {ks : List Nat} (hk : (m1 ++ (n, x) :: m2).map (·.1) = ks)
    (hs : sat h (cells n (rsC x ob ib) :: cells ob (roC pb w) :: ownS encM 5 w x.waiting :: cells pb rpC :: cells ib #[at0 qb] :: cells qb rpC :: cells b #[.int .i64 last, .slice s.a s.len s.cap] :: ownS eP 1 s ks :: bigA (fun p => rsesA p.1 p.2) (m1 ++ m2) :: R)) :
    sat h (rtabA b last (m1 ++ (n, x) :: m2) :: R) := by
  subst hk
  have h1 : sat h (rsesA n x :: cells b #[.int .i64 last, .slice s.a s.len s.cap] :: ownS eP 1 s ((m1 ++ (n, x) :: m2).map (·.1)) :: bigA (fun p => rsesA p.1 p.2) (m1 ++ m2) :: R) := rsesA_iff.2 ⟨ob, pb, ib, qb, w, hs⟩
  have h2 : sat h (bigA (fun p => rsesA p.1 p.2) (m1 ++ (n, x) :: m2) :: cells b #[.int .i64 last, .slice s.a s.len s.cap] :: ownS eP 1 s ((m1 ++ (n, x) :: m2).map (·.1)) :: R) := bigA_pick.2 (h1.re [0, 3, 1, 2])
  exact rtabA_iff.2 ⟨s, h2.re [1, 2, 0]⟩

theorem keys_same {m1 m2 : List (Nat × RS)} {n : Nat} {x y : RS} : (m1 ++ (n, x) :: m2).map (·.1) = (m1 ++ (n, y) :: m2).map (·.1) := by simp

set_option maxRecDepth 100000 in
theorem rEnd_spec {b : Nat} {last : Int} {M : List (Nat × RS)} {k : Int} (hs : sat h (rtabA b last M :: R)) (hl : M.length ≤ 1000) {Q : Value → Heap → Prop}
    (hno : (∀ p ∈ M, p.2.id ≠ k) → Q (.bool false) h) (hoff : ∀ m1 p m2, M = m1 ++ p :: m2 → p.2.id = k → p.2.on = false → Q (.bool false) h)
    (hkeep : ∀ m1 p m2, M = m1 ++ p :: m2 → p.2.id = k → p.2.on = true → p.2.keep = true → ∀ h', sat h' (rtabA b last (m1 ++ (p.1, { p.2 with on := false }) :: m2) :: R) → Q (.bool false) h')
    (hdel : ∀ m1 p m2, M = m1 ++ p :: m2 → p.2.id = k → p.2.on = true → p.2.keep = false → ∀ h', sat h' (rtabA b last ((m1 ++ (p.1, { p.2 with on := false }) :: m2).filter fun p => decide (p.2.id ≠ k)) :: R) → Q (.bool true) h') :
    HCalls Tryd.prog 24 #[at0 b, .int .i64 k] h Q := by
  refine ref18_End_calls (some ⟨b, 0, none⟩) k h Q ?_
  unfold ref18_End
  refine bind_call1 (rGet_spec hs hl (fun hn => ⟨none, rfl, ?_⟩) (fun m1 p m2 hM hk => ⟨some ⟨p.1, 0, none⟩, rfl, ?_⟩))
  · (try dsimp only); rw [HM.ite_apply, if_pos (by rfl)]
    exact hno hn
  subst hM
  obtain ⟨n, x⟩ := p
  simp only at hk
  obtain ⟨s, ob, pb, ib, qb, w, h1⟩ := rtab_open hs
  simp only at h1
  (try dsimp only); rw [HM.ite_apply, if_neg (by simp)]
  have c3 : cellH h ⟨n, 3, none⟩ = some (.bool x.on) := h1.cell 3
  have c4 : cellH h ⟨n, 4, none⟩ = some (at0 ob) := h1.cell 4
  refine ⟨_, rfl, x.on, by rw [add_own]; exact c3, ?_⟩
  (try dsimp only); rw [HM.ite_apply]
  by_cases hon : x.on = true
  case neg =>
    have hon' : x.on = false := by simpa using hon
    rw [if_pos (by simp [hon'])]
    exact hoff m1 (n, x) m2 rfl hk hon'
  rw [if_neg (by simp [hon])]
  refine ⟨_, rfl, ?_⟩
  (try dsimp only); rw [HM.bind_apply, add_own]
  refine store1_cells h1 (by simp) rfl fun h2 hs2 => ?_
  have hs3 : sat h2 (cells n (rsC { x with on := false } ob ib) :: cells ob (roC pb w) :: ownS encM 5 w x.waiting :: cells pb rpC :: cells ib #[at0 qb] :: cells qb rpC :: cells b #[.int .i64 last, .slice s.a s.len s.cap] :: ownS eP 1 s ((m1 ++ (n, x) :: m2).map (·.1)) :: bigA (fun p => rsesA p.1 p.2) (m1 ++ m2) :: R) := hs2
  clear hs2
  have d4 : cellH h2 ⟨n, 4, none⟩ = some (at0 ob) := hs3.cell 4
  refine ⟨_, rfl, some ⟨ob, 0, none⟩, by rw [add_own]; exact d4, _, rfl, ?_⟩
  (try dsimp only); rw [HM.bind_apply, add_own]
  refine store1_cells hs3.p1 (by simp) rfl fun h3 hs4 => ?_
  have hs5 : sat h3 (cells n (rsC { x with on := false } ob ib) :: cells ob (roC pb w) :: ownS encM 5 w x.waiting :: cells pb rpC :: cells ib #[at0 qb] :: cells qb rpC :: cells b #[.int .i64 last, .slice s.a s.len s.cap] :: ownS eP 1 s ((m1 ++ (n, x) :: m2).map (·.1)) :: bigA (fun p => rsesA p.1 p.2) (m1 ++ m2) :: R) := hs4.p1
  clear hs4 hs3
  have e2 : cellH h3 ⟨n, 2, none⟩ = some (.bool x.keep) := hs5.cell 2
  have hs6 : sat h3 (rtabA b last (m1 ++ (n, { x with on := false }) :: m2) :: R) := rtab_shut keys_same hs5
  refine ⟨_, rfl, x.keep, by rw [add_own]; exact e2, ?_⟩
  (try dsimp only); rw [HM.ite_apply]
  by_cases hkp : x.keep = true
  · rw [if_neg (by simp [hkp])]
    exact hkeep m1 (n, x) m2 rfl hk hon hkp h3 hs6
  · have hkp' : x.keep = false := by simpa using hkp
    rw [if_pos (by simp [hkp'])]
    refine bind_callN (rdrop_spec hs6 (by simp at hl ⊢; omega) fun h4 hs7 => ⟨(), rfl, ?_⟩)
    exact hdel m1 (n, x) m2 rfl hk hon hkp' h4 hs7

theorem r13New_spec (hs : sat h R) {k : Int} (hk : k = 64) {Q : Value → Heap → Prop} (hq : ∀ b h', sat h' (cells b rpC :: R) → Q (at0 b) h') :
    HCalls Tryd.prog 91 #[.int .i64 k] h Q := by
  subst hk
  refine ref13_New_calls 64 h Q ?_
  unfold ref13_New
  refine bind_cut (fun x h' => h' = h ∧ x.1 = 64) ?_ ?_
  · rw [HM.ite_apply, if_neg (by decide)]
    exact ⟨rfl, rfl⟩
  rintro ⟨x, ⟨⟩⟩ h1 ⟨rfl, hx⟩
  simp only at hx
  subst hx
  refine bind_cut (fun x h' => h' = h1 ∧ x.1 = 64) ?_ ?_
  · rw [HM.ite_apply, if_neg (by decide)]
    exact ⟨rfl, rfl⟩
  rintro ⟨x, ⟨⟩⟩ h2 ⟨rfl, hx⟩
  simp only at hx
  subst hx
  refine new_cells hs fun b h3 hs3 => ?_
  exact hq b h3 hs3

theorem r14New_spec (hs : sat h R) {Q : Value → Heap → Prop} (hq : ∀ ob pb h', sat h' (cells ob (roC pb ⟨none, 0, 0⟩) :: cells pb rpC :: R) → Q (at0 ob) h') :
    HCalls Tryd.prog 62 #[.int .i64 64] h Q := by
  refine ref14_New_calls 64 h Q ?_
  unfold ref14_New
  refine bind_call1 (r13New_spec hs rfl fun pb h1 hs1 => ⟨some ⟨pb, 0, none⟩, rfl, ?_⟩)
  refine bind_call1 (ref14_bound_calls 64 h1 _ ?_)
  unfold ref14_bound
  refine bind_call1 (r13New_spec hs1 rfl fun gb h2 hs2 => ⟨some ⟨gb, 0, none⟩, rfl, ?_⟩)
  have c0 : cellH h2 ⟨gb, 0, none⟩ = some (.int .i64 64) := hs2.cell 0
  refine ⟨_, rfl, 64, by rw [add_own]; exact c0, 64, rfl, ?_⟩
  refine new_cells hs2.drop fun ob h3 hs3 => ?_
  exact hq ob pb h3 hs3

theorem r15New_spec (hs : sat h R) {Q : Value → Heap → Prop} (hq : ∀ ib qb h', sat h' (cells ib #[at0 qb] :: cells qb rpC :: R) → Q (at0 ib) h') :
    HCalls Tryd.prog 63 #[.int .i64 64] h Q := by
  refine ref15_New_calls 64 h Q ?_
  unfold ref15_New
  refine bind_call1 (r13New_spec hs rfl fun qb h1 hs1 => ⟨some ⟨qb, 0, none⟩, rfl, ?_⟩)
  refine new_cells hs1 fun ib h2 hs2 => ?_
  exact hq ib qb h2 hs2

set_option maxRecDepth 100000 in
theorem rBegin_spec {b : Nat} {last : Int} {M : List (Nat × RS)} (hs : sat h (rtabA b last M :: R)) (hl : M.length ≤ 500) {c : ByteArray} (hsz : c.size ≤ 9223372036854775800) {clean keep : Bool}
    (hl0 : 0 ≤ last) (hl1 : last < 4611686018427387904) {Q : Value → Heap → Prop}
    (hbad : ¬ goodName c → Q (.tuple #[.int .i64 0, .bool false, .int .i64 133]) h)
    (hfull : goodName c → (∀ p ∈ M, p.2.client ≠ c) → 32 ≤ M.length → Q (.tuple #[.int .i64 0, .bool false, .int .i64 151]) h)
    (hon : goodName c → clean = false → ∀ m1 p m2, M = m1 ++ p :: m2 → p.2.client = c → ∀ h', sat h' (rtabA b last (m1 ++ (p.1, { p.2 with on := true, keep := keep }) :: m2) :: R) → Q (.tuple #[.int .i64 p.2.id, .bool true, .int .i64 0]) h')
    (hnew : goodName c → ∀ M0, ((∀ p ∈ M, p.2.client ≠ c) ∧ M.length < 32 ∧ M0 = M) ∨ (clean = true ∧ ∃ m1 p m2, M = m1 ++ p :: m2 ∧ p.2.client = c ∧ M0 = M.filter fun q => decide (q.2.id ≠ p.2.id)) →
      ∀ nb h', sat h' (rtabA b (last + 1) (M0 ++ [(nb, ⟨last + 1, c, keep, true, []⟩)]) :: R) → Q (.tuple #[.int .i64 (last + 1), .bool false, .int .i64 0]) h') :
    HCalls Tryd.prog 28 #[at0 b, .string c, .bool clean, .bool keep] h Q := by
  refine ref18_Begin_calls (some ⟨b, 0, none⟩) c clean keep h Q ?_
  unfold ref18_Begin
  refine bind_callN (rFault_spec hs c hsz ⟨(match faultOf c with | some n => ((n : Int), true, ()) | none => (0, false, ())), by cases faultOf c <;> rfl, ?_⟩)
  have hx : (match faultOf c with | some n => ((n : Int), true, ()) | none => (0, false, ()) : Int × Bool × Unit).2.1 = (faultOf c).isSome := by cases faultOf c <;> rfl
  simp only [hx]
  clear hx
  refine bind_cut (fun x h' => h' = h ∧ (x.1 = true ↔ ¬ goodName c)) ?_ ?_
  · unfold goodName
    have hce : c = ByteArray.mk #[] ↔ c.size = 0 := by
      constructor
      · rintro rfl; rfl
      · intro h0
        have h1 : c.data.size = 0 := h0
        have h2 : c.data = #[] := Array.eq_empty_of_size_eq_zero h1
        cases c
        simp at h2
        rw [h2]
    cases hf : faultOf c with
    | some n => simp
    | none =>
      by_cases g1 : c.size = 0
      · simp [g1, hce]
      · by_cases g2 : 64 < ((c.size : Nat) : Int)
        · simp [g1, g2, hce]; omega
        · simp [g1, g2, hce]; omega
  rintro ⟨x, ⟨⟩⟩ h1 ⟨rfl, hb⟩
  simp only at hb
  (try dsimp only); rw [HM.ite_apply]
  by_cases hg : goodName c
  case neg =>
    rw [if_pos (hb.2 hg)]
    exact hbad hg
  rw [if_neg (fun hh => (hb.1 hh) hg)]
  clear hb hbad
  -- behind the look for the client
  have fresh : ∀ (M0 : List (Nat × RS)) (h2 : Heap), M0.length ≤ 500 → (∀ nb h', sat h' (rtabA b (last + 1) (M0 ++ [(nb, ⟨last + 1, c, keep, true, []⟩)]) :: R) → Q (.tuple #[.int .i64 (last + 1), .bool false, .int .i64 0]) h') → sat h2 (rtabA b last M0 :: R) →
      (HM.bind (α := Addr) (HM.nonnil (some ⟨b, 0, none⟩)) fun (x15 : Addr) =>
  HM.bind (α := Int) (HM.load1 (.int .i64) (Addr.add x15 0)) fun (x16 : Int) =>
  HM.bind (α := Addr) (HM.nonnil (some ⟨b, 0, none⟩)) fun (x17 : Addr) =>
  HM.bind (α := Unit) (HM.store1 (Addr.add x17 0) (.int .i64 (IntKind.wrap .i64 (x16 + 1)))) fun (_ : Unit) =>
  HM.bind (α := Option Addr) (HM.call1 Tryd.prog (.one .ptr) 62 #[.int .i64 64]) fun (x18 : Option Addr) =>
  HM.bind (α := Option Addr) (HM.call1 Tryd.prog (.one .ptr) 63 #[.int .i64 64]) fun (x19 : Option Addr) =>
  HM.bind (α := Addr) (HM.nonnil (some ⟨b, 0, none⟩)) fun (x20 : Addr) =>
  HM.bind (α := Slc) (HM.load1 .slc (Addr.add x20 1)) fun (x21 : Slc) =>
  HM.bind (α := Addr) (HM.nonnil (some ⟨b, 0, none⟩)) fun (x22 : Addr) =>
  HM.bind (α := Int) (HM.load1 (.int .i64) (Addr.add x22 0)) fun (x23 : Int) =>
  HM.bind (α := Nat) (HM.new (.cells #[.int .i64 x23, .string c, .bool keep, .bool true, .pointer x18, .pointer x19] 81)) fun (x24 : Nat) =>
  HM.bind (α := Slc) (HM.load1 .slc (Addr.add x20 1)) fun (x25 : Slc) =>
  HM.req ((.slice x25.a x25.len x25.cap : Value) = .slice x21.a x21.len x21.cap) <|
  HM.bind (α := Nat) (HM.new (.cells #[.pointer (some ⟨x24, 0, none⟩)] 73)) fun (x26 : Nat) =>
  HM.bind (α := Slc) (HM.load1 .slc (Addr.add x20 1)) fun (x27 : Slc) =>
  HM.req ((.slice x27.a x27.len x27.cap : Value) = .slice x21.a x21.len x21.cap) <|
  HM.bind (α := Slc) (HM.append 73 1 8 #[.pointer none] x21 1 (srcSlc 1 (⟨some ⟨x26, 0, none⟩, 1, 1⟩))) fun (x28 : Slc) =>
  HM.bind (α := Addr) (HM.nonnil (some ⟨b, 0, none⟩)) fun (x29 : Addr) =>
  HM.bind (α := Unit) (HM.store1 (Addr.add x29 1) (.slice x28.a x28.len x28.cap)) fun (_ : Unit) =>
  HM.bind (α := Addr) (HM.nonnil (some ⟨b, 0, none⟩)) fun (x30 : Addr) =>
  HM.bind (α := Int) (HM.load1 (.int .i64) (Addr.add x30 0)) fun (x31 : Int) =>
  HM.pure ((x31, false, 0, ()) : Int × Bool × Int × Unit)) h2 fun x h' => Q (.tuple #[.int .i64 x.1, .bool x.2.1, .int .i64 x.2.2.1]) h' := fun M0 h2 hM0 hq' hs2 => by
    obtain ⟨s, hs3⟩ := rtabA_iff.1 hs2
    have c0 : cellH h2 ⟨b, 0, none⟩ = some (.int .i64 last) := hs3.cell 0
    refine ⟨_, rfl, last, by rw [add_own]; exact c0, _, rfl, ?_⟩
    (try dsimp only); rw [HM.bind_apply, add_own]
    refine store1_cells hs3 (by simp) rfl fun h3 hs4 => ?_
    rw [wrap_id (by omega) (by omega)] at hs4
    have hs5 : sat h3 (cells b #[.int .i64 (last + 1), .slice s.a s.len s.cap] :: ownS eP 1 s (M0.map (·.1)) :: bigA (fun p => rsesA p.1 p.2) M0 :: R) := hs4
    clear hs4 c0
    refine bind_call1 (r14New_spec hs5 fun ob pb h4 hs6 => ⟨some ⟨ob, 0, none⟩, rfl, ?_⟩)
    refine bind_call1 (r15New_spec hs6 fun ib qb h5 hs7 => ⟨some ⟨ib, 0, none⟩, rfl, ?_⟩)
    have d0 : cellH h5 ⟨b, 0, none⟩ = some (.int .i64 (last + 1)) := (hs7.re [4, 0, 1, 2, 3]).cell 0
    have d1 : cellH h5 ⟨b, 1, none⟩ = some (.slice s.a s.len s.cap) := (hs7.re [4, 0, 1, 2, 3]).cell 1
    refine ⟨_, rfl, s, by rw [add_own]; exact d1, _, rfl, last + 1, by rw [add_own]; exact d0, ?_⟩
    refine new_cells hs7 fun nb h6 hs8 => ?_
    have e1 : cellH h6 ⟨b, 1, none⟩ = some (.slice s.a s.len s.cap) := (hs8.re [5, 0, 1, 2, 3, 4]).cell 1
    refine ⟨s, by rw [add_own]; exact e1, rfl, ?_⟩
    refine new_cells hs8 fun tb h7 hs9 => ?_
    have f1 : cellH h7 ⟨b, 1, none⟩ = some (.slice s.a s.len s.cap) := (hs9.re [6, 0, 1, 2, 3, 4, 5]).cell 1
    refine ⟨s, by rw [add_own]; exact f1, rfl, ?_⟩
    (try dsimp only); rw [HM.bind_apply]
    refine append_own (ys := [nb]) eP_len eP_cell rfl (hs9.re [7, 0, 1, 2, 3, 4, 5, 6]) rfl ?_ (by decide) (by decide) (by rw [List.length_map]; omega) fun s' h8 hs10 => ?_
    · simp only [srcSlc, Nat.one_mul, List.flatMap_cons, List.flatMap_nil, List.append_nil]
      exact hs9.reads rfl
    refine ⟨_, rfl, ?_⟩
    (try dsimp only); rw [HM.bind_apply, add_own]
    refine store1_cells (hs10.re [7, 0, 1, 2, 3, 4, 5, 6]) (by simp) rfl fun h9 hs11 => ?_
    have hs12 : sat h9 (cells b #[.int .i64 (last + 1), .slice s'.a s'.len s'.cap] :: ownS eP 1 s' (M0.map (·.1) ++ [nb]) :: cells tb #[at0 nb] :: cells nb (rsC ⟨last + 1, c, keep, true, []⟩ ob ib) :: cells ib #[at0 qb] :: cells qb rpC :: cells ob (roC pb ⟨none, 0, 0⟩) :: cells pb rpC :: bigA (fun p => rsesA p.1 p.2) M0 :: R) := hs11
    clear hs11 hs10 hs9 hs8 hs7 hs6 hs5 e1 f1 d0 d1
    have g0 : cellH h9 ⟨b, 0, none⟩ = some (.int .i64 (last + 1)) := hs12.cell 0
    refine ⟨_, rfl, last + 1, by rw [add_own]; exact g0, ?_⟩
    refine hq' nb h9 (rtab_shut (m1 := M0) (m2 := []) (n := nb) (x := ⟨last + 1, c, keep, true, []⟩) (s := s') (ob := ob) (pb := pb) (ib := ib) (qb := qb) (w := ⟨none, 0, 0⟩) (ks := M0.map (·.1) ++ [nb]) (by simp) ?_)
    rw [List.append_nil]
    have hs13 := ownS_nil (enc := encM) (size := 5) hs12
    exact (hs13.re [3, 4, 7, 0, 8, 5, 6, 1, 2, 9]).drop
  refine bind_cut (fun x h' => h' = h1 ∧ ((x = none ∧ (∀ p ∈ M, p.2.client ≠ c)) ∨ (∃ m1 p m2, M = m1 ++ p :: m2 ∧ x = some ⟨p.1, 0, none⟩ ∧ p.2.client = c))) ?_ ?_
  · exact rFind_spec hs (by omega) (fun hn => ⟨none, rfl, rfl, .inl ⟨rfl, hn⟩⟩) (fun m1 p m2 hM hc => ⟨some ⟨p.1, 0, none⟩, rfl, rfl, .inr ⟨m1, p, m2, hM, rfl, hc⟩⟩)
  rintro x h2 ⟨rfl, hx⟩
  refine bind_cut (fun y h' => h' = h2 ∧ y.1 = (x.isSome && !clean)) ?_ ?_
  · cases x <;> simp
  rintro ⟨y, ⟨⟩⟩ h3 ⟨rfl, hy⟩
  simp only at hy
  subst hy
  (try dsimp only); rw [HM.ite_apply]
  rcases hx with ⟨rfl, hn⟩ | ⟨m1, p, m2, hM, rfl, hc⟩
  · rw [if_neg (by simp)]
    (try dsimp only)
    refine bind_cut (fun z h' => h' = h3 ∧ ((32 ≤ M.length ∧ z = .inr (0, false, 151, ())) ∨ (M.length < 32 ∧ z = .inl ()))) ?_ ?_
    · rw [HM.ite_apply, if_neg (by simp)]
      obtain ⟨s, hs1⟩ := rtabA_iff.1 hs
      have c1 : cellH h3 ⟨b, 1, none⟩ = some (.slice s.a s.len s.cap) := hs1.cell 1
      have hsl : s.len = (M.map (·.1)).length := hs1.p1.own_len
      rw [List.length_map] at hsl
      refine ⟨_, rfl, s, by rw [add_own]; exact c1, ?_⟩
      (try dsimp only); rw [HM.ite_apply]
      by_cases h32 : 32 ≤ M.length
      · rw [if_pos (by simp only [decide_eq_true_eq]; omega)]
        exact ⟨rfl, .inl ⟨h32, rfl⟩⟩
      · rw [if_neg (by simp only [decide_eq_true_eq]; omega)]
        exact ⟨rfl, .inr ⟨by omega, rfl⟩⟩
    rintro z h4 ⟨rfl, ⟨h32, rfl⟩ | ⟨h32, rfl⟩⟩
    · simp only [Sum.elim_inl, Sum.elim_inr, HM.pure_apply]
      exact hfull hg hn h32
    · simp only [Sum.elim_inl, Sum.elim_inr]
      exact fresh M h4 hl (fun nb h' hs' => hnew hg M (.inl ⟨hn, h32, rfl⟩) nb h' hs') hs
  · subst hM
    obtain ⟨n, x⟩ := p
    simp only at hc
    cases clean with
    | false =>
      rw [if_pos (by simp)]
      obtain ⟨s, ob, pb, ib, qb, w, hs1⟩ := rtab_open hs
      simp only at hs1
      refine ⟨_, rfl, ?_⟩
      (try dsimp only); rw [HM.bind_apply, add_own]
      refine store1_cells hs1 (by simp) rfl fun h4 hs2 => ?_
      refine ⟨_, rfl, ?_⟩
      (try dsimp only); rw [HM.bind_apply, add_own]
      refine store1_cells hs2 (by simp) rfl fun h5 hs3 => ?_
      have hs4 : sat h5 (cells n (rsC { x with on := true, keep := keep } ob ib) :: cells ob (roC pb w) :: ownS encM 5 w x.waiting :: cells pb rpC :: cells ib #[at0 qb] :: cells qb rpC :: cells b #[.int .i64 last, .slice s.a s.len s.cap] :: ownS eP 1 s ((m1 ++ (n, x) :: m2).map (·.1)) :: bigA (fun p => rsesA p.1 p.2) (m1 ++ m2) :: R) := hs3
      have c0 : cellH h5 ⟨n, 0, none⟩ = some (.int .i64 x.id) := hs4.cell 0
      refine ⟨_, rfl, x.id, by rw [add_own]; exact c0, ?_⟩
      exact hon hg rfl m1 (n, x) m2 rfl hc h5 (rtab_shut keys_same hs4)
    | true =>
      rw [if_neg (by simp)]
      (try dsimp only)
      refine bind_cut (fun z h' => z = .inl () ∧ sat h' (rtabA b last ((m1 ++ (n, x) :: m2).filter fun q => decide (q.2.id ≠ x.id)) :: R)) ?_ ?_
      · rw [HM.ite_apply, if_pos (by rfl)]
        obtain ⟨s, ob, pb, ib, qb, w, hs1⟩ := rtab_open hs
        have c0 : cellH h3 ⟨n, 0, none⟩ = some (.int .i64 x.id) := hs1.cell 0
        refine ⟨_, rfl, x.id, by rw [add_own]; exact c0, ?_⟩
        refine bind_callN (rdrop_spec hs (by omega) fun h4 hs7 => ⟨(), rfl, ?_⟩)
        exact ⟨rfl, hs7⟩
      rintro z h4 ⟨rfl, hs5⟩
      simp only [Sum.elim_inl, Sum.elim_inr]
      exact fresh _ h4 (Nat.le_trans (List.length_filter_le _ _) hl) (fun nb h' hs' => hnew hg _ (.inr ⟨rfl, m1, (n, x), m2, rfl, hc, rfl⟩) nb h' hs') hs5

/-! ### what is sent; what is the same -/

def rsendR (x : RS) : Int × RS := if 256 ≤ x.waiting.length then (151, x) else (0, { x with waiting := x.waiting ++ [mT] })

theorem rgoOn_off {ob pb : Nat} {w : Slc} (hs : sat h (cells ob (roC pb w) :: R)) (s : Slc) {Q : Value → Heap → Prop} (hq : Q (.slice s.a s.len s.cap) h) :
    HCalls Tryd.prog 59 #[at0 ob, .slice s.a s.len s.cap] h Q := by
  refine ref14_goOn_calls (some ⟨ob, 0, none⟩) s h Q ?_
  have c2 : cellH h ⟨ob, 2, none⟩ = some (.bool false) := hs.cell 2
  unfold ref14_goOn
  refine ⟨_, rfl, false, by rw [add_own]; exact c2, ?_⟩
  (try dsimp only); rw [HM.ite_apply, if_pos (by rfl)]
  exact hq

/-- the waiting slice behind a Send -/
theorem rSend_spec {ob pb : Nat} {w : Slc} {ws : List MsT} (hs : sat h (cells ob (roC pb w) :: ownS encM 5 w ws :: R)) {Q : Value → Heap → Prop}
    (hfull : 256 ≤ ws.length → ∀ h', sat h' (cells ob (roC pb w) :: ownS encM 5 w ws :: R) → Q (.tuple #[.slice none 0 0, .int .i64 151]) h')
    (hok : ws.length < 256 → ∀ w' h', sat h' (cells ob (roC pb w') :: ownS encM 5 w' (ws ++ [mT]) :: R) → Q (.tuple #[.slice none 0 0, .int .i64 0]) h') :
    HCalls Tryd.prog 26 #[at0 ob, vT] h Q := by
  refine ref14_Send_calls (some ⟨ob, 0, none⟩) (ByteArray.mk #[116], ByteArray.mk #[], 1, false, ByteArray.mk #[], ()) h Q ?_
  have hwl : w.len = ws.length := hs.p1.own_len
  unfold ref14_Send
  refine new_cells hs fun mb h1 hs1 => ?_
  have hM : ∀ {h' : Heap} {R' : List Asn}, sat h' (cells mb (encM mT).toArray :: R') → cellH h' ⟨mb, 2, none⟩ = some (.int .i64 1) := fun hs' => hs'.cell 2
  have hs1' : sat h1 (cells mb (encM mT).toArray :: cells ob (roC pb w) :: ownS encM 5 w ws :: R) := hs1
  clear hs1
  have c4 : cellH h1 ⟨ob, 4, none⟩ = some (.slice w.a w.len w.cap) := hs1'.p1.cell 4
  refine bind_cut (fun x h' => h' = h1 ∧ x.1 = false) ?_ ?_
  · refine ⟨1, by rw [add_own]; exact hM hs1', ?_⟩
    (try dsimp only); rw [HM.ite_apply, if_neg (by decide)]
    exact ⟨1, by rw [add_own]; exact hM hs1', rfl, rfl⟩
  rintro ⟨x, ⟨⟩⟩ h2 ⟨rfl, hx⟩
  simp only at hx
  subst hx
  (try dsimp only); rw [HM.ite_apply, if_neg (by simp)]
  refine bind_cut (fun x h' => h' = h2 ∧ x.1 = false) ?_ ?_
  · refine ⟨1, by rw [add_own]; exact hM hs1', ?_⟩
    (try dsimp only); rw [HM.ite_apply, if_neg (by decide)]
    exact ⟨rfl, rfl⟩
  rintro ⟨x, ⟨⟩⟩ h3 ⟨rfl, hx⟩
  simp only at hx
  subst hx
  (try dsimp only); rw [HM.ite_apply, if_neg (by simp)]
  refine ⟨_, rfl, w, by rw [add_own]; exact c4, ?_⟩
  (try dsimp only); rw [HM.ite_apply]
  by_cases hf : 256 ≤ ws.length
  · rw [if_pos (by simp only [decide_eq_true_eq]; omega)]
    exact hfull hf h3 hs1'.drop
  rw [if_neg (by simp only [decide_eq_true_eq]; omega)]
  refine ⟨_, rfl, w, by rw [add_own]; exact c4, ?_⟩
  refine loadN_cells (ts := [.str, .str, .int .i64, .bool, .str]) (ByteArray.mk #[116], ByteArray.mk #[], 1, false, ByteArray.mk #[], ()) hs1' rfl ?_
  refine new_cells hs1' fun nb h4 hs4 => ?_
  have hs4' : sat h4 (cells nb (encM mT).toArray :: cells mb (encM mT).toArray :: cells ob (roC pb w) :: ownS encM 5 w ws :: R) := hs4
  clear hs4
  refine ⟨w, by rw [add_own]; exact (hs4'.re [2, 0, 1]).cell 4, rfl, ?_⟩
  (try dsimp only); rw [HM.bind_apply]
  refine append_own (ys := [mT]) eM_len eM_cell rfl (hs4'.re [3, 0, 1, 2]) rfl ?_ (by decide) (by decide) (by omega) fun w' h5 hs5 => ?_
  · simp only [srcSlc, Nat.one_mul, List.flatMap_cons, List.flatMap_nil, List.append_nil]
    exact hs4'.reads rfl
  refine ⟨_, rfl, ?_⟩
  (try dsimp only); rw [HM.bind_apply, add_own]
  refine store1_cells (hs5.re [3, 0, 1, 2]) (by simp) rfl fun h6 hs6 => ?_
  have hs7 : sat h6 (cells ob (roC pb w') :: ownS encM 5 w' (ws ++ [mT]) :: R) := (hs6.re [2, 3, 0, 1]).drop.drop
  refine bind_call1 (rgoOn_off hs7 ⟨none, 0, 0⟩ ⟨⟨none, 0, 0⟩, rfl, ?_⟩)
  exact hok (by omega) w' h6 hs7

theorem same_none (hs : sat h R) {Q : Value → Heap → Prop} (hq : ∀ h', sat h' R → Q (.bool true) h') :
    HCalls Tryd.prog 29 #[.agg #[.int .i64 0, .string (ByteArray.mk #[]), .bool false, .bool false], .bool false, .pointer none] h Q := by
  refine law18_same_calls (0, ByteArray.mk #[], false, false, ()) false none h Q ?_
  unfold law18_same
  refine new_cells hs fun b h1 hs1 => ?_
  refine bind_cut (fun x h' => h' = h1 ∧ x.1 = true) ?_ ?_
  · rw [HM.ite_apply, if_pos (by rfl)]
    exact ⟨rfl, rfl⟩
  rintro ⟨x, ⟨⟩⟩ h2 ⟨rfl, hx⟩
  simp only at hx
  subst hx
  (try dsimp only); rw [HM.ite_apply, if_pos (by rfl)]
  refine bind_cut (fun x h' => h' = h2 ∧ x.1 = true) ?_ ?_
  · rw [HM.ite_apply, if_pos (by rfl)]
    exact ⟨rfl, rfl⟩
  rintro ⟨x, ⟨⟩⟩ h3 ⟨rfl, hx⟩
  simp only at hx
  subst hx
  exact hq h3 hs1.drop

theorem same_some {n : Nat} {x : RS} {ob ib : Nat} (hs : sat h R) (hc : ∀ {h' : Heap}, sat h' R → ∀ i, cellH h' ⟨n, i, none⟩ = (rsC x ob ib)[i]?) {Q : Value → Heap → Prop} (hq : ∀ h', sat h' R → Q (.bool true) h') :
    HCalls Tryd.prog 29 #[.agg #[.int .i64 x.id, .string x.client, .bool x.keep, .bool x.on], .bool true, at0 n] h Q := by
  refine law18_same_calls (x.id, x.client, x.keep, x.on, ()) true (some ⟨n, 0, none⟩) h Q ?_
  unfold law18_same
  refine new_cells hs fun b h1 hs1 => ?_
  have hcs := hc hs1.drop
  refine bind_cut (fun x h' => h' = h1 ∧ x.1 = false) ?_ ?_
  · rw [HM.ite_apply, if_neg (by simp)]
    exact ⟨rfl, rfl⟩
  rintro ⟨y, ⟨⟩⟩ h2 ⟨rfl, hy⟩
  simp only at hy
  subst hy
  (try dsimp only); rw [HM.ite_apply, if_neg (by simp)]
  refine loadN_cells (ts := [.int .i64, .str, .bool, .bool]) (x.id, x.client, x.keep, x.on, ()) hs1 rfl ?_
  refine ⟨_, rfl, x.id, by rw [add_own]; exact hcs 0, _, rfl, x.client, by rw [add_own]; exact hcs 1, _, rfl, x.keep, by rw [add_own]; exact hcs 2, _, rfl, x.on, by rw [add_own]; exact hcs 3, ?_⟩
  have := hq h2 hs1.drop
  simpa using this

end Go.Proofs.YtlgddhcbiioefaaDoor
