/-
  Ctrn: contracts: tries: match, over the branches.
-/
import Derived.Test.YtnpgpijkofbknaaGreatDoorCtrm
namespace Go.Proofs.YtnpgpijkofbknaaGreatDoor
open Go.H Go.Proofs
set_option linter.unusedSimpArgs false
set_option linter.unusedVariables false
set_option synthInstance.maxSize 100000
set_option synthInstance.maxHeartbeats 400000
set_option maxRecDepth 100000

variable {h h0 : Heap} {R : List Asn}

/-- what matches behind a branch -/
def matchE (N : Nds) : Path → Path → Bool → List Ent
  | p, left, d => match mget N p with
    | none => []
    | some _ => (if d = true then [] else entAt N (p ++ [hashS])) ++ match left with
      | [] => entAt N p
      | x :: r => (if d = true then [] else matchE N (p ++ [plusS]) r false) ++ matchE N (p ++ [x]) r false
  termination_by p left d => left.length

theorem matchE_none {N : Nds} {p left : Path} {d : Bool} (h : mget N p = none) : matchE N p left d = [] := by
  unfold matchE; rw [h]
theorem matchE_nil {N : Nds} {p : Path} {nd : Nd} {d : Bool} (h : mget N p = some nd) : matchE N p [] d = (if d = true then [] else entAt N (p ++ [hashS])) ++ entAt N p := by
  unfold matchE; rw [h]
theorem matchE_cons {N : Nds} {p r : Path} {x : ByteArray} {nd : Nd} {d : Bool} (h : mget N p = some nd) :
    matchE N p (x :: r) d = (if d = true then [] else entAt N (p ++ [hashS])) ++ ((if d = true then [] else matchE N (p ++ [plusS]) r false) ++ matchE N (p ++ [x]) r false) := by
  rw [matchE, h]

theorem next_ptr {rb : Nat} {N : Nds} (hT : TreeOK rb N) {p : Path} {nd : Nd} (h : mget N p = some nd) (x : ByteArray) : (mget nd.nx x).getD none = (mget N (p ++ [x])).bind fun n => ptrOf n := by
  cases hg : mget nd.nx x with
  | some v =>
    obtain ⟨c, hc, rfl⟩ := hT.down _ _ _ _ h hg
    rw [hc]
    rfl
  | none =>
    cases hc : mget N (p ++ [x]) with
    | none => rfl
    | some c =>
      obtain ⟨n0, h1, h2⟩ := hT.up _ _ _ hc
      rw [h] at h1
      cases h1
      rw [hg] at h2
      cases h2

theorem Clip_spec {s : Slc} {Q : Value → Heap → Prop} (hle : s.len ≤ s.cap) (hq : Q (.slice (sliceOf s 0 s.len s.len 1).a (sliceOf s 0 s.len s.len 1).len (sliceOf s 0 s.len s.len 1).cap) h) :
    HCalls Tryz.prog 36 #[.slice s.a s.len s.cap] h Q := by
  refine slices_Clip_calls s h Q ?_
  unfold slices_Clip
  exact ⟨0, s.len, s.len, ⟨rfl, hle⟩, ⟨rfl, Nat.le_refl _⟩, rfl, hq⟩

/-- a name behind a path: a slice of its own -/
theorem append_path {A : Asn} {s : Slc} {p : Path} {x : ByteArray} (hr : RowAt eS 1 h s p) (hc : s.cap = s.len) (hpl : p.length ≤ 100000) {b : Nat} {L : List Asn} (hs : sat h (cells b #[.string x] :: L)) {Q : Slc → Heap → Prop}
    (hq : ∀ s' h', sat h' (ownS eS 1 s' (p ++ [x]) :: cells b #[.string x] :: L) → Q s' h') :
    HM.append 9 1 16 #[.string (ByteArray.mk #[])] s 1 (srcSlc 1 (⟨some ⟨b, 0, none⟩, 1, 1⟩)) h Q := by
  refine append_full (ys := [x]) eS_len eS_cell rfl hs hr hc rfl ?_ (by decide) (by decide) (by decide) (by omega) hq
  simp only [srcSlc, Nat.one_mul, List.flatMap_cons, List.flatMap_nil, List.append_nil]
  exact hs.reads rfl

def GoodN9 (N : Nds) : Prop := ∀ p nd, mget N p = some nd → nd.q ≠ [] → p ≠ [] ∧ (joinB p).size ≤ 100000

theorem entAt_of {N : Nds} {p : Path} {nd : Nd} (h : mget N p = some nd) : entAt N p = entsOf p nd.q := by unfold entAt; rw [h]

set_option maxHeartbeats 600000 in
theorem match_spec {rb : Nat} {N : Nds} (hT : TreeOK rb N) (hG : GoodN9 N) : ∀ (n : Nat) (left p : Path) (_ : left.length = n) {A : Asn} {s1 s2 out : Slc} {d : Bool} {es : List Ent} {h : Heap} {R : List Asn} (hpl : p.length + left.length ≤ 1000)
    (h1r : ∀ {h' : Heap} {R' : List Asn}, sat h' (A :: R') → RowAt eS 1 h' s1 p) (h2r : ∀ {h' : Heap} {R' : List Asn}, sat h' (A :: R') → RowAt eS 1 h' s2 left)
    (hs : sat h (ndsA N :: ownS encE 3 out es :: A :: R)) (hb : es.length + (matchE N p left d).length ≤ 100000) {Q : Value → Heap → Prop}
    (hq : ∀ out' l h', l.Perm (matchE N p left d) → sat h' (ndsA N :: ownS encE 3 out' (es ++ l) :: A :: R) → Q (.slice out'.a out'.len out'.cap) h'),
    HCalls Tryz.prog 28 #[.pointer ((mget N p).bind fun nd => ptrOf nd), .slice s1.a s1.len s1.cap, .slice s2.a s2.len s2.cap, .bool d, .slice out.a out.len out.cap] h Q := by
  intro n
  induction n using Nat.strongRecOn with
  | _ n ih =>
  intro left p hln A s1 s2 out d es h R hpl h1r h2r hs hb Q hq
  refine trie_branch_match_calls _ s1 s2 d out h Q ?_
  unfold trie_branch_match
  rw [HM.ite_apply]
  cases hg : mget N p with
  | none =>
    rw [if_pos (by rfl)]
    rw [matchE_none hg] at hq
    exact hq out [] h (List.Perm.refl _) (by rw [List.append_nil]; exact hs)
  | some nd =>
  rw [if_neg (by simp)]
  have hr1 := h1r hs.p2
  refine bind_call1 (Clip_spec hr1.2.1 ⟨_, rfl, ?_⟩)
  refine ⟨_, rfl, some nd.nm, by rw [add_own]; exact (nds_cell hg hs).2, ?_⟩
  (try dsimp only); rw [HM.bind_apply]
  refine nds_next (x := hashS) hg hs ?_
  rw [next_ptr hT hg]
  refine bind_cut (fun z h' => h' = h ∧ z.1 = ((mget N (p ++ [hashS])).isSome && !d)) ?_ ?_
  · (try dsimp only); rw [HM.ite_apply]
    cases mget N (p ++ [hashS]) with
    | none => rw [if_neg (by simp)]; exact ⟨rfl, rfl⟩
    | some c => rw [if_pos (by rfl)]; exact ⟨rfl, rfl⟩
  rintro ⟨x5, ⟨⟩⟩ h1 ⟨rfl, hx5⟩
  simp only at hx5
  subst hx5
  -- '#'
  have hb1 : es.length + (if d = true then [] else entAt N (p ++ [hashS])).length ≤ 100000 := by
    cases left with
    | nil => rw [matchE_nil hg, List.length_append] at hb; omega
    | cons x r => rw [matchE_cons hg, List.length_append] at hb; omega
  refine bind_cut (fun z h' => ∃ l1, l1.Perm (if d = true then [] else entAt N (p ++ [hashS])) ∧ sat h' (ndsA N :: ownS encE 3 z.1 (es ++ l1) :: A :: R)) ?_ ?_
  · (try dsimp only); rw [HM.ite_apply]
    cases hh : mget N (p ++ [hashS]) with
    | none =>
      rw [if_neg (by simp)]
      refine ⟨[], ?_, by rw [List.append_nil]; exact hs⟩
      have : entAt N (p ++ [hashS]) = [] := by unfold entAt; rw [hh]
      rw [this]
      split <;> exact List.Perm.refl _
    | some c =>
      cases d with
      | true =>
        rw [if_neg (by simp)]
        exact ⟨[], by simp, by rw [List.append_nil]; exact hs⟩
      | false =>
        rw [if_pos (by rfl)]
        refine new_cells hs fun x7 h2 hs2 => ?_
        (try dsimp only); rw [HM.bind_apply]
        refine append_path (A := A) (h1r hs2.p3).clip rfl (by omega) hs2 fun s8 h3 hs3 => ?_
        have hs3' : sat h3 (ndsA N :: ownS encE 3 out es :: star (ownS eS 1 s8 (p ++ [hashS])) A :: cells x7 #[.string hashS] :: R) := (sat.star_iff.2 (hs3.re [0, 4, 1, 2, 3])).re [2, 3, 0, 1]
        have e0 : ((some c : Option Nd).bind fun nd => ptrOf nd) = ptrOf c := rfl
        rw [entAt_of hh] at hb1 ⊢
        refine bind_call1 (take_spec hh (fun hq' => hG _ _ hh hq') (by rw [List.length_append]; simp; omega) (fun hs' => (sat.star_iff.1 hs').own_row eS_len) hs3' (by simpa [entsOf] using hb1) fun o' l h4 hl hs4 => ⟨o', rfl, ?_⟩)
        refine ⟨l, by simpa using hl, ?_⟩
        have h5 := sat.star_iff.1 (hs4.re [2, 0, 1, 3])
        exact (h5.re [0, 4, 2, 3, 1]).drop.drop
  clear hs hb1
  rintro ⟨o1, ⟨⟩⟩ h2 ⟨l1, hp1, hs1⟩
  simp only at hs1
  have hl1 := hp1.length_eq
  have hl2 : s2.len = left.length := (h2r hs1.p2).1
  (try dsimp only); rw [HM.ite_apply]
  cases left with
  | nil =>
    rw [if_pos (by simp [hl2])]
    rw [matchE_nil hg] at hq hb
    rw [entAt_of hg] at hq hb
    rw [List.length_append] at hb
    have hb2 : (es ++ l1).length + nd.q.length ≤ 100000 := by
      rw [List.length_append, hl1]
      simp only [entsOf, List.length_map] at hb
      omega
    refine bind_call1 (take_spec (A := A) hg (hG _ _ hg) (by omega) (fun hs' => (h1r hs').clip) hs1 hb2 fun o' l h3 hl hs3 => ⟨o', rfl, ?_⟩)
    exact hq o' (l1 ++ l) h3 (hp1.append hl) (by rw [← List.append_assoc]; exact hs3)
  | cons x r =>
    rw [if_neg (by simp [hl2]; omega)]
    rw [matchE_cons hg] at hq hb
    simp only [List.length_append, List.length_cons] at hb hpl hln
    have hnx : ∀ (y : ByteArray) {h' : Heap} {R' : List Asn} {Q' : Option Addr × Bool → Heap → Prop}, sat h' (ndsA N :: R') → Q' ((mget N (p ++ [y])).bind fun n => ptrOf n, (mget nd.nx y).isSome) h' →
        HM.lookup (Instr.sameNow .string) (.pointer none) (.one .ptr) (some nd.nm) (.string y) h' Q' := fun y h' R' Q' hs' hq' => nds_next hg hs' (by rw [next_ptr hT hg]; exact hq')
    have hnm : ∀ {h' : Heap} {R' : List Asn}, sat h' (ndsA N :: R') → cellH h' ⟨nd.b, 1, none⟩ = some (.map (some nd.nm)) := fun hs' => (nds_cell hg hs').2
    -- '+'
    refine bind_cut (fun z h' => ∃ l2, l2.Perm (if d = true then [] else matchE N (p ++ [plusS]) r false) ∧ sat h' (ndsA N :: ownS encE 3 z.1 (es ++ l1 ++ l2) :: A :: R)) ?_ ?_
    · (try dsimp only); rw [HM.ite_apply]
      cases d with
      | true =>
        rw [if_neg (by simp)]
        exact ⟨[], by simp, by rw [List.append_nil]; exact hs1⟩
      | false =>
        rw [if_pos (by rfl)]
        refine ⟨_, rfl, some nd.nm, by rw [add_own]; exact hnm hs1, ?_⟩
        (try dsimp only); rw [HM.bind_apply]
        refine hnx plusS hs1 ?_
        (try dsimp only); rw [HM.bind_apply]
        refine slice_tail (h2r hs1.p2) ?_
        refine new_cells hs1 fun x16 h3 hs3 => ?_
        (try dsimp only); rw [HM.bind_apply]
        refine hnx plusS hs3.p1 ?_
        refine ⟨rfl, some nd.nm, by rw [add_own]; exact hnm hs3.p1, rfl, ?_⟩
        (try dsimp only); rw [HM.bind_apply]
        refine append_path (A := A) (h1r hs3.p3).clip rfl (by omega) hs3 fun s8 h4 hs4 => ?_
        (try dsimp only); rw [HM.bind_apply]
        refine hnx plusS hs4.p2 ?_
        refine ⟨rfl, some nd.nm, by rw [add_own]; exact hnm hs4.p2, rfl, ?_⟩
        have hs4' : sat h4 (ndsA N :: ownS encE 3 o1 (es ++ l1) :: star (ownS eS 1 s8 (p ++ [plusS])) A :: cells x16 #[.string plusS] :: R) := (sat.star_iff.2 (hs4.re [0, 4, 1, 2, 3])).re [2, 3, 0, 1]
        refine bind_call1 (ih r.length (by omega) r (p ++ [plusS]) rfl (by simp; omega) (fun hs' => (sat.star_iff.1 hs').own_row eS_len) (fun hs' => (h2r (sat.star_iff.1 hs').p1).tail) hs4' (by rw [List.length_append, hl1]; simp at hb ⊢; omega) fun o' l h5 hl hs5 => ⟨o', rfl, ?_⟩)
        refine ⟨l, by simpa using hl, ?_⟩
        have h6 := sat.star_iff.1 (hs5.re [2, 0, 1, 3])
        exact (h6.re [0, 4, 2, 3, 1]).drop.drop
    clear hs1
    rintro ⟨o2, ⟨⟩⟩ h3 ⟨l2, hp2, hs2⟩
    simp only at hs2
    have hl3 := hp2.length_eq
    refine ⟨_, rfl, some nd.nm, by rw [add_own]; exact hnm hs2, ?_⟩
    (try dsimp only); rw [HM.bind_apply]
    obtain ⟨a0, ha0, -⟩ := (h2r hs2.p2).2.2 0 x rfl
    have hcell : ∀ {h' : Heap} {R' : List Asn}, sat h' (A :: R') → cellH h' (a0.add ((0 : Int).toNat * 1)) = some (.string x) := fun hs' => by
      obtain ⟨a1, e1, e2⟩ := (h2r hs').2.2 0 x rfl
      rw [ha0] at e1
      cases e1
      exact e2 0 _ rfl
    have hidx : ∀ {h' : Heap} {Q' : Addr → Heap → Prop}, Q' (a0.add ((0 : Int).toNat * 1)) h' → HM.idx s2.a s2.len 0 1 h' Q' := fun hq' => ⟨a0, ha0, Int.le_refl _, by rw [hl2]; simp, hq'⟩
    refine hidx ?_
    refine ⟨x, hcell hs2.p2, ?_⟩
    (try dsimp only); rw [HM.bind_apply]
    refine hnx x hs2 ?_
    (try dsimp only); rw [HM.bind_apply]
    refine hidx ?_
    refine ⟨x, hcell hs2.p2, ?_⟩
    (try dsimp only); rw [HM.bind_apply]
    refine slice_tail (h2r hs2.p2) ?_
    refine new_cells hs2 fun x31 h4 hs3 => ?_
    (try dsimp only); rw [HM.bind_apply]
    refine hnx x hs3.p1 ?_
    refine ⟨rfl, x, hcell hs3.p3, rfl, some nd.nm, by rw [add_own]; exact hnm hs3.p1, rfl, ?_⟩
    (try dsimp only); rw [HM.bind_apply]
    refine append_path (A := A) (h1r hs3.p3).clip rfl (by omega) hs3 fun s8 h5 hs4 => ?_
    (try dsimp only); rw [HM.bind_apply]
    refine hnx x hs4.p2 ?_
    refine ⟨rfl, x, hcell hs4.p4, rfl, some nd.nm, by rw [add_own]; exact hnm hs4.p2, rfl, ?_⟩
    have hs4' : sat h5 (ndsA N :: ownS encE 3 o2 (es ++ l1 ++ l2) :: star (ownS eS 1 s8 (p ++ [x])) A :: cells x31 #[.string x] :: R) := (sat.star_iff.2 (hs4.re [0, 4, 1, 2, 3])).re [2, 3, 0, 1]
    refine bind_call1 (ih r.length (by omega) r (p ++ [x]) rfl (by simp; omega) (fun hs' => (sat.star_iff.1 hs').own_row eS_len) (fun hs' => (h2r (sat.star_iff.1 hs').p1).tail) hs4' (by rw [List.length_append, List.length_append, hl1, hl3]; omega) fun o' l h6 hl hs5 => ⟨o', rfl, ?_⟩)
    refine hq o' (l1 ++ (l2 ++ l)) h6 (hp1.append (hp2.append hl)) ?_
    have h7 := sat.star_iff.1 (hs5.re [2, 0, 1, 3])
    have h8 : sat h6 (ndsA N :: ownS encE 3 o' (es ++ l1 ++ l2 ++ l) :: A :: R) := (h7.re [0, 4, 2, 3, 1]).drop.drop
    rw [List.append_assoc, List.append_assoc] at h8
    exact h8

end Go.Proofs.YtnpgpijkofbknaaGreatDoor
