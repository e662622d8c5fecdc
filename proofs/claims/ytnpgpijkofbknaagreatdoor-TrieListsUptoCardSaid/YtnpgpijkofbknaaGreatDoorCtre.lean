/-
  Ctre: contracts: tries over the document's list: New, Add, Remove.
-/
import Derived.Test.YtnpgpijkofbknaaGreatDoorCsrt
namespace Go.Proofs.YtnpgpijkofbknaaGreatDoor
open Go.H Go.Proofs
set_option linter.unusedSimpArgs false
set_option linter.unusedVariables false
set_option synthInstance.maxSize 100000
set_option synthInstance.maxHeartbeats 400000
set_option maxRecDepth 100000

variable {h h0 : Heap} {R : List Asn}

/-- a trie that has a list's entries -/
def trieA (t : Nat) (L : List Ent) : Asn := exA fun x : Nds × List (Int × Int) => star (pr (TriAbs x.1 L ∧ CntOK x.2 L)) (trM t x.1 x.2)

theorem trieA_iff {t : Nat} {L : List Ent} : sat h (trieA t L :: R) ↔ ∃ N C, TriAbs N L ∧ CntOK C L ∧ sat h (trM t N C :: R) := by
  unfold trieA
  rw [sat.ex_iff]
  constructor
  · rintro ⟨⟨N, C⟩, hs⟩
    rw [sat.star_iff, sat.pr_iff] at hs
    exact ⟨N, C, hs.1.1, hs.1.2, hs.2⟩
  · rintro ⟨N, C, h1, h2, hs⟩
    refine ⟨(N, C), ?_⟩
    rw [sat.star_iff, sat.pr_iff]
    exact ⟨⟨h1, h2⟩, hs⟩

theorem cnt_le (L : List Ent) (k : Int) : cntL L k ≤ L.length := by
  unfold cntL
  have := List.count_le_length (a := k) (l := L.map (·.1))
  simpa using this

theorem tNew_spec (hs : sat h R) {Q : Value → Heap → Prop} (hq : ∀ t h', sat h' (trieA t [] :: R) → Q (at9 t) h') : HCalls Tryz.prog 15 #[] h Q := by
  refine triNew_spec hs fun t nd h' h1 h2 hs' => hq t h' (trieA_iff.2 ⟨_, _, ⟨by simp, List.Pairwise.nil, ?_⟩, ?_, hs'⟩)
  · intro p k q
    constructor
    · intro he
      exfalso
      unfold ent at he
      rw [mget_cons, mget_nil] at he
      by_cases e : ([] : Path) = p
      · rw [if_pos e] at he
        rw [Option.bind_some, h1] at he
        simp at he
      · rw [if_neg e] at he
        simp at he
    · rintro ⟨f, -, hm⟩
      simp at hm
  · intro k
    simp [cntL]

theorem tAdd_spec {t : Nat} {L : List Ent} (ht : TP h0) {id q : Int} {f : ByteArray} (hsz : f.size ≤ 9223372036854775807) (hl : L.length ≤ 100000) (hs : sat h (trieA t L :: old h0 :: R)) {Q : Value → Heap → Prop}
    (hbad : filterOK f = false → ∀ h', sat h' (trieA t L :: old h0 :: R) → Q (.int .u8 143) h')
    (hqos : filterOK f = true → (q < 0 ∨ 2 < q) → ∀ h', sat h' (trieA t L :: old h0 :: R) → Q (.int .u8 155) h')
    (hset : filterOK f = true → 0 ≤ q → q ≤ 2 → ∀ i x, L[i]? = some x → keyE x = (id, f) → ∀ h', sat h' (trieA t (L.set i (id, f, q)) :: old h0 :: R) → Q (.int .u8 0) h')
    (hfull : filterOK f = true → 0 ≤ q → q ≤ 2 → (∀ x ∈ L, keyE x ≠ (id, f)) → 64 ≤ cntL L id → ∀ h', sat h' (trieA t L :: old h0 :: R) → Q (.int .u8 151) h')
    (hadd : filterOK f = true → 0 ≤ q → q ≤ 2 → (∀ x ∈ L, keyE x ≠ (id, f)) → cntL L id < 64 → ∀ h', sat h' (trieA t (insS ltK keyE (id, f, q) L) :: old h0 :: R) → Q (.int .u8 0) h') :
    HCalls Tryz.prog 13 #[at9 t, vEnt id f q] h Q := by
  obtain ⟨N, C, hA, hC, hs1⟩ := trieA_iff.1 hs
  have hg := hC.getD id
  refine Add_spec ht hsz hs1 (fun h1 h' hs' => hbad h1 h' (trieA_iff.2 ⟨N, C, hA, hC, hs'⟩)) (fun h1 h2 h' hs' => hqos h1 h2 h' (trieA_iff.2 ⟨N, C, hA, hC, hs'⟩)) (fun h1 h2 h3 q0 h4 N' h' h5 hs' => ?_)
    (fun h1 h2 h3 h4 h5 h' hs' => hfull h1 h2 h3 ((hA.none f id).1 h4) (by rw [hg] at h5; omega) h' (trieA_iff.2 ⟨N, C, hA, hC, hs'⟩)) (fun h1 h2 h3 h4 h5 N' h' h6 hs' => ?_)
  · have hm := (hA.get f id q0).1 h4
    obtain ⟨i, hi⟩ := List.mem_iff_getElem?.1 hm
    refine hset h1 h2 h3 i _ hi rfl h' (trieA_iff.2 ⟨N', C, hA.set hi rfl h1 h5, fun k => ?_, hs'⟩)
    rw [cnt_keys (set_same_fst (e := (id, f, q)) hi rfl)]
    exact hC k
  · have hno := (hA.none f id).1 h4
    rw [hg] at h5 hs'
    rw [wrap_id (by have := cnt_le L id; omega) (by have := cnt_le L id; omega)] at hs'
    exact hadd h1 h2 h3 hno (by omega) h' (trieA_iff.2 ⟨N', _, hA.ins hno h1 h6, hC.ins (id, f, q), hs'⟩)

theorem trM_cnt {t : Nat} {N : Nds} {C : List (Int × Int)} (hs : sat h (trM t N C :: R)) : (C.map (·.1)).Nodup ∧ ∀ p nd, mget N p = some nd → (nd.q.map (·.1)).Nodup ∧ (nd.nx.map (·.1)).Nodup := by
  obtain ⟨rb, cm, hT, hs1⟩ := trM_iff.1 hs
  exact ⟨hs1.p2.map_nodup, fun p nd hp => nds_nodup hp hs1.p1⟩

theorem tRemove_spec {t : Nat} {L : List Ent} (ht : TP h0) {id : Int} {f : ByteArray} (hsz : f.size ≤ 16777216) (hl : L.length ≤ 100000) (hs : sat h (trieA t L :: old h0 :: R)) {Q : Value → Heap → Prop}
    (hq : ∀ h', sat h' (trieA t (delL L id f) :: old h0 :: R) → Q (.bool (decide ((delL L id f).length < L.length))) h') :
    HCalls Tryz.prog 14 #[at9 t, .int .i64 id, .string f] h Q := by
  obtain ⟨N, C, hA, hC, hs1⟩ := trieA_iff.1 hs
  have hg := hC.getD id
  refine Remove_spec ht hsz hs1 (fun hn h' hs' => ?_) (fun q0 hq0 N' h' hN hs' => ?_)
  · have hno := (hA.none f id).1 hn
    have e := delL_none hno
    rw [e] at hq
    have := hq h' (trieA_iff.2 ⟨N, C, hA, hC, hs'⟩)
    simpa using this
  · have hm := (hA.get f id q0).1 hq0
    have hlt : (delL L id f).length < L.length := by
      have := cnt_del hA.asc hm id
      rw [if_pos rfl] at this
      refine Nat.lt_of_le_of_ne (List.length_filter_le _ _) fun e => ?_
      have := List.length_filter_eq_length_iff.1 e _ hm
      simp at this
    have hC' := hC.del hA.asc (trM_cnt hs1).1 hm
    rw [hg] at hs'
    rw [wrap_id (by have := cnt_le L id; omega) (by have := cnt_le L id; omega)] at hs'
    have := hq h' (trieA_iff.2 ⟨N', _, hA.del hN, hC', hs'⟩)
    rw [decide_eq_true hlt] at this
    exact this

end Go.Proofs.YtnpgpijkofbknaaGreatDoor
