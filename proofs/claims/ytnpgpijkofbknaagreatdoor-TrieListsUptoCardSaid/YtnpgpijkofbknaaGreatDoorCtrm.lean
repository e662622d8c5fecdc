/-
  Ctrm: contracts: tries: texts of branches; take, match.
-/
import Derived.Test.YtnpgpijkofbknaaGreatDoorCtrc
import Derived.Test.YtnpgpijkofbknaaGreatDoorKjoin
import Derived.Shelf.Strings.OnBuilder
namespace Go.H
section
variable {α : Type} {enc : α → List Value} {size : Nat} {h : Heap} {s : Slc} {x : α} {xs : List α}
theorem RowAt.clip (hr : RowAt enc size h s xs) : RowAt enc size h (sliceOf s 0 s.len s.len size) xs := by
  have h1 := hr.1
  refine ⟨by simp only [sliceOf]; omega, by simp only [sliceOf]; omega, fun i y hy => ?_⟩
  obtain ⟨a, ha, hc⟩ := hr.2.2 i y hy
  refine ⟨a, ?_, hc⟩
  simp only [sliceOf, ha]
  split
  · rfl
  · simp [add_zero]
end
end Go.H
namespace Go.Proofs.YtnpgpijkofbknaaGreatDoor
open Go.H Go.Proofs
set_option linter.unusedSimpArgs false
set_option linter.unusedVariables false
set_option synthInstance.maxSize 100000
set_option synthInstance.maxHeartbeats 400000
set_option maxRecDepth 100000

variable {h h0 : Heap} {R : List Asn}

/-- the text of a path -/
def joinB (p : Path) : ByteArray := ⟨(Lib.join (p.map (·.data.toList)) [47]).toArray⟩

theorem join_lev (c : UInt8) : ∀ (r x : List UInt8), Lib.join (lev c x r) [c] = x ++ r
  | [], x => by simp [lev, Lib.join_one]
  | b :: r, x => by
    unfold lev
    by_cases e : b = c
    · rw [if_pos e]
      have ih := join_lev c r []
      have hne : lev c [] r ≠ [] := fun h => by have := lev_len c r []; rw [h] at this; simp at this
      obtain ⟨y, ys, hy⟩ := List.exists_cons_of_ne_nil hne
      rw [hy, Lib.join_cons] at ih ⊢
      rw [← e] at ih ⊢
      simp only [Lib.joinTail, List.map_cons, List.flatten_cons] at ih ⊢
      simp only [List.nil_append] at ih
      rw [← ih]
      simp
    · rw [if_neg e, join_lev c r (x ++ [b])]
      simp

theorem join_levels (f : ByteArray) : joinB (levels f) = f := by
  unfold joinB
  rw [levels_data, join_lev, List.nil_append]

theorem Join9_spec (hs : sat h R) {s : Slc} {xs : Path} (hr : RowAt eS 1 h s xs) (hne : xs ≠ []) (hN : xs.length ≤ 100000) (hlen : (joinB xs).size ≤ 100000) {Q : Value → Heap → Prop} (hq : ∀ h', sat h' R → Q (.string (joinB xs)) h') :
    HCalls Tryz.prog 52 #[.slice s.a s.len s.cap] h Q := by
  refine topic_Join_calls s h Q ?_
  unfold topic_Join
  obtain ⟨x, xr, rfl⟩ := List.exists_cons_of_ne_nil hne
  obtain ⟨a, ha, hc0⟩ := hr.2.2 0 x rfl
  have h00 := hc0 0 _ rfl
  have hsp := cellH_spot h00
  obtain ⟨b, o, sp⟩ := a
  have hsp' : sp = none := by simpa [Addr.add] using hsp
  subst hsp'
  refine bind_call1 ?_
  have hsl : (Value.slice s.a s.len s.cap) = .slice (some ⟨b, o, none⟩) (x :: xr).length s.cap := by rw [ha, hr.1]
  rw [hsl]
  refine calls_below hs (fun w hw => Any.strings_Join joinL joinX b o s.cap (x :: xr) (ByteArray.mk #[47]) w (fun j y hy => ?_) ?_ (by omega) (by rw [← hr.1]; exact hr.2.1) ?_) fun h' hs' => ⟨_, rfl, ?_⟩
  · obtain ⟨a', ha', hc⟩ := hr.2.2 j y hy
    rw [ha] at ha'
    cases ha'
    have := hc 0 _ rfl
    subst hw
    rw [Nat.mul_one, Addr.add_at, Addr.add_at, Nat.add_zero] at this
    exact this
  · subst hw
    have h1 : cellH w.heap ⟨b, o, none⟩ = some (.string x) := by simpa [Addr.add] using h00
    unfold cellH at h1
    cases hx : w.heap[b]? with
    | none => simp [hx] at h1
    | some ob => exact (Array.getElem?_eq_some_iff.1 hx).1
  · have : (joinB (x :: xr)).size = (Lib.join ((x :: xr).map (·.data.toList)) [47]).length := by simp [joinB, ByteArray.size]
    have e : (ByteArray.mk #[47]).data.toList = [47] := rfl
    rw [e, ← this]
    omega
  · exact hq h' hs'

/-! ### the entries of a branch -/

abbrev Ent := Int × ByteArray × Int
abbrev encE (x : Ent) : List Value := [.int .i64 x.1, .string x.2.1, .int .i64 x.2.2]
theorem eE_len (x : Ent) : (encE x).length = 3 := rfl
theorem eE_cell (x : Ent) : ∀ v ∈ encE x, v.oneCell' = true := by
  intro v hv; simp at hv; rcases hv with rfl | rfl | rfl <;> rfl

def entsOf (p : Path) (q : List (Int × Int)) : List Ent := q.map fun kv => (kv.1, joinB p, kv.2)
def entAt (N : Nds) (p : Path) : List Ent := match mget N p with | some nd => entsOf p nd.q | none => []

theorem take_spec {A : Asn} {N : Nds} {p : Path} {nd : Nd} (hnd : mget N p = some nd) (hne : nd.q ≠ [] → p ≠ [] ∧ (joinB p).size ≤ 100000) (hpl : p.length ≤ 100000) {s out : Slc} {es : List Ent}
    (hrow : ∀ {h' : Heap} {R' : List Asn}, sat h' (A :: R') → RowAt eS 1 h' s p) (hs : sat h (ndsA N :: ownS encE 3 out es :: A :: R)) (hb : es.length + nd.q.length ≤ 100000) {Q : Value → Heap → Prop}
    (hq : ∀ out' l h', l.Perm (entsOf p nd.q) → sat h' (ndsA N :: ownS encE 3 out' (es ++ l) :: A :: R) → Q (.slice out'.a out'.len out'.cap) h') :
    HCalls Tryz.prog 37 #[.pointer (ptrOf nd), .slice s.a s.len s.cap, .slice out.a out.len out.cap] h Q := by
  refine trie_branch_take_calls (ptrOf nd) s out h Q ?_
  unfold trie_branch_take
  refine ⟨_, rfl, some nd.qm, by rw [add_own]; exact (nds_cell hnd hs).1, ?_⟩
  obtain ⟨l1, l2, rfl, hn, hs1'⟩ := nds_open hnd hs
  have hs1 : sat h (mapA eKI9 eVI9 nd.qm nd.q :: ownS encE 3 out es :: A :: cells nd.b #[.map (some nd.qm), .map (some nd.nm)] :: mapA eKS9 eVP9 nd.nm nd.nx :: bigA (fun p : Path × Nd => ndA p.2) (l1 ++ l2) :: R) := hs1'.re [1, 4, 5, 0, 2, 3]
  clear hs1' hs
  (try dsimp only); rw [HM.bind_apply]
  refine range_map hs1 fun it h1 hs2 => ?_
  refine loop_gx (γ := List (Int × Int) × List (Int × Int)) (hb := fun s => by
      repeat' with_reducible first
        | refine @mono_bind _ _ _ _ ?_ (fun _ => ?_)
        | refine @mono_opt _ _ _ _ _ ?_ (fun _ => ?_)
        | refine @mono_ite _ _ _ _ ?_ ?_
        | refine @mono_req _ _ _ ?_
      all_goals infer_instance)
    (fun g x h' => (g.1 ++ g.2).Perm nd.q ∧ sat h' (itA eKI9 eVI9 nd.qm nd.q it g.1 g.2 :: ownS encE 3 x.1 (es ++ entsOf p g.1) :: A :: cells nd.b #[.map (some nd.qm), .map (some nd.nm)] :: mapA eKS9 eVP9 nd.nm nd.nx :: bigA (fun p : Path × Nd => ndA p.2) (l1 ++ l2) :: R))
    (fun g => g.2.length) ([], nd.q) ⟨List.Perm.refl _, by simpa [entsOf] using hs2⟩ ?_
  clear hs1 hs2
  rintro ⟨done, todo⟩ ⟨o1, ⟨⟩⟩ h2 ⟨hp, hs2⟩
  simp only at hp hs2
  have hdl : done.length + todo.length = nd.q.length := by have := hp.length_eq; simpa using this
  rw [HM.bind_apply]
  refine next_map hs2 (fun h0 => ?_) (fun kv t1 t2 ht h3 hs3 => ?_)
  · subst h0
    (try dsimp only); rw [opt_none, HM.ite_apply, if_neg (by simp)]
    simp only [Sum.elim_inl, Sum.elim_inr, HM.pure_apply]
    rw [List.append_nil] at hp
    refine hq o1 (entsOf p done) h2 (hp.map _) ?_
    have h4 := itA_map hs2
    have h5 := nds_shut (p := p) (nd := nd) (nd' := nd) hn (h4.re [3, 0, 4, 5, 1, 2])
    rw [mset_same hnd] at h5
    exact h5
  · subst ht
    (try dsimp only); rw [opt_some, HM.ite_apply, if_pos rfl]
    rw [HM.bind_apply]
    refine entry_map (kk := .one (.int .i64)) (kv := .one (.int .i64)) (ek := eKI9) (ev := eVI9) (p := kv) (x := kv.1) (y := kv.2) rfl rfl hs3 ?_
    have hq0 : nd.q ≠ [] := fun e => by rw [e] at hp; simp at hp
    obtain ⟨hne1, hne2⟩ := hne hq0
    refine bind_call1 (Join9_spec hs3 (hrow hs3.p2) hne1 hpl hne2 fun h4 hs4 => ⟨joinB p, rfl, ?_⟩)
    refine new_cells hs4 fun x10 h5 hs5 => ?_
    (try dsimp only); rw [HM.bind_apply]
    refine append_own (enc := encE) (ys := [(kv.1, joinB p, kv.2)]) eE_len eE_cell rfl hs5.p2 rfl ?_ (by decide) (by decide) ?_ fun o2 h6 hs6 => ?_
    · simp only [srcSlc, Nat.one_mul, List.flatMap_cons, List.flatMap_nil, List.append_nil]
      exact hs5.reads rfl
    · rw [List.length_append, entsOf, List.length_map]
      simp only [List.length_append, List.length_cons] at hdl
      omega
    simp only [Sum.elim_inl, Sum.elim_inr, HM.pure_apply]
    refine .mk (done ++ [kv], t1 ++ t2) (by simp) ⟨?_, ?_⟩
    · refine List.Perm.trans ?_ hp
      simp only [List.append_assoc]
      refine List.Perm.append_left done ?_
      show (kv :: (t1 ++ t2)).Perm _
      exact List.perm_middle.symm
    · have e : es ++ entsOf p (done ++ [kv]) = es ++ entsOf p done ++ [(kv.1, joinB p, kv.2)] := by simp [entsOf]
      rw [e]
      exact (hs6.re [1, 2, 0]).drop

end Go.Proofs.YtnpgpijkofbknaaGreatDoor
