/-
  Ctrh: contracts: the document's Add.
-/
import Derived.Test.YtnpgpijkofbknaaGreatDoorCtrg
import Derived.Test.YtnpgpijkofbknaaGreatDoorHu
namespace Go.Proofs.YtnpgpijkofbknaaGreatDoor
open Go.H Go.Proofs
set_option linter.unusedSimpArgs false
set_option linter.unusedVariables false
set_option synthInstance.maxSize 100000
set_option synthInstance.maxHeartbeats 400000
set_option maxRecDepth 100000

variable {h h0 : Heap} {R : List Asn}

theorem ahead_spec (hs : sat h R) {a b : Ent} {Q : Value → Heap → Prop} (hq : ∀ h', sat h' R → Q (.bool (decide (ltK (keyE a) (keyE b)))) h') :
    HCalls Tryz.prog 35 #[.agg #[.int .i64 a.1, .string a.2.1, .int .i64 a.2.2], .agg #[.int .i64 b.1, .string b.2.1, .int .i64 b.2.2]] h Q := by
  refine ref09_ahead_calls (a.1, a.2.1, a.2.2, ()) (b.1, b.2.1, b.2.2, ()) h Q ?_
  unfold ref09_ahead
  refine new_cells hs fun x1 h1 hs1 => ?_
  refine new_cells hs1 fun x2 h2 hs2 => ?_
  refine bind_cut (fun z h' => h' = h2 ∧ z.1 = decide (ltK (keyE a) (keyE b))) ?_ ?_
  · refine ⟨a.1, by rw [add_own]; exact hs2.p1.cell 0, b.1, by rw [add_own]; exact hs2.cell 0, ?_⟩
    (try dsimp only); rw [HM.ite_apply]
    by_cases h1 : a.1 < b.1
    · rw [if_pos (by simpa using h1)]
      exact ⟨rfl, (decide_eq_true (.inl h1)).symm⟩
    · rw [if_neg (by simpa using h1)]
      refine ⟨a.1, by rw [add_own]; exact hs2.p1.cell 0, b.1, by rw [add_own]; exact hs2.cell 0, ?_⟩
      (try dsimp only); rw [HM.ite_apply]
      by_cases h2 : a.1 = b.1
      · rw [if_pos (by simpa using h2)]
        refine ⟨a.2.1, by rw [add_own]; exact hs2.p1.cell 1, b.2.1, by rw [add_own]; exact hs2.cell 1, rfl, ?_⟩
        apply Bool.eq_iff_iff.2
        rw [less_ltS, decide_eq_true_eq, decide_eq_true_eq]
        constructor
        · intro h3; exact .inr ⟨h2, h3⟩
        · rintro (h3 | h3)
          · exact absurd h3 h1
          · exact h3.2
      · rw [if_neg (by simpa using h2)]
        refine ⟨rfl, (decide_eq_false ?_).symm⟩
        rintro (h3 | h3)
        · exact h1 h3
        · exact h2 h3.1
  rintro ⟨z, ⟨⟩⟩ h3 ⟨rfl, hz⟩
  simp only at hz
  subst hz
  exact hq h3 hs2.drop.drop

theorem cnt_snoc {L : List Ent} {i : Nat} {x : Ent} (hx : L[i]? = some x) (k : Int) : cntL (L.take (i + 1)) k = cntL (L.take i) k + if x.1 = k then 1 else 0 := by
  unfold cntL
  rw [List.take_add_one, hx, List.map_append, List.count_append]
  simp [List.count_cons]

set_option maxHeartbeats 2000000 in
theorem rAdd_spec {r : Nat} {L : List Ent} {id q : Int} {f : ByteArray} (hsz : f.size ≤ 9223372036854775800) (hl : L.length ≤ 10000) (hs : sat h (refA9 r L :: R)) {Q : Value → Heap → Prop}
    (hbad : filterOK f = false → ∀ h', sat h' (refA9 r L :: R) → Q (.int .i64 143) h')
    (hqos : filterOK f = true → (q < 0 ∨ 2 < q) → ∀ h', sat h' (refA9 r L :: R) → Q (.int .i64 155) h')
    (hset : filterOK f = true → 0 ≤ q → q ≤ 2 → ∀ i x, L[i]? = some x → keyE x = (id, f) → (∀ y ∈ L.take i, keyE y ≠ (id, f)) → ∀ h', sat h' (refA9 r (L.set i (id, f, q)) :: R) → Q (.int .i64 0) h')
    (hfull : filterOK f = true → 0 ≤ q → q ≤ 2 → (∀ x ∈ L, keyE x ≠ (id, f)) → 64 ≤ cntL L id → ∀ h', sat h' (refA9 r L :: R) → Q (.int .i64 151) h')
    (hadd : filterOK f = true → 0 ≤ q → q ≤ 2 → (∀ x ∈ L, keyE x ≠ (id, f)) → cntL L id < 64 → ∀ h', sat h' (refA9 r (insS ltK keyE (id, f, q) L) :: R) → Q (.int .i64 0) h') :
    HCalls Tryz.prog 19 #[at9 r, vEnt id f q] h Q := by
  refine ref09_Add_calls (some ⟨r, 0, none⟩) (id, f, q, ()) h Q ?_
  unfold ref09_Add
  refine new_cells hs fun x1 h1 hs1 => ?_
  have hE : ∀ {h' : Heap} {R' : List Asn}, sat h' (cells x1 #[.int .i64 id, .string f, .int .i64 q] :: R') → cellH h' ⟨x1, 0, none⟩ = some (.int .i64 id) ∧ cellH h' ⟨x1, 1, none⟩ = some (.string f) ∧ cellH h' ⟨x1, 2, none⟩ = some (.int .i64 q) := fun hs' => ⟨hs'.cell 0, hs'.cell 1, hs'.cell 2⟩
  refine ⟨f, by rw [add_own]; exact (hE hs1).2.1, ?_⟩
  refine bind_call1 (rCheckFilter_spec hs1 hsz fun h2 hs2 => ⟨filtC f, rfl, ?_⟩)
  clear hs1 hs
  (try dsimp only); rw [HM.ite_apply]
  unfold filtC
  by_cases hf : filterOK f = true
  case neg =>
    rw [if_neg hf, if_pos (by decide)]
    exact hbad (by simpa using hf) h2 hs2.drop
  rw [if_pos hf, if_neg (by decide)]
  clear hbad
  refine bind_cut (fun x h' => h' = h2 ∧ (x.1 = true ↔ (q < 0 ∨ 2 < q))) ?_ ?_
  · refine ⟨q, by rw [add_own]; exact (hE hs2).2.2, ?_⟩
    (try dsimp only); rw [HM.ite_apply]
    by_cases g1 : q < 0
    · rw [if_pos (by simpa using g1)]
      exact ⟨rfl, by simp [g1]⟩
    · rw [if_neg (by simpa using g1)]
      exact ⟨q, by rw [add_own]; exact (hE hs2).2.2, rfl, by simp [g1]⟩
  rintro ⟨x, ⟨⟩⟩ h3 ⟨rfl, hx⟩
  simp only at hx
  rw [HM.ite_apply]
  by_cases g : q < 0 ∨ 2 < q
  · rw [if_pos (hx.2 g)]
    exact hqos hf g h3 hs2.drop
  rw [if_neg (fun e => g (hx.1 e))]
  clear hx hqos
  have hq0 : 0 ≤ q := by omega
  have hq2 : q ≤ 2 := by omega
  clear g
  obtain ⟨s, hs3'⟩ := refA9_iff.1 hs2.p1
  have hs3 : sat h3 (cells r #[.slice s.a s.len s.cap] :: ownS encE 3 s L :: cells x1 #[.int .i64 id, .string f, .int .i64 q] :: R) := hs3'
  clear hs3' hs2
  have hlen := hs3.p1.own_len
  have cr : ∀ {h' : Heap} {R' : List Asn}, sat h' (cells r #[.slice s.a s.len s.cap] :: R') → cellH h' ⟨r, 0, none⟩ = some (.slice s.a s.len s.cap) := fun hs' => hs'.cell 0
  have cntb : ∀ g, cntL (L.take g) id ≤ 10000 := fun g => Nat.le_trans (cnt_le _ _) (by rw [List.length_take]; omega)
  rw [HM.bind_apply]
  refine loop_gx (γ := Nat) (hb := fun s => by
      repeat' with_reducible first
        | refine @mono_bind _ _ _ _ ?_ (fun _ => ?_)
        | refine @mono_ite _ _ _ _ ?_ ?_
        | refine @mono_req _ _ _ ?_
        | refine @mono_elim _ _ _ _ _ _ (fun _ => ?_) (fun _ => ?_)
      all_goals infer_instance)
    (fun g x h' => g ≤ L.length ∧ x.2.1 = (g : Int) ∧ x.1 = (cntL (L.take g) id : Int) ∧ (∀ y ∈ L.take g, keyE y ≠ (id, f)) ∧
      sat h' (cells r #[.slice s.a s.len s.cap] :: ownS encE 3 s L :: cells x1 #[.int .i64 id, .string f, .int .i64 q] :: R)) (fun g => L.length - g) 0
    ⟨Nat.zero_le _, rfl, by simp [cntL], by simp, hs3⟩ ?_
  clear hs3
  rintro i ⟨n, ci, ⟨⟩⟩ h4 ⟨hi, hci, hcn, hno, hs4⟩
  simp only at hi hci hcn hno hs4
  subst hci
  have next : IntKind.wrap .i64 ((i : Int) + 1) = ((i + 1 : Nat) : Int) := by rw [wrap_id (by omega) (by omega)]; rfl
  refine ⟨_, rfl, s, by rw [add_own]; exact cr hs4, ?_⟩
  (try dsimp only); rw [HM.ite_apply]
  by_cases hlt : i < L.length
  · rw [if_pos (by simp only [decide_eq_true_eq]; omega)]
    have hx := List.getElem?_eq_getElem hlt
    generalize L[i] = e at hx
    have hcs := cnt_snoc hx id
    have hcb := cntb i
    have nokey : keyE e ≠ (id, f) → ∀ y ∈ L.take (i + 1), keyE y ≠ (id, f) := by
      intro he y hy
      rw [List.take_add_one, hx] at hy
      rcases List.mem_append.1 hy with hy | hy
      · exact hno y hy
      · simp at hy; subst hy; exact he
    refine bind_cut (fun z h' => (∃ m, z = .inl (m, ()) ∧ m = (cntL (L.take (i + 1)) id : Int) ∧ keyE e ≠ (id, f) ∧ sat h' (cells r #[.slice s.a s.len s.cap] :: ownS encE 3 s L :: cells x1 #[.int .i64 id, .string f, .int .i64 q] :: R)) ∨
      (z = .inr (.inr (.inr (0, ()))) ∧ keyE e = (id, f) ∧ sat h' (cells r #[.slice s.a s.len s.cap] :: ownS encE 3 s (L.set i (id, f, q)) :: cells x1 #[.int .i64 id, .string f, .int .i64 q] :: R))) ?_ ?_
    · refine ⟨_, rfl, s, by rw [add_own]; exact cr hs4, ?_⟩
      (try dsimp only); rw [HM.bind_apply]
      refine idx_row (hs4.p1.own_row eE_len) hx fun a ha => ?_
      refine ⟨e.1, ha 0 _ rfl, id, by rw [add_own]; exact (hE hs4.p2).1, ?_⟩
      (try dsimp only); rw [HM.ite_apply]
      by_cases h1 : e.1 = id
      · rw [if_neg (by simp [h1])]
        rw [if_pos h1] at hcs
        refine ⟨_, rfl, s, by rw [add_own]; exact cr hs4, ?_⟩
        (try dsimp only); rw [HM.bind_apply]
        refine idx_row (hs4.p1.own_row eE_len) hx fun a ha => ?_
        refine ⟨e.2.1, ha 1 _ rfl, f, by rw [add_own]; exact (hE hs4.p2).2.1, ?_⟩
        (try dsimp only); rw [HM.ite_apply]
        by_cases h2 : e.2.1 = f
        · rw [if_pos (by simpa using h2)]
          refine ⟨_, rfl, s, by rw [add_own]; exact cr hs4, q, by rw [add_own]; exact (hE hs4.p2).2.2, ?_⟩
          (try dsimp only); rw [HM.bind_apply]
          refine idx_own eE_len hs4.p1 hx fun p hp hst => ?_
          (try dsimp only); rw [HM.bind_apply]
          refine hst 2 _ (id, f, q) _ (by decide) (by simp [h1, h2]) rfl fun h5 hs5 => ?_
          exact .inr ⟨rfl, by rw [← h1, ← h2], hs5.p1⟩
        · rw [if_neg (by simpa using h2)]
          refine .inl ⟨_, rfl, ?_, fun hk => h2 (congrArg Prod.snd hk), hs4⟩
          rw [hcn, wrap_id (by omega) (by omega), hcs]
          rfl
      · rw [if_pos (by simp [h1])]
        rw [if_neg h1] at hcs
        exact .inl ⟨_, rfl, by rw [hcn, hcs]; rfl, fun hk => h1 (congrArg Prod.fst hk), hs4⟩
    rintro z h5 (⟨m, rfl, hm, hk, hs5⟩ | ⟨rfl, hk, hs5⟩)
    · simp only [Sum.elim_inl, Sum.elim_inr, HM.pure_apply]
      exact .mk (i + 1) (by omega) ⟨by omega, next, hm, nokey hk, hs5⟩
    · simp only [Sum.elim_inl, Sum.elim_inr, HM.pure_apply]
      exact hset hf hq0 hq2 i e hx hk hno h5 (refA9_iff.2 ⟨s, (hs5.re [2, 0, 1]).drop⟩)
  rw [if_neg (by simp only [decide_eq_true_eq]; omega)]
  have : i = L.length := by omega
  subst this
  rw [List.take_length] at hcn hno
  simp only [Sum.elim_inl, Sum.elim_inr, HM.pure_apply]
  clear hset next hlt hi
  rw [HM.ite_apply]
  by_cases hfl : 64 ≤ cntL L id
  · rw [if_pos (by rw [hcn]; simp only [decide_eq_true_eq]; omega)]
    exact hfull hf hq0 hq2 hno hfl h4 (refA9_iff.2 ⟨s, (hs4.re [2, 0, 1]).drop⟩)
  rw [if_neg (by rw [hcn]; simp only [decide_eq_true_eq]; omega)]
  clear hfull
  -- it is put in its place
  refine bind_cut (fun x h' => (if x.1 = true then ∃ out, out = insS ltK keyE (id, f, q) L ∧ sat h' (ownS encE 3 x.2.1 out :: cells r #[.slice s.a s.len s.cap] :: ownS encE 3 s L :: cells x1 #[.int .i64 id, .string f, .int .i64 q] :: R)
      else ∃ out, out ++ [(id, f, q)] = insS ltK keyE (id, f, q) L ∧ sat h' (ownS encE 3 x.2.1 out :: cells r #[.slice s.a s.len s.cap] :: ownS encE 3 s L :: cells x1 #[.int .i64 id, .string f, .int .i64 q] :: R))) ?_ ?_
  · refine loop_gx (γ := Nat × List Ent) (hb := fun s => by
        repeat' with_reducible first
          | refine @mono_bind _ _ _ _ ?_ (fun _ => ?_)
          | refine @mono_ite _ _ _ _ ?_ ?_
          | refine @mono_req _ _ _ ?_
        all_goals infer_instance)
      (fun g x h' => g.1 ≤ L.length ∧ x.2.2.1 = (g.1 : Int) ∧ g.2.length ≤ 2 * g.1 ∧ (if x.1 = true then g.2 ++ L.drop g.1 = insS ltK keyE (id, f, q) L else g.2 ++ insS ltK keyE (id, f, q) (L.drop g.1) = insS ltK keyE (id, f, q) L) ∧
        sat h' (ownS encE 3 x.2.1 g.2 :: cells r #[.slice s.a s.len s.cap] :: ownS encE 3 s L :: cells x1 #[.int .i64 id, .string f, .int .i64 q] :: R)) (fun g => L.length - g.1) (0, [])
      ⟨Nat.zero_le _, rfl, by simp, by simp, ownS_nil hs4⟩ ?_
    clear hs4
    rintro ⟨i, out⟩ ⟨put, o, ci, ⟨⟩⟩ h5 ⟨hi, hci, hol, hJ, hs5⟩
    simp only at hi hci hol hJ hs5
    subst hci
    have next : IntKind.wrap .i64 ((i : Int) + 1) = ((i + 1 : Nat) : Int) := by rw [wrap_id (by omega) (by omega)]; rfl
    refine ⟨_, rfl, s, by rw [add_own]; exact cr hs5.p1, ?_⟩
    (try dsimp only); rw [HM.ite_apply]
    by_cases hlt : i < L.length
    · rw [if_pos (by simp only [decide_eq_true_eq]; omega)]
      have hdr := List.drop_eq_getElem_cons hlt
      have hx := List.getElem?_eq_getElem hlt
      generalize L[i] = e at hx hdr
      refine loadN_cells (ts := [.int .i64, .str, .int .i64]) (id, f, q, ()) hs5.p3 rfl ?_
      refine ⟨_, rfl, s, by rw [add_own]; exact cr hs5.p1, ?_⟩
      (try dsimp only); rw [HM.bind_apply]
      refine idx_row (hs5.p2.own_row eE_len) hx fun a ha => ?_
      refine loadN_of (ts := [.int .i64, .str, .int .i64]) (e.1, e.2.1, e.2.2, ()) (fun j v hv => ha j v hv) ?_
      refine bind_call1 (ahead_spec (a := (id, f, q)) (b := e) hs5 fun h6 hs6 => ⟨_, rfl, ?_⟩)
      refine bind_cut (fun z h' => h' = h6 ∧ z.1 = (decide (ltK (id, f) (keyE e)) && !put)) ?_ ?_
      · (try dsimp only); rw [HM.ite_apply]
        by_cases h1 : ltK (id, f) (keyE e)
        · rw [if_pos (by simpa using h1)]; exact ⟨rfl, by simp [h1]⟩
        · rw [if_neg (by simpa using h1)]; exact ⟨rfl, by simp [h1]⟩
      rintro ⟨z, ⟨⟩⟩ h7 ⟨rfl, hz⟩
      simp only at hz
      subst hz
      refine bind_cut (fun z h' => ∃ out', out'.length ≤ out.length + 1 ∧ (if z.2.1 = true then out' ++ e :: L.drop (i + 1) = insS ltK keyE (id, f, q) L else out' ++ e :: insS ltK keyE (id, f, q) (L.drop (i + 1)) = insS ltK keyE (id, f, q) L) ∧
        sat h' (ownS encE 3 z.1 out' :: cells r #[.slice s.a s.len s.cap] :: ownS encE 3 s L :: cells x1 #[.int .i64 id, .string f, .int .i64 q] :: R)) ?_ ?_
      · (try dsimp only); rw [HM.ite_apply]
        rw [hdr] at hJ
        by_cases hc : (decide (ltK (id, f) (keyE e)) && !put) = true
        · rw [if_pos hc]
          rw [Bool.and_eq_true, decide_eq_true_eq, Bool.not_eq_true'] at hc
          obtain ⟨hlt', rfl⟩ := hc
          refine loadN_cells (ts := [.int .i64, .str, .int .i64]) (id, f, q, ()) hs6.p3 rfl ?_
          refine new_cells hs6 fun y h8 hs8 => ?_
          (try dsimp only); rw [HM.bind_apply]
          refine append_own (enc := encE) (ys := [(id, f, q)]) eE_len eE_cell rfl hs8.p1 rfl ?_ (by decide) (by decide) (by omega) fun s' h9 hs9 => ?_
          · simp only [srcSlc, Nat.one_mul, List.flatMap_cons, List.flatMap_nil, List.append_nil]
            exact hs8.reads rfl
          refine ⟨out ++ [(id, f, q)], by simp, ?_, (hs9.re [1, 0, 2, 3, 4]).drop⟩
          rw [if_neg (by simp)] at hJ
          rw [if_pos rfl, ← hJ, insS, if_pos hlt', List.append_assoc]
          rfl
        · rw [if_neg hc]
          refine ⟨out, by omega, ?_, hs6⟩
          (try dsimp only)
          cases put with
          | true => exact hJ
          | false =>
            rw [if_neg (by simp)] at hJ ⊢
            rw [insS, if_neg (by simpa using hc)] at hJ
            exact hJ
      rintro ⟨o', put', ⟨⟩⟩ h8 ⟨out', hol', hJ', hs8⟩
      simp only at hJ' hs8
      refine ⟨_, rfl, s, by rw [add_own]; exact cr hs8.p1, ?_⟩
      (try dsimp only); rw [HM.bind_apply]
      refine idx_row (hs8.p2.own_row eE_len) hx fun a ha => ?_
      refine loadN_of (ts := [.int .i64, .str, .int .i64]) (e.1, e.2.1, e.2.2, ()) (fun j v hv => ha j v hv) ?_
      refine new_cells hs8 fun y h9 hs9 => ?_
      (try dsimp only); rw [HM.bind_apply]
      refine append_own (enc := encE) (ys := [e]) eE_len eE_cell rfl hs9.p1 rfl ?_ (by decide) (by decide) (by omega) fun s' h10 hs10 => ?_
      · simp only [srcSlc, Nat.one_mul, List.flatMap_cons, List.flatMap_nil, List.append_nil]
        exact hs9.reads rfl
      simp only [Sum.elim_inl, Sum.elim_inr, HM.pure_apply]
      refine .mk (i + 1, out' ++ [e]) (by simp only []; omega) ⟨by simp only []; omega, next, by simp only [List.length_append, List.length_cons, List.length_nil]; omega, ?_, (hs10.re [1, 0, 2, 3, 4]).drop⟩
      simp only [List.append_assoc, List.singleton_append]
      exact hJ'
    · rw [if_neg (by simp only [decide_eq_true_eq]; omega)]
      have : i = L.length := by omega
      subst this
      rw [List.drop_length] at hJ
      simp only [Sum.elim_inl, Sum.elim_inr, HM.pure_apply]
      cases put with
      | true =>
        rw [if_pos rfl] at hJ ⊢
        rw [List.append_nil] at hJ
        exact ⟨out, hJ, hs5⟩
      | false =>
        rw [if_neg (by simp)] at hJ ⊢
        exact ⟨out, hJ, hs5⟩
  clear hs4
  rintro ⟨put, o, ci, ⟨⟩⟩ h5 hs5
  simp only at hs5
  have hil : (insS ltK keyE (id, f, q) L).length = L.length + 1 := (insS_perm ltK keyE _ L).length_eq
  refine bind_cut (fun z h' => sat h' (ownS encE 3 z.1 (insS ltK keyE (id, f, q) L) :: cells r #[.slice s.a s.len s.cap] :: ownS encE 3 s L :: R)) ?_ ?_
  · (try dsimp only); rw [HM.ite_apply]
    cases put with
    | true =>
      rw [if_neg (by simp)]
      rw [if_pos rfl] at hs5
      obtain ⟨out, rfl, hs6⟩ := hs5
      exact (hs6.re [3, 0, 1, 2]).drop
    | false =>
      rw [if_pos (by simp)]
      rw [if_neg (by simp)] at hs5
      obtain ⟨out, ho, hs6⟩ := hs5
      have hol : out.length ≤ 20000 := by
        have := congrArg List.length ho
        rw [List.length_append, hil] at this
        simp at this
        omega
      refine loadN_cells (ts := [.int .i64, .str, .int .i64]) (id, f, q, ()) hs6.p3 rfl ?_
      refine new_cells hs6 fun y h8 hs8 => ?_
      (try dsimp only); rw [HM.bind_apply]
      refine append_own (enc := encE) (ys := [(id, f, q)]) eE_len eE_cell rfl hs8.p1 rfl ?_ (by decide) (by decide) (by omega) fun s' h9 hs9 => ?_
      · simp only [srcSlc, Nat.one_mul, List.flatMap_cons, List.flatMap_nil, List.append_nil]
        exact hs8.reads rfl
      rw [ho] at hs9
      exact (hs9.re [1, 4, 0, 2, 3]).drop.drop
  rintro ⟨o', ⟨⟩⟩ h6 hs6
  simp only at hs6
  refine ⟨_, rfl, ?_⟩
  (try dsimp only); rw [HM.bind_apply, add_own]
  refine store1_cells hs6.p1 (by simp) rfl fun h7 hs7 => ?_
  exact hadd hf hq0 hq2 hno (by omega) h7 (refA9_iff.2 ⟨o', (hs7.re [2, 0, 1]).drop⟩)

end Go.Proofs.YtnpgpijkofbknaaGreatDoor
